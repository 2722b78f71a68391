/- The field: the table, New, Mul, Inv, Div, Pow; the reference's. -/
import Derived.Test.YtpeiejkcoadhfaaDkA
import Derived.Test.YtpeiejkcoadhfaaPGfPowsx1
set_option linter.all false
/- The field of 256 elements: products bit by bit, and by logarithms. -/
namespace Gf
/-- x times a byte, less the modulus -/
def dbl (a : Nat) : Nat := if a < 128 then 2 * a else (2 * a) ^^^ 283
def step (a : Nat) : Nat := a ^^^ dbl a
def ET : Nat := 0xf652c7b46c241cfda297847cdd4b39170df2a794858a8f8c8d7b29ee5a36120ef351c6423ee3a891868b79de4acf45ca46cbb099772d1b0907f4a563211ffc54c543c8b16f25eaaf6523e858c1b69b80898e7adfbc9d827e2aefac64d5ba9f75dabf9c742ced5bc040c9473de25ec3413f15fa5632e75dc2b76dd24e3a16fba06020e9ae93712fecad92877d2b19fea361d6bb69271d0bf0503010f957c4b59a76db49ceb398817fdcbd6bd0b99e838878281808f1a662d74d3be0a967d44ccdb26ed3b868d14fcc443c140c04f55331e6ab9070d9be6a26eb5937e45c34e5aa66221e0a0602f7a49573d84838e15f3513f8a196722e1aff5533110f050301
def LT : Nat := 0x770f7c0808c630d18fe31c5deed4a67a5e3997726b87cb4892e2023d9921144abd3f2565d9e2a14476da2413c843953d15b3f37cdcf95bcfcdcbe619087b2979d2955aa6ca1523b86b160fb5a3ebbccb77b76a42d1f43d8ec49c4176ff60c7fa051a99cb05fcb59f50b16eb7a75d72ce8ade6e7d5e9ae4f74d6eaf450a858af57a773f3e5acd44eca5e9f9b150a792bba3d85fa54286b3a421eb6a3c3486e7e1091882298e225b3628b06bf30fddd6638834640f1d25c1394ced036bddb8f968eda93354582f01224e10f21058a2f657809c99a72a6e44d6a27b9f9b51dc27dc11c69f8c808714cef818d340ee0046403dfee33681bc74bc61a023201190000
/-- the powers of 3, and the logarithms -/
def E (i : Nat) : Nat := (ET >>> (8 * i)) % 256
def L (a : Nat) : Nat := (LT >>> (8 * a)) % 256
def addBit (a b p i : Nat) : Nat := if b >>> i % 2 = 1 then p ^^^ (a <<< i) else p
def clm (a b : Nat) : Nat := addBit a b (addBit a b (addBit a b (addBit a b (addBit a b (addBit a b (addBit a b (addBit a b 0 0) 1) 2) 3) 4) 5) 6) 7
def redBit (p i : Nat) : Nat := if p >>> i % 2 = 1 then p ^^^ (283 <<< (i - 8)) else p
def red (p : Nat) : Nat := redBit (redBit (redBit (redBit (redBit (redBit (redBit p 14) 13) 12) 11) 10) 9) 8
def mulN (a b : Nat) : Nat := red (clm a b)
theorem xor4 (a b c d : Nat) : (a ^^^ b) ^^^ (c ^^^ d) = (a ^^^ c) ^^^ (b ^^^ d) := by
  rw [Nat.xor_assoc, Nat.xor_assoc, ← Nat.xor_assoc b c d, Nat.xor_comm b c, Nat.xor_assoc c b d]
theorem addBit_xor (a a' b p p' i : Nat) : addBit (a ^^^ a') b (p ^^^ p') i = addBit a b p i ^^^ addBit a' b p' i := by
  unfold addBit
  split
  · rw [Nat.shiftLeft_xor_distrib, xor4]
  · rfl
theorem clm_xor (a a' b : Nat) : clm (a ^^^ a') b = clm a b ^^^ clm a' b := by
  unfold clm
  rw [← addBit_xor, ← addBit_xor, ← addBit_xor, ← addBit_xor, ← addBit_xor, ← addBit_xor, ← addBit_xor, ← addBit_xor, Nat.xor_self]
theorem redBit_xor (p q i : Nat) : redBit (p ^^^ q) i = redBit p i ^^^ redBit q i := by
  unfold redBit
  rw [Nat.shiftRight_xor_distrib]
  have h := @Nat.xor_mod_two_eq_one (p >>> i) (q >>> i)
  by_cases h1 : p >>> i % 2 = 1 <;> by_cases h2 : q >>> i % 2 = 1
  · rw [if_neg (by rw [h]; simp [h1, h2]), if_pos h1, if_pos h2, xor4, Nat.xor_self, Nat.xor_zero]
  · rw [if_pos (by rw [h]; simp [h1, h2]), if_pos h1, if_neg h2, Nat.xor_assoc, Nat.xor_comm q, ← Nat.xor_assoc]
  · rw [if_pos (by rw [h]; simp [h1, h2]), if_neg h1, if_pos h2, Nat.xor_assoc]
  · rw [if_neg (by rw [h]; simp [h1, h2]), if_neg h1, if_neg h2]
theorem red_xor (p q : Nat) : red (p ^^^ q) = red p ^^^ red q := by
  unfold red
  simp only [redBit_xor]
theorem mulN_xor (a a' b : Nat) : mulN (a ^^^ a') b = mulN a b ^^^ mulN a' b := by
  unfold mulN; rw [clm_xor, red_xor]

set_option maxRecDepth 100000 in
theorem E_L : ∀ a < 256, a ≠ 0 → E (L a) = a ∧ L a < 255 := by decide +kernel
set_option maxRecDepth 100000 in
theorem E_pos : ∀ i < 255, 0 < E i ∧ E i < 256 ∧ L (E i) = i := by decide +kernel
set_option maxRecDepth 100000 in
theorem E_step : ∀ i < 254, E (i + 1) = step (E i) := by decide +kernel
set_option maxRecDepth 100000 in
theorem mul_E : ∀ i < 255, ∀ j < 255, mulN (E i) (E j) = E ((i + j) % 255) := by decide +kernel
set_option maxRecDepth 100000 in
theorem mul_0 : ∀ b < 256, mulN 0 b = 0 ∧ mulN b 0 = 0 := by decide +kernel
end Gf
/- The field: double, the powers' iterator. -/
namespace Go.Proofs.Ytpeiejkcoadhfaa
open Go.RowKit Go.Shelf Go.Proofs.YtpeiejkcoadhfaaW.PrintWords
attribute [local go_sem] Oper.semAt_some

theorem ofInt_u8 (a : Nat) (ha : a < 256) : (BitVec.ofInt 8 (a : Int)).toNat = a := by
  rw [BitVec.ofInt_natCast, BitVec.toNat_ofNat]; exact Nat.mod_eq_of_lt (by omega)
theorem u8_xor (a b : Nat) (ha : a < 256) (hb : b < 256) : bits .xor .u8 (a : Int) (b : Int) = ((a ^^^ b : Nat) : Int) := by
  have hx : a ^^^ b < 2 ^ 8 := Nat.xor_lt_two_pow (by omega) (by omega)
  show IntKind.u8.wrap ((BitVec.ofInt 8 (a : Int) ^^^ BitVec.ofInt 8 (b : Int)).toNat : Int) = _
  rw [BitVec.toNat_xor, ofInt_u8 a ha, ofInt_u8 b hb]
  simp only [IntKind.wrap, IntKind.bits, IntKind.signed]
  simp
  omega
set_option maxRecDepth 100000 in
theorem dbl_hi : ∀ a < 256, 128 ≤ a → ((2 * a) % 256) ^^^ 27 = Gf.dbl a := by decide +kernel
set_option maxRecDepth 100000 in
theorem dbl_lt : ∀ a < 256, Gf.dbl a < 256 := by decide +kernel

set_option maxRecDepth 100000 in
theorem dbl_lo : ∀ a < 128, (2 * a) % 256 = Gf.dbl a := by decide +kernel
set_option maxRecDepth 100000 in
theorem double_any (w : World) (a : Nat) (ha : a < 256) : Calls Try.prog 116 #[.int .u8 a] w fun e w' => e = .returned (.int .u8 (Gf.dbl a : Nat)) ∧ w = w' := by
  by_cases h : 128 ≤ a
  · have hx : bits .xor .u8 ((a : Int) * 2 % 256) 27 = ((Gf.dbl a : Nat) : Int) := by
      have hx := u8_xor ((2 * a) % 256) 27 (Nat.mod_lt _ (by omega)) (by omega)
      rw [dbl_hi a ha h] at hx
      rw [← hx]
      congr 1
      omega
    have HX := Aside0.mk hx
    clear hx
    go_enter Try.func116, Try.ntmps116
    go_wp2
    go_ret
    exact ⟨congrArg (fun z => Ending.returned (.int .u8 z)) HX.out, rfl⟩
  · have hx : (a : Int) * 2 = ((Gf.dbl a : Nat) : Int) := by rw [← dbl_lo a (by omega)]; omega
    have HX := Aside0.mk hx
    clear hx
    go_enter Try.func116, Try.ntmps116
    go_wp2
    go_ret
    exact ⟨congrArg (fun z => Ending.returned (.int .u8 z)) HX.out, rfl⟩

/-- The powers, one by one. -/
def pairP (x : Nat × Nat) : Array Value := #[.int .i64 (x.1 : Int), .int .u8 (x.2 : Int)]
def powList (k : Nat) : List (Nat × Nat) := (List.range k).map fun n => (n, Gf.E n)
theorem powList_snoc (k : Nat) : powList (k + 1) = powList k ++ [(k, Gf.E k)] := by simp [powList, List.range_succ]
theorem powList_length (k : Nat) : (powList k).length = k := by simp [powList]
set_option maxRecDepth 100000 in
theorem powers_seq (S : Nat → Prop) (w : World) : SeqF Try.prog 115 #[] pairP (fun pre x _ => x = (pre.length, Gf.E pre.length) ∧ pre.length < 255) S (fun xs => xs = powList 255) w := by
  intro l J W hW hJ hY h0
  refine callsIn_of_wp Try.func115 rfl trivial ?_ rfl
  simp only [Try.ntmps115, List.size_toArray, List.length_cons, List.length_nil, Nat.reduceAdd, Nat.reduceSub, Array.replicate_succ, Array.replicate_zero, List.push_toArray, List.append_toArray, List.nil_append, List.cons_append]
  gi_wp2
  gi_loopw [2, 4] (fun v2 v4 wr => ∃ (k a : Nat), k ≤ 255 ∧ v4 = .int .i64 k ∧ v2 = .int .u8 a ∧ a < 256 ∧ (k < 255 → a = Gf.E k) ∧ J (powList k) wr) (fun _ v4 _ => 255 - (intOf v4).toNat)
  case atStart => exact ⟨0, 1, by omega, rfl, rfl, by omega, fun _ => by decide +kernel, h0⟩
  case round =>
    obtain ⟨k, a, hk, rfl, rfl, ha, hae, hj⟩ := hrel
    have HY := Aside0.mk hY
    have HJ := Aside0.mk hJ
    have HAE := Aside0.mk hae
    clear hY hJ hae
    by_cases hlt : k < 255
    · obtain ⟨fn, tmps, assign, body, hy, hR⟩ := HY.out (powList k) (k, a) wr hj ⟨by rw [powList_length, HAE.out hlt], by rw [powList_length]; exact hlt⟩
      have hy' : (Instr.yield l #[.int .i64 (k : Int), .int .u8 (a : Int)]).run Try.prog wr = .ok (.round l fn tmps assign body) wr := hy
      clear hy
      have hd : Gf.dbl a < 256 := dbl_lt a ha
      have HX := Aside0.mk (u8_xor a (Gf.dbl a) ha hd)
      gi_wp2
      refine hR.mono ?_
      rintro e W' ⟨rfl, hj', -⟩
      gi_wp2_with (refine ⟨trivial, ?_⟩; gi_at_call 116; refine (callsIn_wide.2 (double_any _ a ha)).mono ?_; rintro e W' ⟨rfl, rfl⟩)
      rw [HX.out]
      gi_wp2
      have hs : k + 1 < 255 → Gf.E (k + 1) = a ^^^ Gf.dbl a := fun h => by rw [Gf.E_step k (by omega), ← HAE.out hlt]; rfl
      go_roundw
      case rel => exact ⟨k + 1, a ^^^ Gf.dbl a, by omega, rfl, rfl, Nat.xor_lt_two_pow (n := 8) (by omega) (by omega), fun h => (hs h).symm, by rw [powList_snoc, ← HAE.out hlt]; exact hj'⟩
      case measure => simp only [intOf]; omega
    · have hk5 : k = 255 := by omega
      subst hk5
      gi_wp2
      go_end0
      exact ⟨⟨_, rfl⟩, _, rfl, hj⟩
end Go.Proofs.Ytpeiejkcoadhfaa
/- gf.New: the field's tables. -/
namespace Go.Proofs.Ytpeiejkcoadhfaa
open Go.RowKit Go.Shelf Go.Proofs.YtpeiejkcoadhfaaW.PrintWords
attribute [local go_sem] Oper.semAt_some

/-- The tables, as far as m powers are laid. -/
def Tabs (m : Nat) (g : Nat) (w : World) : Prop := ∃ cs : Array Value, w.heap[g]? = some (.cells cs 95 (0, 0)) ∧ cs.size = 766 ∧
  (∀ i < 510, ∃ v : Nat, cs[i]? = some (.int .u8 (v : Int)) ∧ (i % 255 < m → v = Gf.E (i % 255))) ∧
  (∀ a < 256, ∃ v : Nat, cs[510 + a]? = some (.int .i64 (v : Int)) ∧ (∀ i < m, i < 255 → a = Gf.E i → v = i))

def zf : Array Value := (Array.replicate 510 (.int .u8 0)) ++ (Array.replicate 256 (.int .i64 0))
theorem zf_eq : Try.zeroCells95 = zf := by kernel_rfl
theorem tabs_zf (W : World) (g : Nat) (h : W.heap[g]? = some (.cells zf 95 (0, 0))) : Tabs 0 g W := by
  refine ⟨zf, h, by simp [zf], fun i hi => ⟨0, ?_, fun h => absurd h (by omega)⟩, fun a ha => ⟨0, ?_, fun i h => absurd h (by omega)⟩⟩
  · simp [zf, Array.getElem?_append, hi]
  · simp only [zf, Array.getElem?_append, Array.size_replicate, Array.getElem?_replicate]
    rw [if_neg (by omega), if_pos (by omega)]
    rfl

theorem tabs_step {W : World} {g m a : Nat} {cs : Array Value} (hc : W.heap[g]? = some (.cells cs 95 (0, 0))) (hcz : cs.size = 766) (hm : m < 255) (ha : a = Gf.E m)
    (he : ∀ i < 510, ∃ v : Nat, cs[i]? = some (.int .u8 (v : Int)) ∧ (i % 255 < m → v = Gf.E (i % 255)))
    (hl : ∀ a < 256, ∃ v : Nat, cs[510 + a]? = some (.int .i64 (v : Int)) ∧ (∀ i < m, i < 255 → a = Gf.E i → v = i)) :
    Tabs (m + 1) g (((W.setCell ⟨g, m, none⟩ (.int .u8 a)).setCell ⟨g, m + 255, none⟩ (.int .u8 a)).setCell ⟨g, 510 + a, none⟩ (.int .i64 m)).drew := by
  have ha2 : a < 256 := by rw [ha]; exact (Gf.E_pos m hm).2.1
  refine ⟨((cs.setIfInBounds m (.int .u8 a)).setIfInBounds (m + 255) (.int .u8 a)).setIfInBounds (510 + a) (.int .i64 m), ?_, by simp [hcz], ?_, ?_⟩
  · exact heap_setCell_same _ _ _ _ _ _ (heap_setCell_same _ _ _ _ _ _ (heap_setCell_same _ _ _ _ _ _ hc))
  · intro i hi
    by_cases h1 : i = m
    · refine ⟨a, ?_, fun _ => by rw [h1, Nat.mod_eq_of_lt hm]; exact ha⟩
      rw [Array.getElem?_setIfInBounds_ne (by omega), Array.getElem?_setIfInBounds_ne (by omega), h1, Array.getElem?_setIfInBounds_self_of_lt (by omega)]
    by_cases h2 : i = m + 255
    · refine ⟨a, ?_, fun _ => by rw [h2, Nat.add_mod_right, Nat.mod_eq_of_lt hm]; exact ha⟩
      rw [Array.getElem?_setIfInBounds_ne (by omega), h2, Array.getElem?_setIfInBounds_self_of_lt (by simp; omega)]
    obtain ⟨v, hv, hv2⟩ := he i hi
    refine ⟨v, ?_, fun h => hv2 (by omega)⟩
    rw [Array.getElem?_setIfInBounds_ne (by omega), Array.getElem?_setIfInBounds_ne (by omega), Array.getElem?_setIfInBounds_ne (by omega)]
    exact hv
  · intro b hb
    by_cases h1 : b = a
    · refine ⟨m, ?_, fun i hi hi2 he2 => ?_⟩
      · rw [h1, Array.getElem?_setIfInBounds_self_of_lt (by simp; omega)]
      · rw [h1, ha] at he2
        have h1 := (Gf.E_pos m hm).2.2
        have h2 := (Gf.E_pos i hi2).2.2
        rw [he2] at h1
        omega
    obtain ⟨v, hv, hv2⟩ := hl b hb
    refine ⟨v, ?_, fun i hi hi2 he2 => ?_⟩
    · rw [Array.getElem?_setIfInBounds_ne (by omega), Array.getElem?_setIfInBounds_ne (by omega), Array.getElem?_setIfInBounds_ne (by omega)]
      exact hv
    · by_cases h3 : i = m
      · rw [h3, ← ha] at he2; exact absurd he2 h1
      · exact hv2 i (by omega) hi2 he2

theorem powers_any (w : World) : Calls Try.prog 75 #[] w fun e w' => e = .returned (.func (.func 115) #[] #[]) ∧ w = w' := by
  go_enter Try.func75, Try.ntmps75
  go_wp2
  go_ret
  exact ⟨rfl, rfl⟩

def Fld (w : World) (g : Nat) : Prop := Tabs 255 g w

set_option maxRecDepth 100000 in
set_option maxHeartbeats 1600000 in
theorem New_any (w : World) : Calls Try.prog 28 #[] w fun e w' => ∃ g, e = .returned (.pointer (some ⟨g, 0, none⟩)) ∧ w.heap.size ≤ g ∧ g < w'.heap.size ∧ Fld w' g ∧ Fr (fun _ => False) w w' := by
  refine (callsIn_wide (n := 3)).1 (callsIn_of_wp_marks Try.func28 rfl trivial ?_ rfl)
  simp only [Try.ntmps28, List.size_toArray, List.length_nil, Nat.reduceSub, Array.replicate_succ, Array.replicate_zero, List.push_toArray, List.append_toArray, List.nil_append, List.cons_append]
  gi_wp2_with (refine ⟨trivial, ?_⟩; gi_at_call 75; refine (callsIn_wide.2 (powers_any _)).mono ?_; rintro e W' ⟨rfl, rfl⟩)
  obtain ⟨w2, hw2⟩ : ∃ w2, w2 = ((w.alloc (Obj.cells Try.zeroCells95 95)).alloc (Obj.cells #[Value.pointer (some { block := w.heap.size, off := 0 })] 23)) := ⟨_, rfl⟩
  have hz2 : w2.heap.size = w.heap.size + 2 := by rw [hw2]; simp
  have hb2 : Below w.heap.size w w2 := by rw [hw2]; exact below_alloc (below_alloc (Below.refl _ _) _) _
  have hg2 : w2.heap[w.heap.size]? = some (.cells zf 95 (0, 0)) := by rw [hw2, zf_eq]; exact (Below.heap_alloc _ _ _ (by simp)).trans (World.alloc_heap_new _ _)
  have hf2 : w2.heap[w.heap.size + 1]? = some (.cells #[.pointer (some ⟨w.heap.size, 0, none⟩)] 23 (0, 0)) := by
    rw [hw2]
    have := World.alloc_heap_new (w.alloc (Obj.cells Try.zeroCells95 95)) (Obj.cells #[Value.pointer (some { block := w.heap.size, off := 0 })] 23)
    rwa [World.size_alloc] at this
  rw [← hw2]
  clear hw2
  obtain ⟨g, hg⟩ : ∃ g, g = w.heap.size := ⟨_, rfl⟩
  rw [← hg] at hz2 hg2 hf2 ⊢
  refine range_fr (P := Try.prog) (gf := 115) (lb := #[]) rfl (fun _ _ => rfl) (encs := pairP) (Rel := fun pre x _ => x = (pre.length, Gf.E pre.length) ∧ pre.length < 255) (S := fun k => k = g) (Full := fun xs => xs = powList 255) (powers_seq _ _) (fun _ => rfl) (fun k hk => by omega)
    (fun pre W => Tabs pre.length g W ∧ Fr (fun k => k = g) w2 W) ?_ (fun pre s W W' h _ => h) ⟨tabs_zf w2 g hg2, Fr.refl _ _⟩
    (fun x => { tmps := #[Value.pointer none, Value.pointer (some { block := g + 1, off := 0 }), .int .i64 x.1, .int .u8 x.2,
          Value.agg Try.zeroCells95, Value.pointer (some { block := g, off := 0 }),
          Value.func (Fn.func 115) #[] #[], .int .i64 x.1, .int .u8 x.2, undef, undef, undef, undef, undef, undef, undef, undef, undef,
          undef, undef, undef, undef, undef, undef, undef, undef, undef, undef, undef], defers := [] }) ?_ ?_ ?_
  · rintro pre W W' ⟨⟨cs, hc, h⟩, hf⟩ hk
    exact ⟨⟨cs, hk.blk hc (fun h => by omega), h⟩, hf.trans hk (fun k h => .inr h.1)⟩
  · intro l pre x W K hr hK
    obtain ⟨rfl, -⟩ := hr
    subst hg
    rw [show pairP (pre.length, Gf.E pre.length) = #[.int .i64 (pre.length : Int), .int .u8 (Gf.E pre.length : Int)] from rfl, zip2]
    gi_wp2
    exact hK
  · rintro l pre x W hsz ⟨⟨cs, hc, hcz, he, hl⟩, hf⟩ ⟨rfl, hlt⟩
    obtain ⟨m, hm⟩ : ∃ m, m = pre.length := ⟨_, rfl⟩
    rw [← hm] at hlt he hl ⊢
    obtain ⟨a, ha⟩ : ∃ a, a = Gf.E m := ⟨_, rfl⟩
    have ha2 : a < 256 := by rw [ha]; exact (Gf.E_pos m hlt).2.1
    have hlen : (pre ++ [(m, a)]).length = m + 1 := by rw [List.length_append, ← hm]; rfl
    rw [← ha, hlen]
    have hb1 := hf.blk hf2 (by omega)
    have hc1 : W.cell? ⟨g + 1, 0, none⟩ = some (.pointer (some ⟨g, 0, none⟩)) := cell_at hb1 rfl
    obtain ⟨v1, hv1, _⟩ := he m (by omega)
    obtain ⟨v2, hv2, _⟩ := he (m + 255) (by omega)
    obtain ⟨v3, hv3, _⟩ := hl a ha2
    have hd1 : W.cell? ⟨g, m, none⟩ = some (.int .u8 v1) := cell_at hc hv1
    have hd2 : W.cell? ⟨g, m + 255, none⟩ = some (.int .u8 v2) := cell_at hc hv2
    have hd3 : W.cell? ⟨g, 510 + a, none⟩ = some (.int .i64 v3) := cell_at hc hv3
    have hz1 : W.frozen? ⟨g, m, none⟩ = false := frozen_at hc
    have hz2 : W.frozen? ⟨g, m + 255, none⟩ = false := frozen_at hc
    have hz3 : W.frozen? ⟨g, 510 + a, none⟩ = false := frozen_at hc
    have HT := Aside0.mk (And.intro hcz (And.intro he hl))
    have HE := Aside0.mk ha
    have HF := Aside0.mk hf
    have HC := Aside0.mk hc
    have HM := Aside0.mk hm
    have HG := Aside0.mk hg
    clear hf hl he ha hc hv1 hv2 hv3 hm hg
    have hne : g + 1 ≠ g := by omega
    have hw : IntKind.i64.wrap ((m : Int) + 255) = (m : Int) + 255 := IntWalk.i64_in _ ⟨by omega, by omega⟩
    have hi1 : m < 510 := by omega
    have hi2 : m + 255 < 510 := by omega
    have hi3 : (0 : Int) ≤ (m : Int) := by omega
    have hi4 : (m : Int) < 510 := by omega
    have hi5 : (m : Int) + 255 < 510 := by omega
    have hi6 : (0 : Int) ≤ (m : Int) + 255 := by omega
    have hi7 : ((m : Int) + 255).toNat = m + 255 := by omega
    have hi8 : (0 : Int) ≤ (a : Int) := by omega
    have hi9 : (a : Int) < 256 := by omega
    have mixed : Try.prog.follows .mixedOrders = true := by kernel_rfl
    gi_wp2
    refine region_inRound l mixed rfl (by kernel_rfl) ?_
    repeat' (first
      | exact AllReadyIn.nil
      | refine wpAnyIn_done (by decide +kernel) ?_ _
      | (refine wpAnyIn_take (i := 1) (v := ?_) rfl rfl (by kernel_rfl) (by decide +kernel) (by decide +kernel) (fun _ _ _ h => h) ⟨Or.inl ⟨by rfl, ?_⟩, fun _ => rfl⟩ ?_; rotate_left 1; focus (intro w; go_simp; (try with_reducible rfl); done))
      | (refine wpAnyIn_take (i := 3) (v := ?_) rfl rfl (by kernel_rfl) (by decide +kernel) (by decide +kernel) (fun _ _ _ h => h) ⟨Or.inl ⟨by rfl, ?_⟩, fun _ => rfl⟩ ?_; rotate_left 1; focus (intro w; go_simp; (try with_reducible rfl); done))
      | (refine wpAnyIn_take (i := 4) (v := ?_) rfl rfl (by kernel_rfl) (by decide +kernel) (by decide +kernel) (fun _ _ _ h => h) ⟨Or.inl ⟨by rfl, ?_⟩, fun _ => rfl⟩ ?_; rotate_left 1; focus (intro w; go_simp; (try with_reducible rfl); done))
      | (refine wpAnyIn_take (i := 5) (v := ?_) rfl rfl (by kernel_rfl) (by decide +kernel) (by decide +kernel) (fun _ _ _ h => h) ⟨Or.inl ⟨by rfl, ?_⟩, fun _ => rfl⟩ ?_; rotate_left 1; focus (intro w; go_simp; (try with_reducible rfl); done))
      | (refine wpAnyIn_take (i := 6) (v := ?_) rfl rfl (by kernel_rfl) (by decide +kernel) (by decide +kernel) (fun _ _ _ h => h) ⟨Or.inl ⟨by rfl, ?_⟩, fun _ => rfl⟩ ?_; rotate_left 1; focus (intro w; go_simp; (try with_reducible rfl); done))
      | (refine wpAnyIn_take (i := 7) (v := ?_) rfl rfl (by kernel_rfl) (by decide +kernel) (by decide +kernel) (fun _ _ _ h => h) ⟨Or.inl ⟨by rfl, ?_⟩, fun _ => rfl⟩ ?_; rotate_left 1; focus (intro w; go_simp; (try with_reducible rfl); done))
      | (refine wpAnyIn_take (i := 8) (v := ?_) rfl rfl (by kernel_rfl) (by decide +kernel) (by decide +kernel) (fun _ _ _ h => h) ⟨Or.inl ⟨by rfl, ?_⟩, fun _ => rfl⟩ ?_; rotate_left 1; focus (intro w; go_simp; (try with_reducible rfl); done))
      | (refine wpAnyIn_take (i := 11) (v := ?_) rfl rfl (by kernel_rfl) (by decide +kernel) (by decide +kernel) (fun _ _ _ h => h) ⟨Or.inl ⟨by rfl, ?_⟩, fun _ => rfl⟩ ?_; rotate_left 1; focus (intro w; go_simp; (try with_reducible rfl); done))
      | (refine wpAnyIn_take (i := 12) (v := ?_) rfl rfl (by kernel_rfl) (by decide +kernel) (by decide +kernel) (fun _ _ _ h => h) ⟨Or.inl ⟨by rfl, ?_⟩, fun _ => rfl⟩ ?_; rotate_left 1; focus (intro w; go_simp; (try with_reducible rfl); done))
      | refine wpAnyIn_ready (rs := [0]) (by decide +kernel) (by simp) ?_
      | refine wpAnyIn_ready (rs := [2]) (by decide +kernel) (by simp) ?_
      | refine wpAnyIn_ready (rs := [9]) (by decide +kernel) (by simp) ?_
      | refine wpAnyIn_ready (rs := [10]) (by decide +kernel) (by simp) ?_
      | refine wpAnyIn_ready (rs := [13]) (by decide +kernel) (by simp) ?_
      | refine wpAnyIn_ready (rs := [14]) (by decide +kernel) (by simp) ?_
      | refine wpAnyIn_ready (rs := [0, 2]) (by decide +kernel) (by simp) ?_
      | refine wpAnyIn_ready (rs := [0, 9]) (by decide +kernel) (by simp) ?_
      | refine wpAnyIn_ready (rs := [0, 10]) (by decide +kernel) (by simp) ?_
      | refine wpAnyIn_ready (rs := [2, 9]) (by decide +kernel) (by simp) ?_
      | refine wpAnyIn_ready (rs := [2, 10]) (by decide +kernel) (by simp) ?_
      | refine wpAnyIn_ready (rs := [2, 13]) (by decide +kernel) (by simp) ?_
      | refine wpAnyIn_ready (rs := [2, 14]) (by decide +kernel) (by simp) ?_
      | refine wpAnyIn_ready (rs := [10, 13]) (by decide +kernel) (by simp) ?_
      | refine AllReadyIn.cons rfl (fun K hK => ?_) ?_
      | (go_simp; refine hK _ _ ?_; clear hK K))
    all_goals (
      gi_wp2
      exact ⟨((((Fr.refl _ _).set_ (.inl (.inl rfl)) _).set_ (.inl (.inl rfl)) _).set_ (.inl (.inl rfl)) _).drew, tabs_step HC.out HT.out.1 hlt HE.out HT.out.2.1 HT.out.2.2, (((HF.out.set_ (.inl rfl) _).set_ (.inl rfl) _).set_ (.inl rfl) _).drew⟩)
  · rintro xs W hF ⟨ht, hf⟩ hK
    subst hF
    rw [powList_length] at ht
    have hb1 := hf.blk hf2 (by omega)
    have hc1 : W.cell? ⟨g + 1, 0, none⟩ = some (.pointer (some ⟨g, 0, none⟩)) := cell_at hb1 rfl
    obtain ⟨D, hD⟩ : ∃ D, D = w2.heap.size := ⟨_, rfl⟩
    have HT := Aside0.mk ht
    have HF := Aside0.mk hf
    clear ht hf
    rw [← hD] at hK ⊢
    subst hg
    gi_wp2
    refine ⟨by simp, .inl ⟨_, _, rfl, run_takeDeferred hK, ?_⟩⟩
    refine ⟨_, results_tmp rfl _ _ _, _, rfl, by omega, ?_, ?_, ?_⟩
    · have := HF.out.size
      simp only [World.putObj_size]
      omega
    · obtain ⟨cs, hc, h⟩ := HT.out
      exact ⟨cs, (World.putObj_heap_other (by omega)).trans hc, h⟩
    · have h1 : Fr (fun _ => False) w W := (Fr.of_below hb2 _).trans HF.out (fun k hk => .inr (by omega))
      exact h1.trans (fr_shut W D _) (fun k hk => .inr (by omega))
end Go.Proofs.Ytpeiejkcoadhfaa
/- The field's methods. -/
namespace Go.Proofs.Ytpeiejkcoadhfaa
open Go.RowKit Go.Shelf Go.Proofs.YtpeiejkcoadhfaaW.PrintWords

theorem L_lt (a : Nat) (ha : a < 256) : Gf.L a < 255 := by
  by_cases h : a = 0
  · subst h; decide +kernel
  · exact (Gf.E_L a ha h).2
theorem mul_EL (a b : Nat) (ha : a < 256) (hb : b < 256) (ha0 : a ≠ 0) (hb0 : b ≠ 0) : Gf.mulN a b = Gf.E ((Gf.L a + Gf.L b) % 255) := by
  have h1 := Gf.E_L a ha ha0
  have h2 := Gf.E_L b hb hb0
  have h3 := Gf.mul_E (Gf.L a) h1.2 (Gf.L b) h2.2
  rwa [h1.1, h2.1] at h3

theorem Fld.exp {w : World} {g : Nat} (h : Fld w g) (i : Nat) (hi : i < 510) : w.cell? ⟨g, i, none⟩ = some (.int .u8 (Gf.E (i % 255) : Nat)) := by
  obtain ⟨cs, hc, hcz, he, hl⟩ := h
  obtain ⟨v, hv, hv2⟩ := he i hi
  rw [hv2 (Nat.mod_lt _ (by omega))] at hv
  exact cell_at hc hv
theorem Fld.log {w : World} {g : Nat} (h : Fld w g) (a : Nat) (ha : a < 256) (h0 : a ≠ 0) : w.cell? ⟨g, 510 + a, none⟩ = some (.int .i64 (Gf.L a : Nat)) := by
  obtain ⟨cs, hc, hcz, he, hl⟩ := h
  obtain ⟨v, hv, hv2⟩ := hl a ha
  have h1 := Gf.E_L a ha h0
  rw [hv2 (Gf.L a) h1.2 h1.2 h1.1.symm] at hv
  exact cell_at hc hv
theorem Fld.fr {w W : World} {g : Nat} {S : Nat → Prop} (h : Fld w g) (hf : Fr S w W) (hg : ¬ S g) : Fld W g := by
  obtain ⟨cs, hc, h⟩ := h
  exact ⟨cs, hf.blk hc hg, h⟩
theorem Fld.drew {w : World} {g n : Nat} (h : Fld w g) : Fld (w.drewN n) g := h.fr ((Fr.refl (fun _ => False) w).drewN n) (fun h => h)

set_option maxRecDepth 100000 in
theorem Mul_any (w : World) (g a b : Nat) (hF : Fld w g) (ha : a < 256) (hb : b < 256) : Calls Try.prog 31 #[.pointer (some ⟨g, 0, none⟩), .int .u8 a, .int .u8 b] w fun e w' => e = .returned (.int .u8 (Gf.mulN a b : Nat)) ∧ Drawn0 w w' := by
  by_cases ha0 : a = 0
  · have hx := (Gf.mul_0 b hb).1
    rw [ha0, hx]
    clear hx hF
    go_enter Try.func31, Try.ntmps31
    go_wp2
    go_ret
    exact ⟨rfl, Drawn0.refl _⟩
  by_cases hb0 : b = 0
  · have hx := (Gf.mul_0 a ha).2
    rw [hb0, hx]
    have ha0' : ((a : Int) == 0) = false := by simpa using ha0
    clear hx hF
    go_enter Try.func31, Try.ntmps31
    go_wp2
    go_ret
    exact ⟨rfl, Drawn0.refl _⟩
  have h1 := L_lt a ha
  have h2 := L_lt b hb
  rw [mul_EL a b ha hb ha0 hb0]
  have c1 := hF.log a ha ha0
  have c2 := hF.log b hb hb0
  have c3 := hF.exp (Gf.L a + Gf.L b) (by omega)
  generalize Gf.E ((Gf.L a + Gf.L b) % 255) = v at *
  generalize Gf.L a = i at *
  generalize Gf.L b = j at *
  have ha0' : ((a : Int) == 0) = false := by simpa using ha0
  have hb0' : ((b : Int) == 0) = false := by simpa using hb0
  have hw : IntKind.i64.wrap ((i : Int) + (j : Int)) = (i : Int) + (j : Int) := IntWalk.i64_in _ ⟨by omega, by omega⟩
  have i1 : (0 : Int) ≤ (a : Int) := by omega
  have i2 : (a : Int) < 256 := by omega
  have i3 : (0 : Int) ≤ (b : Int) := by omega
  have i4 : (b : Int) < 256 := by omega
  have i5 : (0 : Int) ≤ (i : Int) + (j : Int) := by omega
  have i6 : (i : Int) + (j : Int) < 510 := by omega
  have i7 : ((i : Int) + (j : Int)).toNat = i + j := by omega
  clear hF ha0 hb0
  go_enter Try.func31, Try.ntmps31
  go_wp2
  go_big_quiet (fail)
  go_wp2
  go_ret
  exact ⟨rfl, ⟨⟨_, rfl⟩⟩⟩

def invN (a : Nat) : Nat := if a = 0 then 0 else Gf.E ((255 - Gf.L a) % 255)
theorem E_lt (i : Nat) : Gf.E i < 256 := Nat.mod_lt _ (by omega)
theorem invN_lt (a : Nat) : invN a < 256 := by
  unfold invN
  split
  · omega
  · exact E_lt _

set_option maxRecDepth 100000 in
theorem Inv_any (w : World) (g a : Nat) (hF : Fld w g) (ha : a < 256) : Calls Try.prog 32 #[.pointer (some ⟨g, 0, none⟩), .int .u8 a] w fun e w' => e = .returned (.tuple #[.int .u8 (invN a : Nat), .bool (decide (a ≠ 0))]) ∧ Drawn0 w w' := by
  by_cases ha0 : a = 0
  · subst ha0
    clear hF
    go_enter Try.func32, Try.ntmps32
    go_wp2
    go_ret2
    exact ⟨rfl, Drawn0.refl _⟩
  have h1 := L_lt a ha
  have hv : invN a = Gf.E ((255 - Gf.L a) % 255) := if_neg ha0
  have hd : decide (a ≠ 0) = true := decide_eq_true ha0
  rw [hv, hd]
  have c1 := hF.log a ha ha0
  have c3 := hF.exp (255 - Gf.L a) (by omega)
  generalize Gf.E ((255 - Gf.L a) % 255) = v at *
  generalize Gf.L a = i at *
  have ha0' : ((a : Int) == 0) = false := by simpa using ha0
  have hw : IntKind.i64.wrap (255 - (i : Int)) = 255 - (i : Int) := IntWalk.i64_in _ ⟨by omega, by omega⟩
  have i1 : (0 : Int) ≤ (a : Int) := by omega
  have i2 : (a : Int) < 256 := by omega
  have i5 : (0 : Int) ≤ 255 - (i : Int) := by omega
  have i6 : 255 - (i : Int) < 510 := by omega
  have i7 : (255 - (i : Int)).toNat = 255 - i := by omega
  clear hF ha0 hv hd
  go_enter Try.func32, Try.ntmps32
  go_wp2
  go_big_quiet (fail)
  go_wp2
  go_ret2
  exact ⟨rfl, ⟨⟨_, rfl⟩⟩⟩

set_option maxRecDepth 100000 in
theorem Div_any (w : World) (g a b : Nat) (hF : Fld w g) (ha : a < 256) (hb : b < 256) : Calls Try.prog 33 #[.pointer (some ⟨g, 0, none⟩), .int .u8 a, .int .u8 b] w fun e w' =>
    e = .returned (.tuple #[.int .u8 (Gf.mulN a (invN b) : Nat), .bool (decide (b ≠ 0))]) ∧ Drawn0 w w' := by
  have hI := Inv_any w g b hF hb
  have hv := invN_lt b
  have hM : ∀ n, Calls Try.prog 31 #[.pointer (some ⟨g, 0, none⟩), .int .u8 a, .int .u8 (invN b : Nat)] (w.drewN n) fun e w' => e = .returned (.int .u8 (Gf.mulN a (invN b) : Nat)) ∧ Drawn0 (w.drewN n) w' := fun n => Mul_any _ g a (invN b) hF.drew ha hv
  generalize Gf.mulN a (invN b) = q at *
  generalize invN b = v at *
  generalize decide (b ≠ 0) = ok at *
  have HI := Aside0.mk hI
  have HM := Aside0.mk hM
  clear hI hM hF
  go_enter Try.func33, Try.ntmps33
  go_wp2_with (first | (go_at_call 32; refine HI.out.mono ?_; rintro e w' ⟨rfl, ⟨⟨n, rfl⟩⟩⟩) | (go_at_call 31; refine (HM.out _).mono ?_; rintro e w' ⟨rfl, ⟨⟨n', rfl⟩⟩⟩))
  go_ret2
  exact ⟨rfl, ⟨⟨_, rfl⟩⟩⟩

def powI (a : Nat) (n : Int) : Nat := if n = 0 then 1 else if a = 0 then 0 else Gf.E (n * (Gf.L a : Int) % 255).toNat
theorem powI_lt (a : Nat) (n : Int) : powI a n < 256 := by
  unfold powI
  split
  · omega
  · split
    · omega
    · exact E_lt _

set_option maxRecDepth 100000 in
theorem Pow_any (w : World) (g a : Nat) (n : Int) (hF : Fld w g) (ha : a < 256) : Calls Try.prog 29 #[.pointer (some ⟨g, 0, none⟩), .int .u8 a, .int .i64 n] w fun e w' =>
    e = .returned (.int .u8 (powI a n : Nat)) ∧ w = w' := by
  by_cases hn : n = 0
  · subst hn
    clear hF
    go_enter Try.func29, Try.ntmps29
    go_wp2
    go_ret
    exact ⟨rfl, rfl⟩
  have hn' : (n == 0) = false := by simpa using hn
  by_cases ha0 : a = 0
  · have hv : powI a n = 0 := by simp [powI, hn, ha0]
    rw [hv, ha0]
    clear hF hv ha0 hn
    go_enter Try.func29, Try.ntmps29
    go_wp2
    go_ret
    exact ⟨rfl, rfl⟩
  have ha0' : ((a : Int) == 0) = false := by simpa using ha0
  have h1 := L_lt a ha
  have hv : powI a n = Gf.E (n * (Gf.L a : Int) % 255).toNat := by simp [powI, hn, ha0]
  rw [hv]
  have c1 := hF.log a ha ha0
  obtain ⟨k, hk⟩ : ∃ k : Nat, k = (n * (Gf.L a : Int) % 255).toNat := ⟨_, rfl⟩
  have hk2 : k < 255 := by rw [hk]; omega
  have c3 := hF.exp k (by omega)
  rw [Nat.mod_eq_of_lt hk2] at c3
  rw [← hk]
  have hkI : (k : Int) = n * (Gf.L a : Int) % 255 := by rw [hk]; omega
  generalize Gf.E k = v at *
  generalize Gf.L a = i at *
  obtain ⟨r, hr⟩ : ∃ r, r = n.tmod 255 := ⟨_, rfl⟩
  have hr1 : -255 < r ∧ r < 255 := by
    rw [hr]
    have h1 := Int.tmod_lt_of_pos n (b := 255) (by omega)
    have h2 := Int.tmod_lt_of_pos (-n) (b := 255) (by omega)
    rw [Int.neg_tmod] at h2
    omega
  have hp : -65000 < r * (i : Int) ∧ r * (i : Int) < 65025 := by
    constructor
    · have := Int.mul_le_mul_of_nonneg_right (a := -254) (b := r) (c := (i : Int)) (by omega) (by omega)
      omega
    · have := Int.mul_le_mul_of_nonneg_right (a := r) (b := 254) (c := (i : Int)) (by omega) (by omega)
      omega
  have hw : IntKind.i64.wrap (r * (i : Int)) = r * (i : Int) := IntWalk.i64_in _ ⟨by omega, by omega⟩
  have hmod : (r * (i : Int)) % 255 = (k : Int) := by
    have h3 : r * (i : Int) = n * (i : Int) - 255 * (n.tdiv 255 * (i : Int)) := by
      rw [hr, Int.tmod_def, Int.sub_mul, Int.mul_assoc]
    rw [h3, hkI]
    omega
  obtain ⟨s, hs⟩ : ∃ s, s = (r * (i : Int)).tmod 255 := ⟨_, rfl⟩
  have hs1 : s = if r * (i : Int) < 0 then -(-(r * (i : Int)) % 255) else r * (i : Int) % 255 := by
    rw [hs]
    split
    · rename_i h
      have h3 : r * (i : Int) = -(-(r * (i : Int))) := by omega
      rw [h3, Int.neg_tmod, Int.tmod_eq_emod_of_nonneg (by omega)]
      simp
    · rename_i h
      rw [Int.tmod_eq_emod_of_nonneg (by omega)]
  obtain ⟨p, hpp⟩ : ∃ p, p = r * (i : Int) := ⟨_, rfl⟩
  rw [← hpp] at hp hw hmod hs hs1
  have hb : s = k ∨ s = (k : Int) - 255 := by
    rw [hs1]; split <;> omega
  have hneg : s < 0 ↔ ¬ s = k := by constructor <;> omega
  have i1 : (0 : Int) ≤ (a : Int) := by omega
  have i2 : (a : Int) < 256 := by omega
  have i3 : (0 : Int) ≤ (k : Int) := by omega
  have i4 : (k : Int) < 510 := by omega
  clear hF ha0 hkI hmod hs1 hv hk hn
  have HP := Aside0.mk hp
  have HR := Aside0.mk hr1
  have hq : n.tmod 255 * (i : Int) = p := by rw [← hr, ← hpp]
  have f1 : (wrap64 (n.tmod 255 * (i : Int))).tmod 255 = s := by rw [hq, IntWalk.wrap64_in _ ⟨by omega, by omega⟩, hs]
  clear hq hpp hr hw hs hp hr1 HP HR
  by_cases hsk : s = k
  · have hlt : ¬ (k : Int) < 0 := by omega
    rw [hsk] at f1
    clear hb hneg hsk
    go_enter Try.func29, Try.ntmps29
    go_wp2
    go_ret
    exact ⟨rfl, rfl⟩
  · have hs2 : s = (k : Int) - 255 := by omega
    have hlt : (k : Int) - 255 < 0 := by omega
    have f2 : wrap64 ((k : Int) - 255 + 255) = k := by rw [IntWalk.wrap64_in _ ⟨by omega, by omega⟩]; omega
    rw [hs2] at f1
    clear hb hneg hsk hs2
    go_enter Try.func29, Try.ntmps29
    go_wp2
    go_ret
    exact ⟨rfl, rfl⟩
end Go.Proofs.Ytpeiejkcoadhfaa
/- The reference's product, inverse and power: what they compute. -/
namespace Go.Proofs.Ytpeiejkcoadhfaa
open Go.RowKit Go.Proofs.YtpeiejkcoadhfaaW.PrintWords Go.Proofs.YtpeiejkcoadhfaaW.PrintMore PGfPows

theorem wraps_i64 (n : Int) (h₀ : 0 ≤ n) (h₁ : n < 2 ^ 62) : IntKind.i64.wrap n = n := IntWalk.i64_in _ ⟨by omega, by omega⟩
theorem i64_xor (a b : Nat) (ha : a < 2 ^ 32) (hb : b < 2 ^ 32) : bits .xor .i64 (a : Int) (b : Int) = ((a ^^^ b : Nat) : Int) := by
  have h1 : ∀ x : Nat, x < 2 ^ 32 → (BitVec.ofInt 64 (x : Int)).toNat = x := fun x hx => by
    rw [BitVec.ofInt_natCast, BitVec.toNat_ofNat]; exact Nat.mod_eq_of_lt (by omega)
  have hx : a ^^^ b < 2 ^ 32 := Nat.xor_lt_two_pow ha hb
  show IntKind.i64.wrap ((BitVec.ofInt 64 (a : Int) ^^^ BitVec.ofInt 64 (b : Int)).toNat : Int) = _
  rw [BitVec.toNat_xor, h1 a ha, h1 b hb]
  exact wraps_i64 _ (by omega) (by omega)
theorem i64_bit (a : Nat) (ha : a < 2 ^ 32) : bits .and .i64 (a : Int) 1 = ((a % 2 : Nat) : Int) := by
  have := bits_mask .i64 32 (by decide) (fun n h₀ h₁ => wraps_i64 n h₀ (by omega)) 1 (by decide) (a : Int) (by omega) (by omega)
  exact this
theorem i64_shr (a i : Nat) (hi : i < 64) : shr .i64 (a : Int) (i : Int) = ((a >>> i : Nat) : Int) := by
  unfold shr
  rw [Int.toNat_natCast, Nat.min_eq_left (by simp [IntKind.bits]; omega), Nat.shiftRight_eq_div_pow]
  simp
theorem i64_shl (a i : Nat) (ha : a < 2 ^ 16) (hi : i ≤ 16) : shl .i64 (a : Int) (i : Int) = ((a <<< i : Nat) : Int) := by
  unfold shl
  rw [Int.toNat_natCast, Nat.min_eq_left (by simp [IntKind.bits]; omega), Nat.shiftLeft_eq]
  have h1 : 2 ^ i ≤ 2 ^ 16 := Nat.pow_le_pow_right (by omega) hi
  have h2 : a * 2 ^ i < 2 ^ 32 := by
    calc a * 2 ^ i ≤ a * 2 ^ 16 := Nat.mul_le_mul_left _ h1
      _ < 2 ^ 16 * 2 ^ 16 := Nat.mul_lt_mul_of_pos_right ha (by omega)
      _ = 2 ^ 32 := by omega
  have h3 : (a : Int) * 2 ^ i = ((a * 2 ^ i : Nat) : Int) := by simp
  rw [h3]
  exact wraps_i64 _ (by omega) (by omega)
theorem u64_small (i : Nat) (hi : i < 64) : IntKind.u64.wrap (i : Int) = (i : Int) := by
  simp only [IntKind.wrap, IntKind.bits, IntKind.signed]; simp; omega
theorem shl_lt (a i : Nat) (ha : a < 2 ^ 9) (hi : i ≤ 7) : a <<< i < 2 ^ 16 := by
  rw [Nat.shiftLeft_eq]
  have h1 : 2 ^ i ≤ 2 ^ 7 := Nat.pow_le_pow_right (by omega) hi
  calc a * 2 ^ i ≤ a * 2 ^ 7 := Nat.mul_le_mul_left _ h1
      _ < 2 ^ 9 * 2 ^ 7 := Nat.mul_lt_mul_of_pos_right ha (by omega)
      _ = 2 ^ 16 := by omega
theorem addBit_lt (a b p i : Nat) (ha : a < 2 ^ 8) (hp : p < 2 ^ 15) (hi : i ≤ 7) : Gf.addBit a b p i < 2 ^ 15 := by
  unfold Gf.addBit
  split
  · refine Nat.xor_lt_two_pow hp ?_
    rw [Nat.shiftLeft_eq]
    have h1 : 2 ^ i ≤ 2 ^ 7 := Nat.pow_le_pow_right (by omega) hi
    calc a * 2 ^ i ≤ a * 2 ^ 7 := Nat.mul_le_mul_left _ h1
      _ < 2 ^ 8 * 2 ^ 7 := Nat.mul_lt_mul_of_pos_right ha (by omega)
      _ = 2 ^ 15 := by omega
  · exact hp
theorem redBit_lt (p i : Nat) (hp : p < 2 ^ 16) (hi : i ≤ 15) : Gf.redBit p i < 2 ^ 16 := by
  unfold Gf.redBit
  split
  · exact Nat.xor_lt_two_pow hp (shl_lt 283 (i - 8) (by omega) (by omega))
  · exact hp

theorem l0_step (k a b p i : Nat) (ha : a < 256) (hb : b < 256) (hp : p < 2 ^ 15) (hi : i < 8) :
    shamrockref01_Mul.l0 (k + 1) a b p i = shamrockref01_Mul.l0 k a b (Gf.addBit a b p i : Nat) (i + 1 : Nat) := by
  have h1 : b >>> i < 2 ^ 32 := Nat.lt_of_le_of_lt (Nat.shiftRight_le b i) (by omega)
  have h2 : a <<< i < 2 ^ 16 := shl_lt a i (by omega) (by omega)
  rw [shamrockref01_Mul.l0, if_pos (by omega : (i : Int) < 8), u64_small i (by omega), if_pos (by omega : (0 : Int) ≤ (i : Int)), IntWalk.wrap64_in (b : Int) ⟨by omega, by omega⟩, i64_shr b i (by omega), i64_bit _ h1,
    IntWalk.wrap64_in (a : Int) ⟨by omega, by omega⟩, i64_shl a i (by omega) (by omega), i64_xor p (a <<< i) (by omega) (by omega), IntWalk.wrap64_in ((i : Int) + 1) ⟨by omega, by omega⟩]
  unfold Gf.addBit
  by_cases h : b >>> i % 2 = 1
  · rw [if_pos h, if_pos (by omega)]; rfl
  · rw [if_neg h, if_neg (by omega)]; rfl
theorem l1_step (k p i : Nat) (hp : p < 2 ^ 16) (hi : 8 ≤ i) (hi2 : i ≤ 14) :
    shamrockref01_Mul.l1 (k + 1) p i = shamrockref01_Mul.l1 k (Gf.redBit p i : Nat) (i - 1 : Nat) := by
  have h1 : p >>> i < 2 ^ 32 := Nat.lt_of_le_of_lt (Nat.shiftRight_le p i) (by omega)
  have h2 : 283 <<< (i - 8) < 2 ^ 16 := shl_lt 283 (i - 8) (by omega) (by omega)
  have h8 : (i : Int) - 8 = ((i - 8 : Nat) : Int) := by omega
  have h9 : (i : Int) - 1 = ((i - 1 : Nat) : Int) := by omega
  have h10 : shl .i64 283 ((i - 8 : Nat) : Int) = ((283 <<< (i - 8) : Nat) : Int) := i64_shl 283 (i - 8) (by omega) (by omega)
  rw [shamrockref01_Mul.l1, if_pos (by omega : (i : Int) ≥ 8), u64_small i (by omega), if_pos (by omega : (0 : Int) ≤ (i : Int)), i64_shr p i (by omega), i64_bit _ h1, h8,
    IntWalk.wrap64_in ((i - 8 : Nat) : Int) ⟨by omega, by omega⟩, u64_small (i - 8) (by omega), if_pos (by omega : (0 : Int) ≤ ((i - 8 : Nat) : Int)), h10, i64_xor p _ (by omega) (by omega), h9, IntWalk.wrap64_in ((i - 1 : Nat) : Int) ⟨by omega, by omega⟩]
  unfold Gf.redBit
  by_cases h : p >>> i % 2 = 1
  · rw [if_pos h, if_pos (by omega)]
  · rw [if_neg h, if_neg (by omega)]
set_option maxRecDepth 100000 in
theorem mulN_lt (a b : Nat) (ha : a < 256) (hb : b < 256) : Gf.mulN a b < 256 := by
  by_cases ha0 : a = 0
  · rw [ha0, (Gf.mul_0 b hb).1]; omega
  by_cases hb0 : b = 0
  · rw [hb0, (Gf.mul_0 a ha).2]; omega
  rw [mul_EL a b ha hb ha0 hb0]
  exact E_lt _
theorem l0_end (k a b p : Nat) : shamrockref01_Mul.l0 (k + 1) a b p (8 : Nat) = shamrockref01_Mul.l1 k p (14 : Nat) := by
  rw [shamrockref01_Mul.l0, if_neg (by omega)]; rfl
theorem l1_end (k p : Nat) : shamrockref01_Mul.l1 (k + 1) p (7 : Nat) = some ((p % 256 : Nat) : Int) := by
  rw [shamrockref01_Mul.l1, if_neg (by omega)]; rfl
theorem refMul_f (k a b : Nat) (hk : 17 ≤ k) (ha : a < 256) (hb : b < 256) : shamrockref01_Mul.f k a b = some ((Gf.mulN a b : Nat) : Int) := by
  obtain ⟨j, rfl⟩ : ∃ j, k = j + 1 + 7 + 1 + 8 := ⟨k - 17, by omega⟩
  have hl := mulN_lt a b ha hb
  show shamrockref01_Mul.l0 (j + 1 + 7 + 1 + 8) a b (0 : Nat) (0 : Nat) = _
  unfold Gf.mulN Gf.clm Gf.red at *
  have q0 := addBit_lt a b 0 0 (by omega) (by omega) (by omega)
  have q1 := addBit_lt a b _ 1 (by omega) q0 (by omega)
  have q2 := addBit_lt a b _ 2 (by omega) q1 (by omega)
  have q3 := addBit_lt a b _ 3 (by omega) q2 (by omega)
  have q4 := addBit_lt a b _ 4 (by omega) q3 (by omega)
  have q5 := addBit_lt a b _ 5 (by omega) q4 (by omega)
  have q6 := addBit_lt a b _ 6 (by omega) q5 (by omega)
  have q7 := addBit_lt a b _ 7 (by omega) q6 (by omega)
  rw [l0_step _ a b _ 0 ha hb (by omega) (by omega), l0_step _ a b _ 1 ha hb q0 (by omega), l0_step _ a b _ 2 ha hb q1 (by omega), l0_step _ a b _ 3 ha hb q2 (by omega),
    l0_step _ a b _ 4 ha hb q3 (by omega), l0_step _ a b _ 5 ha hb q4 (by omega), l0_step _ a b _ 6 ha hb q5 (by omega), l0_step _ a b _ 7 ha hb q6 (by omega), l0_end]
  generalize Gf.addBit a b (Gf.addBit a b (Gf.addBit a b (Gf.addBit a b (Gf.addBit a b (Gf.addBit a b (Gf.addBit a b (Gf.addBit a b 0 0) 1) 2) 3) 4) 5) 6) 7 = p at *
  have r0 := redBit_lt p 14 (by omega) (by omega)
  have r1 := redBit_lt _ 13 r0 (by omega)
  have r2 := redBit_lt _ 12 r1 (by omega)
  have r3 := redBit_lt _ 11 r2 (by omega)
  have r4 := redBit_lt _ 10 r3 (by omega)
  have r5 := redBit_lt _ 9 r4 (by omega)
  have r6 := redBit_lt _ 8 r5 (by omega)
  rw [l1_step _ _ 14 (by omega) (by omega) (by omega), l1_step _ _ 13 r0 (by omega) (by omega), l1_step _ _ 12 r1 (by omega) (by omega), l1_step _ _ 11 r2 (by omega) (by omega), l1_step _ _ 10 r3 (by omega) (by omega),
    l1_step _ _ 9 r4 (by omega) (by omega), l1_step _ _ 8 r5 (by omega) (by omega), l1_end, Nat.mod_eq_of_lt hl]

theorem mul_one_inv : ∀ a < 256, a ≠ 0 → Gf.mulN a (invN a) = 1 := by
  intro a ha h0
  have h1 := Gf.E_L a ha h0
  have hi : invN a = Gf.E ((255 - Gf.L a) % 255) := if_neg h0
  have h2 := Gf.mul_E (Gf.L a) h1.2 ((255 - Gf.L a) % 255) (Nat.mod_lt _ (by omega))
  rw [h1.1, ← hi] at h2
  rw [h2]
  have h3 : (Gf.L a + (255 - Gf.L a) % 255) % 255 = 0 := by omega
  rw [h3]
  decide +kernel
theorem E_inj : ∀ i < 255, ∀ j < 255, Gf.E i = Gf.E j → i = j := by
  intro i hi j hj h
  have h1 := (Gf.E_pos i hi).2.2
  have h2 := (Gf.E_pos j hj).2.2
  rw [h] at h1; omega
theorem mul_cancel (a b c : Nat) (ha : a < 256) (hb : b < 256) (hc : c < 256) (h0 : c ≠ 0) (h : Gf.mulN a c = Gf.mulN b c) : a = b := by
  by_cases ha0 : a = 0
  · by_cases hb0 : b = 0
    · omega
    rw [ha0, (Gf.mul_0 c hc).1, mul_EL b c hb hc hb0 h0] at h
    have := (Gf.E_pos ((Gf.L b + Gf.L c) % 255) (Nat.mod_lt _ (by omega))).1
    omega
  by_cases hb0 : b = 0
  · rw [hb0, (Gf.mul_0 c hc).1, mul_EL a c ha hc ha0 h0] at h
    have := (Gf.E_pos ((Gf.L a + Gf.L c) % 255) (Nat.mod_lt _ (by omega))).1
    omega
  rw [mul_EL a c ha hc ha0 h0, mul_EL b c hb hc hb0 h0] at h
  have h1 := E_inj _ (Nat.mod_lt _ (by omega)) _ (Nat.mod_lt _ (by omega)) h
  have h2 := Gf.E_L a ha ha0
  have h3 := Gf.E_L b hb hb0
  have h4 := L_lt c hc
  have h5 : Gf.L a = Gf.L b := by omega
  rw [← h2.1, ← h3.1, h5]
theorem mul_comm' (a b : Nat) (ha : a < 256) (hb : b < 256) : Gf.mulN a b = Gf.mulN b a := by
  by_cases ha0 : a = 0
  · rw [ha0, (Gf.mul_0 b hb).1, (Gf.mul_0 b hb).2]
  by_cases hb0 : b = 0
  · rw [hb0, (Gf.mul_0 a ha).1, (Gf.mul_0 a ha).2]
  rw [mul_EL a b ha hb ha0 hb0, mul_EL b a hb ha hb0 ha0, Nat.add_comm]
theorem mul_ne (a b : Nat) (ha : a < 256) (hb : b < 256) (ha0 : a ≠ 0) (hb0 : b ≠ 0) : Gf.mulN a b ≠ 0 := by
  rw [mul_EL a b ha hb ha0 hb0]
  have := (Gf.E_pos ((Gf.L a + Gf.L b) % 255) (Nat.mod_lt _ (by omega))).1
  omega
theorem L_mul (a b : Nat) (ha : a < 256) (hb : b < 256) (ha0 : a ≠ 0) (hb0 : b ≠ 0) : Gf.L (Gf.mulN a b) = (Gf.L a + Gf.L b) % 255 := by
  rw [mul_EL a b ha hb ha0 hb0]
  exact (Gf.E_pos _ (Nat.mod_lt _ (by omega))).2.2
theorem mul_assoc' (a b c : Nat) (ha : a < 256) (hb : b < 256) (hc : c < 256) : Gf.mulN (Gf.mulN a b) c = Gf.mulN a (Gf.mulN b c) := by
  by_cases ha0 : a = 0
  · rw [ha0, (Gf.mul_0 b hb).1, (Gf.mul_0 c hc).1, (Gf.mul_0 _ (mulN_lt b c hb hc)).1]
  by_cases hb0 : b = 0
  · rw [hb0, (Gf.mul_0 a ha).2, (Gf.mul_0 c hc).1, (Gf.mul_0 a ha).2]
  by_cases hc0 : c = 0
  · rw [hc0, (Gf.mul_0 b hb).2, (Gf.mul_0 a ha).2, (Gf.mul_0 _ (mulN_lt a b ha hb)).2]
  rw [mul_EL _ c (mulN_lt a b ha hb) hc (mul_ne a b ha hb ha0 hb0) hc0, mul_EL a _ ha (mulN_lt b c hb hc) ha0 (mul_ne b c hb hc hb0 hc0), L_mul a b ha hb ha0 hb0, L_mul b c hb hc hb0 hc0]
  congr 1
  omega
theorem mul_xor_r (a b c : Nat) (ha : a < 256) (hb : b < 256) (hc : c < 256) : Gf.mulN a (b ^^^ c) = Gf.mulN a b ^^^ Gf.mulN a c := by
  have hx : b ^^^ c < 256 := Nat.xor_lt_two_pow (n := 8) hb hc
  rw [mul_comm' a _ ha hx, Gf.mulN_xor, mul_comm' b a hb ha, mul_comm' c a hc ha]
theorem mul_one' (a : Nat) (ha : a < 256) : Gf.mulN a 1 = a := by
  by_cases ha0 : a = 0
  · rw [ha0]; exact (Gf.mul_0 1 (by omega)).1
  have h0 : Gf.L 1 = 0 := by decide +kernel
  have h1 := Gf.E_L a ha ha0
  rw [mul_EL a 1 ha (by omega) ha0 (by omega), h0, Nat.add_zero, Nat.mod_eq_of_lt h1.2, h1.1]
theorem inv_ne (a : Nat) (ha : a < 256) (h0 : a ≠ 0) : invN a ≠ 0 := by
  intro h
  have := mul_one_inv a ha h0
  rw [h, (Gf.mul_0 a ha).2] at this
  omega
theorem inv_unique (a b : Nat) (ha : a < 256) (hb : b < 256) (h : Gf.mulN a b = 1) : b = invN a := by
  have h0 : a ≠ 0 := by
    intro h0
    rw [h0, (Gf.mul_0 b hb).1] at h
    omega
  refine mul_cancel b (invN a) a hb (invN_lt a) ha h0 ?_
  rw [mul_comm' b a hb ha, mul_comm' _ a (invN_lt a) ha, h, mul_one_inv a ha h0]

/-- The search for an inverse. -/
theorem refInv_l0 (k a : Nat) (ha : a < 256) (h0 : a ≠ 0) : ∀ (j b : Nat), b + j = invN a → shamrockref01_Inv.l0 (k + 17 + j + 1) a b = some ((invN a : Nat) : Int) := by
  have hv := invN_lt a
  intro j
  induction j with
  | zero =>
    intro b hb
    have hbv : b = invN a := by omega
    subst hbv
    rw [shamrockref01_Inv.l0, if_pos (by omega), show ((invN a : Nat) : Int) % 256 = ((invN a : Nat) : Int) by omega, refMul_f _ a (invN a) (by omega) ha hv, mul_one_inv a ha h0]
    rfl
  | succ j ih =>
    intro b hb
    have hne : Gf.mulN a b ≠ 1 := fun h => by have := inv_unique a b ha (by omega) h; omega
    rw [shamrockref01_Inv.l0, if_pos (by omega), show ((b : Nat) : Int) % 256 = ((b : Nat) : Int) by omega, refMul_f _ a b (by omega) ha (by omega)]
    show (if ((Gf.mulN a b : Nat) : Int) = 1 then _ else _) = _
    rw [if_neg (by omega), IntWalk.wrap64_in ((b : Int) + 1) ⟨by omega, by omega⟩]
    exact ih (b + 1) (by omega)
theorem LeO_le {α : Type} {f : Nat → Option α} (h : ∀ k, LeO (f k) (f (k + 1))) {k j : Nat} (hkj : k ≤ j) {r : α} (hr : f k = some r) : f j = some r := by
  obtain ⟨d, rfl⟩ := Nat.exists_eq_add_of_le hkj
  clear hkj
  induction d with
  | zero => exact hr
  | succ d ih => exact h _ _ ih
theorem refInv_f (k a : Nat) (hk : 400 ≤ k) (ha : a < 256) (h0 : a ≠ 0) : shamrockref01_Inv.f k a = some ((invN a : Nat) : Int) := by
  have hv := invN_lt a
  have hn := inv_ne a ha h0
  have h1 := refInv_l0 0 a ha h0 (invN a - 1) 1 (by omega)
  exact LeO_le (f := fun k => shamrockref01_Inv.f k a) (fun k => shamrockref01_Inv.mono a k) (k := 0 + 17 + (invN a - 1) + 1) (by omega) h1
end Go.Proofs.Ytpeiejkcoadhfaa
/- The reference's power. -/
namespace Go.Proofs.Ytpeiejkcoadhfaa
open Go.RowKit Go.Proofs.YtpeiejkcoadhfaaW.PrintWords Go.Proofs.YtpeiejkcoadhfaaW.PrintMore PGfPows

def powN (a n : Nat) : Nat := if n = 0 then 1 else if a = 0 then 0 else Gf.E (n * Gf.L a % 255)
theorem E_zero : Gf.E 0 = 1 := by decide +kernel
theorem powN_E (a n : Nat) (h0 : a ≠ 0) : powN a n = Gf.E (n * Gf.L a % 255) := by
  unfold powN
  split
  · rename_i h
    rw [h, Nat.zero_mul]
    exact E_zero.symm
  · rfl
theorem powN_lt (a n : Nat) : powN a n < 256 := by
  unfold powN
  split
  · omega
  · split
    · omega
    · exact E_lt _
theorem powN_ne (a n : Nat) (h0 : a ≠ 0) : powN a n ≠ 0 := by
  rw [powN_E a n h0]
  have := (Gf.E_pos (n * Gf.L a % 255) (Nat.mod_lt _ (by omega))).1
  omega
theorem powN_even (a m : Nat) (ha : a < 256) (hm : m ≠ 0) : powN (Gf.mulN a a) m = powN a (2 * m) := by
  by_cases h0 : a = 0
  · have h2 : 2 * m ≠ 0 := by omega
    rw [h0, (Gf.mul_0 0 (by omega)).1]; simp [powN, hm, h2]
  rw [powN_E _ _ (mul_ne a a ha ha h0 h0), powN_E _ _ h0, L_mul a a ha ha h0 h0, Nat.mul_mod_mod]
  congr 2
  rw [Nat.mul_add, Nat.mul_assoc, Nat.two_mul]
theorem powN_odd (a m : Nat) (ha : a < 256) : Gf.mulN a (powN (Gf.mulN a a) m) = powN a (2 * m + 1) := by
  by_cases h0 : a = 0
  · rw [h0, (Gf.mul_0 _ (powN_lt _ _)).1]; simp [powN]
  rw [mul_EL a _ ha (powN_lt _ _) h0 (powN_ne _ _ (mul_ne a a ha ha h0 h0)), powN_E _ _ (mul_ne a a ha ha h0 h0), (Gf.E_pos _ (Nat.mod_lt _ (by omega))).2.2, powN_E _ _ h0, L_mul a a ha ha h0 h0, Nat.mul_mod_mod]
  congr 1
  rw [Nat.mul_add, Nat.add_mul, Nat.two_mul, Nat.add_mul]
  omega
theorem refPow_l0 (k : Nat) : ∀ (j a n r : Nat), n < 2 ^ j → j ≤ 64 → a < 256 → r < 256 → shamrockref01_Pow.l0 (k + 17 + j + 1) a n r = some ((Gf.mulN r (powN a n) : Nat) : Int) := by
  intro j
  induction j with
  | zero =>
    intro a n r hn _ ha hr
    have h : n = 0 := by omega
    subst h
    rw [shamrockref01_Pow.l0, if_neg (by omega)]
    simp [powN, mul_one' r hr]
  | succ j ih =>
    intro a n r hn hj ha hr
    by_cases h : n = 0
    · subst h
      rw [shamrockref01_Pow.l0, if_neg (by omega)]
      simp [powN, mul_one' r hr]
    have haa := mulN_lt a a ha ha
    have hra := mulN_lt r a hr ha
    have hn2 : n / 2 < 2 ^ j := by rw [Nat.pow_succ] at hn; omega
    have hn3 : n < 2 ^ 64 := Nat.lt_of_lt_of_le hn (Nat.pow_le_pow_right (by omega) hj)
    have t1 : Int.tmod (n : Int) 2 = ((n % 2 : Nat) : Int) := (Int.ofNat_tmod n 2).symm
    have t2 : Int.tdiv (n : Int) 2 = ((n / 2 : Nat) : Int) := (Int.ofNat_tdiv n 2).symm
    have t3 : wrap64 ((n / 2 : Nat) : Int) = ((n / 2 : Nat) : Int) := IntWalk.wrap64_in _ ⟨by omega, by omega⟩
    have t4 : (n : Int) > 0 := by clear hn hn2 hn3 t1 t2 t3; omega
    have t5 : 17 ≤ k + 17 + (j + 1) := by clear hn hn2 hn3 t1 t2 t3; omega
    have t6 := refMul_f _ a a t5 ha ha
    have t7 := refMul_f _ r a t5 hr ha
    unfold shamrockref01_Pow.l0
    rw [if_pos t4, t1, t2, t3, t6, t7]
    show (if ((n % 2 : Nat) : Int) = 1 then (shamrockref01_Pow.l0 (k + 17 + j + 1) ((Gf.mulN a a : Nat) : Int) ((n / 2 : Nat) : Int) ((Gf.mulN r a : Nat) : Int)) else (shamrockref01_Pow.l0 (k + 17 + j + 1) ((Gf.mulN a a : Nat) : Int) ((n / 2 : Nat) : Int) (r : Int))) = _
    by_cases ho : n % 2 = 1
    · have e1 : ((n % 2 : Nat) : Int) = 1 := by clear hn hn2 hn3 t1 t2 t3; omega
      have e2 : 2 * (n / 2) + 1 = n := by clear hn hn2 hn3 t1 t2 t3; omega
      have e3 := ih (Gf.mulN a a) (n / 2) (Gf.mulN r a) hn2 (Nat.le_of_succ_le hj) haa hra
      have e4 := powN_odd a (n / 2) ha
      rw [e2] at e4
      rw [mul_assoc' r a _ hr ha (powN_lt _ _), e4] at e3
      rw [if_pos e1]
      exact e3
    · have e1 : ¬ ((n % 2 : Nat) : Int) = 1 := by clear hn hn2 hn3 t1 t2 t3; omega
      have e2 : 2 * (n / 2) = n := by clear hn hn2 hn3 t1 t2 t3; omega
      have e5 : n / 2 ≠ 0 := by clear hn hn2 hn3 t1 t2 t3; omega
      have e3 := ih (Gf.mulN a a) (n / 2) r hn2 (Nat.le_of_succ_le hj) haa hr
      have e4 := powN_even a (n / 2) ha e5
      rw [e2] at e4
      rw [e4] at e3
      rw [if_neg e1]
      exact e3
theorem powI_pos (a n : Nat) : powI a (n : Int) = powN a n := by
  unfold powI powN
  by_cases h : n = 0
  · rw [if_pos (by omega), if_pos h]
  rw [if_neg (by omega), if_neg h]
  split
  · rfl
  · rfl
theorem powI_neg (a m : Nat) (n : Int) (ha : a < 256) (h0 : a ≠ 0) (hn : n < 0) (hm : (m : Int) = -(n.tmod 255) + 255) : powN (invN a) m = powI a n := by
  have h1 := Gf.E_L a ha h0
  have hL : Gf.L (invN a) = (255 - Gf.L a) % 255 := by
    rw [show invN a = Gf.E ((255 - Gf.L a) % 255) from if_neg h0]
    exact (Gf.E_pos _ (Nat.mod_lt _ (by omega))).2.2
  rw [powN_E _ _ (inv_ne a ha h0), hL]
  unfold powI
  rw [if_neg (by omega), if_neg h0]
  generalize Gf.L a = l at *
  have hl := h1.2
  have key : ((m * ((255 - l) % 255) % 255 : Nat) : Int) = n * (l : Int) % 255 := by
    by_cases hl0 : l = 0
    · subst hl0; simp
    have h2 : (255 - l) % 255 = 255 - l := Nat.mod_eq_of_lt (by omega)
    rw [h2]
    have h3 : ((m * (255 - l) : Nat) : Int) = (m : Int) * 255 - (m : Int) * (l : Int) := by
      rw [Int.natCast_mul, Int.natCast_sub (by omega), Int.mul_sub]; rfl
    have h4 : (m : Int) * (l : Int) = 255 * ((1 + n.tdiv 255) * (l : Int)) - n * (l : Int) := by
      rw [hm, Int.tmod_def, ← Int.mul_assoc, ← Int.sub_mul]
      congr 1
      omega
    rw [h4] at h3
    generalize m * (255 - l) = X at h3 ⊢
    omega
  congr 1
  omega
theorem refPow_f (k a : Nat) (n : Int) (hk : 600 ≤ k) (ha : a < 256) (hn : -9223372036854775808 ≤ n ∧ n ≤ 9223372036854775807) : shamrockref01_Pow.f k a n = some ((powI a n : Nat) : Int) := by
  obtain ⟨j, rfl⟩ : ∃ j, k = j + 1 := ⟨k - 1, by omega⟩
  rw [shamrockref01_Pow.f]
  by_cases h : n = 0
  · rw [if_pos h, h]; rfl
  rw [if_neg h]
  by_cases hneg : n < 0
  · rw [if_pos hneg]
    by_cases h0 : a = 0
    · rw [if_pos (by omega)]
      simp [powI, h, h0]
    rw [if_neg (by omega)]
    have hr1 : -255 < n.tmod 255 ∧ n.tmod 255 < 255 := by
      have h1 := Int.tmod_lt_of_pos n (b := 255) (by omega)
      have h2 := Int.tmod_lt_of_pos (-n) (b := 255) (by omega)
      rw [Int.neg_tmod] at h2
      omega
    obtain ⟨m, hm⟩ : ∃ m : Nat, (m : Int) = -(n.tmod 255) + 255 := ⟨(-(n.tmod 255) + 255).toNat, by omega⟩
    rw [refInv_f j a (by omega) ha h0]
    show ((shamrockref01_Pow.f j (invN a : Nat) (wrap64 ((wrap64 (-(Int.tmod n 255))) + 255))).bind fun t103 => (some t103)) = _
    rw [IntWalk.wrap64_in (-(n.tmod 255)) ⟨by omega, by omega⟩, IntWalk.wrap64_in _ ⟨by omega, by omega⟩, ← hm]
    obtain ⟨i, rfl⟩ : ∃ i, j = i + 17 + 64 + 1 + 1 := ⟨j - 83, by omega⟩
    rw [shamrockref01_Pow.f, if_neg (by omega), if_neg (by omega)]
    have h2 := refPow_l0 i 64 (invN a) m 1 (by omega) (by omega) (invN_lt a) (by omega)
    have h3 : shamrockref01_Pow.l0 (i + 17 + 64 + 1) ((invN a : Nat) : Int) (m : Int) 1 = _ := h2
    rw [h3, powI_neg a m n ha h0 hneg hm, mul_comm' 1 _ (by omega) (powI_lt a n), mul_one' _ (powI_lt a n)]
    rfl
  · rw [if_neg hneg]
    obtain ⟨m, rfl⟩ : ∃ m : Nat, n = (m : Int) := ⟨n.toNat, by omega⟩
    obtain ⟨i, rfl⟩ : ∃ i, j = i + 17 + 64 + 1 := ⟨j - 82, by omega⟩
    have h2 := refPow_l0 i 64 a m 1 (by omega) (by omega) ha (by omega)
    have h3 : shamrockref01_Pow.l0 (i + 17 + 64 + 1) (a : Int) (m : Int) 1 = _ := h2
    rw [h3, powI_pos a m, mul_comm' 1 _ (by omega) (powN_lt a m), mul_one' _ (powN_lt a m)]
end Go.Proofs.Ytpeiejkcoadhfaa
/- The laws of layer 1: what is called, at fixed arguments. -/
namespace Go.Proofs.Ytpeiejkcoadhfaa
open Go.RowKit Go.Shelf Go.Proofs.YtpeiejkcoadhfaaW.PrintWords

/-- A call that answers v in every world that has grown out of w. -/
def Ct (w : World) (f : FuncId) (args : Array Value) (v : Value) : Prop := ∀ W, Fr (fun _ => False) w W → Calls Try.prog f args W fun e W' => e = .returned v ∧ Fr (fun _ => False) W W'
theorem Ct.use {w W : World} {f : FuncId} {args : Array Value} {v : Value} (h : Ct w f args v) (hf : Fr (fun _ => False) w W) {R : Ending → World → Prop} (hR : ∀ W', Fr (fun _ => False) W W' → R (.returned v) W') : Calls Try.prog f args W R :=
  (h W hf).mono fun e W' h => by obtain ⟨rfl, h⟩ := h; exact hR W' h
theorem Fr.of_drawn0 {S : Nat → Prop} {w W : World} (h : Drawn0 w W) : Fr S w W := by
  obtain ⟨⟨n, rfl⟩⟩ := h
  exact (Fr.refl S w).drewN n
theorem Fr.f_below {w W : World} (h : Fr (fun _ => False) w W) : Below w.heap.size w W := h.below (Nat.le_refl _) (fun _ h => h.elim)

section
variable {w : World} {g : Nat} (hF : Fld w g)
include hF
theorem ct_mul (a b : Nat) (ha : a < 256) (hb : b < 256) : Ct w 31 #[.pointer (some ⟨g, 0, none⟩), .int .u8 a, .int .u8 b] (.int .u8 (Gf.mulN a b : Nat)) := fun W hf =>
  (Mul_any W g a b (hF.fr hf (fun h => h)) ha hb).mono fun _ _ h => ⟨h.1, Fr.of_drawn0 h.2⟩
theorem ct_inv (a : Nat) (ha : a < 256) : Ct w 32 #[.pointer (some ⟨g, 0, none⟩), .int .u8 a] (.tuple #[.int .u8 (invN a : Nat), .bool (decide (a ≠ 0))]) := fun W hf =>
  (Inv_any W g a (hF.fr hf (fun h => h)) ha).mono fun _ _ h => ⟨h.1, Fr.of_drawn0 h.2⟩
theorem ct_div (a b : Nat) (ha : a < 256) (hb : b < 256) : Ct w 33 #[.pointer (some ⟨g, 0, none⟩), .int .u8 a, .int .u8 b] (.tuple #[.int .u8 (Gf.mulN a (invN b) : Nat), .bool (decide (b ≠ 0))]) := fun W hf =>
  (Div_any W g a b (hF.fr hf (fun h => h)) ha hb).mono fun _ _ h => ⟨h.1, Fr.of_drawn0 h.2⟩
theorem ct_pow (a : Nat) (n : Int) (ha : a < 256) : Ct w 29 #[.pointer (some ⟨g, 0, none⟩), .int .u8 a, .int .i64 n] (.int .u8 (powI a n : Nat)) := fun W hf =>
  (Pow_any W g a n (hF.fr hf (fun h => h)) ha).mono fun _ _ h => ⟨h.1, h.2 ▸ Fr.refl _ _⟩
end
theorem ct_rmul (w : World) (a b : Nat) (ha : a < 256) (hb : b < 256) : Ct w 34 #[.int .u8 a, .int .u8 b] (.int .u8 (Gf.mulN a b : Nat)) := fun W _ =>
  (PGfPows.shamrockref01_Mul.calls 17 a b _ W (refMul_f 17 a b (Nat.le_refl _) ha hb)).mono fun _ _ h => ⟨h.1, Fr.of_drawn0 h.2⟩
theorem ct_rinv (w : World) (a : Nat) (ha : a < 256) (h0 : a ≠ 0) : Ct w 35 #[.int .u8 a] (.int .u8 (invN a : Nat)) := fun W _ =>
  (PGfPows.shamrockref01_Inv.calls 400 a _ W (refInv_f 400 a (Nat.le_refl _) ha h0)).mono fun _ _ h => ⟨h.1, Fr.of_drawn0 h.2⟩
theorem ct_rpow (w : World) (a : Nat) (n : Int) (ha : a < 256) (hn : -9223372036854775808 ≤ n ∧ n ≤ 9223372036854775807) : Ct w 30 #[.int .u8 a, .int .i64 n] (.int .u8 (powI a n : Nat)) := fun W _ =>
  (PGfPows.shamrockref01_Pow.calls 600 a n _ W (refPow_f 600 a n (Nat.le_refl _) ha hn)).mono fun _ _ h => ⟨h.1, Fr.of_drawn0 h.2⟩
theorem Ct.up {w w1 : World} {f : FuncId} {args : Array Value} {v : Value} (h : Ct w f args v) (hf : Fr (fun _ => False) w w1) : Ct w1 f args v := fun W hW => h W (hf.trans' hW)
theorem Ct.as {w : World} {f : FuncId} {args : Array Value} {v v' : Value} (h : Ct w f args v) (e : v = v') : Ct w f args v' := e ▸ h

set_option maxRecDepth 100000 in
theorem answers01 (w : World) : Ct w 27 #[] (.bool true) := by
  intro W _
  have hN := Aside0.mk (New_any W)
  have e1 : invN 2 = 141 := by decide +kernel
  have e2 : invN 0 = 0 := by decide +kernel
  have e3 : Gf.mulN 2 128 = 27 := by decide +kernel
  have e4 : Gf.mulN 83 202 = 1 := by decide +kernel
  have e5 : powI 2 8 = 27 := by decide +kernel
  have C : ∀ (g : Nat) (W1 : World), Fld W1 g → Ct W1 32 #[.pointer (some ⟨g, 0, none⟩), .int .u8 2] (.tuple #[.int .u8 141, .bool true]) ∧ Ct W1 32 #[.pointer (some ⟨g, 0, none⟩), .int .u8 0] (.tuple #[.int .u8 0, .bool false]) ∧
      Ct W1 31 #[.pointer (some ⟨g, 0, none⟩), .int .u8 2, .int .u8 128] (.int .u8 27) ∧ Ct W1 31 #[.pointer (some ⟨g, 0, none⟩), .int .u8 83, .int .u8 202] (.int .u8 1) ∧ Ct W1 29 #[.pointer (some ⟨g, 0, none⟩), .int .u8 2, .int .i64 8] (.int .u8 27) :=
    fun g W1 hF => ⟨(ct_inv hF 2 (by omega)).as (by rw [e1]; rfl), (ct_inv hF 0 (by omega)).as (by rw [e2]; rfl), (ct_mul hF 2 128 (by omega) (by omega)).as (by rw [e3]; rfl), (ct_mul hF 83 202 (by omega) (by omega)).as (by rw [e4]; rfl),
      (ct_pow hF 2 8 (by omega)).as (by rw [e5]; rfl)⟩
  clear e1 e2 e3 e4 e5
  have HC := Aside0.mk C
  clear C
  go_enter Try.func27, Try.ntmps27
  go_wp2_with (first
    | (go_at_call 28; refine hN.out.mono ?_; rintro e W' ⟨g, rfl, -, -, hF, hf0⟩; obtain ⟨c1, c2, c3, c4, c5⟩ := HC.out g W' hF; have hfr := Fr.refl (fun _ => False) W'; clear hF)
    | (go_at_call 32; (first | with_reducible refine c1.use hfr ?_ | with_reducible refine c2.use hfr ?_); rintro W' hf; replace hfr := hfr.trans' hf; clear hf)
    | (go_at_call 31; (first | with_reducible refine c3.use hfr ?_ | with_reducible refine c4.use hfr ?_); rintro W' hf; replace hfr := hfr.trans' hf; clear hf)
    | (go_at_call 29; with_reducible refine c5.use hfr ?_; rintro W' hf; replace hfr := hfr.trans' hf; clear hf))
  go_ret
  exact ⟨rfl, hf0.trans' hfr⟩
end Go.Proofs.Ytpeiejkcoadhfaa
