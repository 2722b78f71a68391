/- What the view's laws take, Vu12: St2, St3, St4, St5, St6, St7, StArgs. -/
import Derived.Test.YtpeiejkcoadhfaaVu03
import Derived.Test.YtpeiejkcoadhfaaVu05
import Derived.Test.YtpeiejkcoadhfaaVu11
set_option linter.all false
namespace Go.Proofs.Ytpeiejkcoadhfaa
open Go.RowKit Go.Shelf Go.Proofs.YtpeiejkcoadhfaaW.PrintWords Go.Proofs.YtpeiejkcoadhfaaW.PrintMore
attribute [local go_sem] Oper.semAt_some
theorem zgh : (Try.prog.info? 36).map (fun i => (i.zero, i.size, i.bytes)) = some (some (.slice none 0 0), 1, 24) := by kernel_rfl
theorem zpR : (Try.prog.info? 5).map (·.size) = some 1 := by kernel_rfl
abbrev u8 : Kd Int := Kd.int .u8
abbrev u8s : Kd (List Int) := Kd.slice 5 u8
set_option maxRecDepth 100000 in
theorem zkk (w : World) (v : Value) (hv : v.oneCell' = true) (k : Nat) (hk : 0 < k) (hk2 : k ≤ 255) : Calls Try.prog 76 #[v, .int .i64 k] w fun e w' =>
 e = .returned (.func (.func 117) #[] #[.pointer (some ⟨w.heap.size, 0, none⟩), .pointer (some ⟨w.heap.size + 1, 0, none⟩)]) ∧ w' = (w.alloc (.cells #[v] 36)).alloc (.cells #[.int .i64 k] 3) := by
 have h1 : ¬ (k : Int) < 1 := by omega
 go_enter Try.func76, Try.ntmps76
 go_wp2
 go_ret
 exact ⟨rfl, rfl⟩
def SpI (xs : List Int) (k : Nat) (w2 : World) (o : Nat) (pre : List Nat) (W : World) : Prop :=
 ∃ v, W.heap[o]? = some (.cells #[v] 37 (0, 0)) ∧ Kd.S u8s 36 W (w2.heap.size + 2) (fun j => w2.heap.size + 2 ≤ j) v (pre.map (Zy xs k)) ∧ Fr (fun j => j = o) w2 W
theorem znQ {W : World} {A : Option Addr} {len c k j : Nat} {xs : List Int} (hC : Kd.C u8 W A len xs) (hc : len ≤ c) (h : j * k < len) :
 ∃ B, zaq A len k j = .slice B ((xs.drop (j * k)).take k).length ((xs.drop (j * k)).take k).length ∧ Kd.C u8 W B ((xs.drop (j * k)).take k).length ((xs.drop (j * k)).take k) := by
 have hl := Kd.C_len hC
 obtain ⟨p, rfl, _⟩ := (Kd.reads_of_C (enc := Value.int .u8) (d := (0 : Int)) (h1 := fun _ => rfl) hC).2.2 (by omega)
 have hn : zcz k (len - j * k) = ((xs.drop (j * k)).take k).length := by
  rw [List.length_take, List.length_drop, hl]
  unfold zcz
  split <;> omega
 have hm := zot (0 : Int) c (j * k) (j * k + zcz k (len - j * k)) hC (by omega) (by unfold zcz; split <;> omega) hc
 unfold zaF at hm
 rw [if_neg (by omega), Nat.add_sub_cancel_left, hn] at hm
 refine ⟨some (p.add (j * k)), by unfold zaq; rw [hn]; rfl, ?_⟩
 have e : (xs.drop (j * k)).take ((xs.drop (j * k)).take k).length = (xs.drop (j * k)).take k := by rw [List.length_take, ← List.take_eq_take_min]
 rw [e] at hm
 exact hm
set_option maxRecDepth 100000 in
set_option maxHeartbeats 1600000 in
theorem zcp (w : World) (A : Option Addr) (len c k : Nat) (xs : List Int) (hC : Kd.C u8 w A len xs) (hc : len ≤ c) (hk : 0 < k) (hk2 : k ≤ 255) (hlen : len ≤ 1099511627776) :
 Calls Try.prog 37 #[.slice A len c, .int .i64 k] w fun e w' => ∃ B d, e = .returned (.slice B (ye len k) d) ∧ Kd.S u8s 36 w' w.heap.size (fun j => w.heap.size ≤ j) (.slice B (ye len k) d) (jd xs k) ∧ Fr (fun _ => False) w w' := by
 have hxl := Kd.C_len hC
 have hA : 0 < len → ∃ p, A = some p := fun h => by
  obtain ⟨ad, h1, _⟩ := (Kd.reads_of_C (enc := Value.int .u8) (d := (0 : Int)) (h1 := fun _ => rfl) hC).2.2 h
  exact ⟨ad, h1⟩
 have hnl := Zx len k hk
 refine (callsIn_wide (n := 3)).1 (callsIn_of_wp_marks Try.func37 rfl trivial ?_ rfl)
 simp only [Try.ntmps37, List.size_toArray, List.length_cons, List.length_nil, Nat.reduceAdd, Nat.reduceSub, Array.replicate_succ, Array.replicate_zero, List.push_toArray, List.append_toArray, List.nil_append, List.cons_append]
 have h1 : ¬ (k : Int) < 1 := by omega
 have HC := za.mk hC
 have HX := za.mk hxl
 have HN := za.mk hnl
 have HA := za.mk hA
 clear hC hxl hnl hA
 gi_wp2_with (refine ⟨trivial, ?_⟩; gi_at_call 76; refine (callsIn_wide.2 (zkk _ _ rfl k hk hk2)).mono ?_; rintro e W' ⟨rfl, rfl⟩)
 obtain ⟨w2, hw2⟩ : ∃ w2, w2 = ((((w.alloc (Obj.cells #[Value.int IntKind.i64 ↑k] 3)).alloc (Obj.cells #[Value.slice none 0 0] 37)).alloc (Obj.cells #[Value.slice A len c] 36)).alloc (Obj.cells #[Value.int IntKind.i64 ↑k] 3)) := ⟨_, rfl⟩
 have hz2 : w2.heap.size = w.heap.size + 4 := by rw [hw2]; simp
 have hb2 : Below w.heap.size w w2 := by rw [hw2]; exact zc (zc (zc (zc (Below.refl _ _) _) _) _) _
 have g0 : w2.heap[w.heap.size]? = some (.cells #[.int .i64 k] 3 (0, 0)) := by rw [hw2]; exact zt (zt (zt (yw _ _) _) _) _
 have g1 : w2.heap[w.heap.size + 1]? = some (.cells #[.slice none 0 0] 37 (0, 0)) := by
  rw [hw2]
  have := yw (w.alloc (Obj.cells #[Value.int IntKind.i64 ↑k] 3)) (Obj.cells #[Value.slice none 0 0] 37)
  rw [World.size_alloc] at this
  exact zt (zt this _) _
 have g2 : w2.heap[w.heap.size + 1 + 1]? = some (.cells #[.slice A len c] 36 (0, 0)) := by
  rw [hw2]
  have := yw ((w.alloc (Obj.cells #[Value.int IntKind.i64 ↑k] 3)).alloc (Obj.cells #[Value.slice none 0 0] 37)) (Obj.cells #[Value.slice A len c] 36)
  rw [World.size_alloc, World.size_alloc] at this
  exact zt this _
 have g3 : w2.heap[w.heap.size + 1 + 1 + 1]? = some (.cells #[.int .i64 k] 3 (0, 0)) := by
  rw [hw2]
  have := yw (((w.alloc (Obj.cells #[Value.int IntKind.i64 ↑k] 3)).alloc (Obj.cells #[Value.slice none 0 0] 37)).alloc (Obj.cells #[Value.slice A len c] 36)) (Obj.cells #[Value.int IntKind.i64 ↑k] 3)
  rw [World.size_alloc, World.size_alloc, World.size_alloc] at this
  exact this
 rw [← hw2]
 clear hw2
 obtain ⟨s, hs⟩ : ∃ s, s = w.heap.size := ⟨_, rfl⟩
 rw [← hs] at hz2 g0 g1 g2 g3 ⊢
 have HC2 := za.mk (Kd.C_below HC.out hb2)
 refine zaH (P := Try.prog) (gf := 117) (lb := #[.pointer (some ⟨s + 1 + 1, 0, none⟩), .pointer (some ⟨s + 1 + 1 + 1, 0, none⟩)]) rfl (fun _ _ => rfl) (encs := fun j => #[zaq A len k j]) (Rel := fun pre j _ => j = pre.length ∧ j * k < len) (S := fun j => j = s + 1) (Full := fun ys => ys = List.range (ye len k))
  (zjS _ w2 (s + 1 + 1) (s + 1 + 1 + 1) A len c k HA.out hk hk2 (by omega) hc g2 g3 (by omega) (by omega)) (fun _ => rfl) (fun j hj => by omega)
  (SpI xs k w2 (s + 1)) ?_ (fun pre j W W' h _ => h) ⟨_, g1, Kd.S_nil _ _ _ _ _, Fr.refl _ _⟩
  (fun j => { tmps := #[Value.slice A len c, Value.int IntKind.i64 ↑k, undef, Value.pointer (some { block := s, off := 0 }),
        Value.slice none 0 0, Value.pointer (some { block := s + 1, off := 0 }), zaq A len k j, undef,
        Value.int IntKind.i64 ↑k, Value.bool false, Value.slice A len c, Value.int IntKind.i64 ↑k,
        Value.func (Fn.func 117) #[]
         #[Value.pointer (some { block := s + 1 + 1, off := 0 }),
           Value.pointer (some { block := s + 1 + 1 + 1, off := 0 })],
        zaq A len k j, undef, undef, undef, undef, undef, undef, undef, undef, undef, undef], defers := [] }) ?_ ?_ ?_
 ·rintro pre W W' ⟨v, hv, hr, hf⟩ hk
  exact ⟨v, hk.blk hv (fun h => by omega), zpL hr hk, hf.trans hk (fun k h => .inr h.1)⟩
 ·intro l pre j W K hr hK
  clear hr
  subst hs
  rw [zip1]
  gi_wp2
  exact hK
 ·rintro l pre j W hsz ⟨v, hv, hr, hf⟩ ⟨hj, hlt⟩
  have hb0 := hf.blk g0 (by omega)
  have c0 : W.cell? ⟨s, 0, none⟩ = some (.int .i64 k) := zh hb0 rfl
  have c1 : W.cell? ⟨s + 1, 0, none⟩ = some v := zh hv rfl
  have hfw : Fr (fun _ => False) w W := (Fr.of_below hb2 _).trans hf (fun k hk => .inr (by omega))
  obtain ⟨B, hB, hBC⟩ := znQ (zlN (0 : Int) HC.out hfw (fun _ _ _ h => h)) hc hlt
  rw [hB]
  have hcol : Zy xs k j = (xs.drop (j * k)).take k ++ (List.replicate k (0 : Int)).drop ((xs.drop (j * k)).take k).length := by rw [List.drop_replicate]; rfl
  have hyl : ((xs.drop (j * k)).take k).length ≤ k := by rw [List.length_take]; exact Nat.min_le_left _ _
  generalize (xs.drop (j * k)).take k = ys at hBC hcol hyl
  have hR1 := znw W 5 (w2.heap.size + 2) (fun i => i = W.heap.size) k (by omega) hsz rfl
  obtain ⟨W2, hrun2, hR2, hf2⟩ := zoR (P := Try.prog) (0 : Int) 36 36 3 5 Try.underlying36 zpR (c := ys.length) (xs := List.replicate k (0 : Int)) (by rw [List.length_replicate]; exact hR1) (Kd.C_alloc hBC _) (by rw [List.length_replicate]; exact hyl)
  rw [← hcol] at hR2
  rw [List.length_replicate] at hrun2 hR2
  have hf02 : Fr (fun _ => False) W W2 := (Fr.of_below (zc (Below.refl _ _) _) _).trans hf2 (fun k hk => .inr (by omega))
  have hr2 := S_fr (Kd.S_elderB hr W.heap.size (Nat.le_refl _)) hf02 (fun _ _ _ _ h => h)
  have hml : (pre.map (Zy xs k)).length = j := by rw [List.length_map, hj]
  obtain ⟨v1, W3, hrun3, hR3, hg3, hat3⟩ := zoQ (P := Try.prog) u8s (W := W2) (w2.heap.size + 2) 37 37 36 (.slice none 0 0) 24 Try.underlying37 zgh rfl (by decide) (by omega) v _ (Zy xs k j) [.slice (some ⟨W.heap.size, 0, none⟩) k k] (fun i => w2.heap.size + 2 ≤ i) (fun i => i = W.heap.size) (Kd.M_row hR2)
   (fun i hi => ⟨by omega, fun h => by have := Kd.S_lt hr i h.symm; omega⟩) (fun i hi => by have := hf02.size; omega) hr2 (by have := hf02.size; omega) (by
     have h1 := (zba j len k hk).2 hlt
     have h2 := HN.out
     rw [hml]
     omega)
  obtain ⟨B1, d1, hv1⟩ := Kd.S_slice hR3
  generalize (pre.map (Zy xs k) ++ [Zy xs k j]).length = n1 at hv1
  subst hv1
  have hv2 := hf02.blk hv (fun h => h)
  have hv3 := zcn hv2 hg3 (fun h => by
   have := Kd.S_base hr (s + 1) h.symm
   omega)
  have c2 : W2.cell? ⟨s + 1, 0, none⟩ = some v := zh hv2 rfl
  have c3 : W3.cell? ⟨s + 1, 0, none⟩ = some v := zh hv3 rfl
  have z3 : W3.frozen? ⟨s + 1, 0, none⟩ = false := yV hv3
  have hf3 : Fr (fun i => i = s + 1 ∨ w2.heap.size + 2 ≤ i) W (W3.setCell ⟨s + 1, 0, none⟩ (.slice B1 n1 d1)) := ((hf02.mono (fun _ h => h.elim)).trans' (Fr.of_grown hg3 (fun i hi => .inl (.inr (Kd.S_base hr i hi))))).set_ (p := ⟨s + 1, 0, none⟩) (.inl (.inl rfl)) _
  have hI : SpI xs k w2 (s + 1) (pre ++ [j]) (W3.setCell ⟨s + 1, 0, none⟩ (.slice B1 n1 d1)) := ⟨_, zab hv3 0 (.slice B1 n1 d1), by rw [List.map_append, List.map_singleton]; exact Kd.S_set hR3 hv3 (by decide) 0 (.slice B1 n1 d1), hf.trans hf3 (fun i hi => hi.elim .inl (fun h => .inr (by omega)))⟩
  have HF := za.mk (And.intro hf3 hI)
  have hmk := fun W => zdB (P := Try.prog) 36 5 Try.underlying36 yJ k (by omega) W
  have HR3 := za.mk hrun3
  have HS := za.mk hs
  clear hf3 hI hrun3 hat3 hg3 hR3 hr2 hR2 hR1 hcol hBC hB hfw hb0 hr hf hv hv2 hv3 hf02 hf2 hml hj hs g0 g1 g2 g3 hz2
  gi_wp2_with (gi_at_builtin; refine zbh rfl _ _ _ _ rfl rfl rfl HR3.out ?_)
  exact HF.out
 rintro ys W hF ⟨v, hv, hr, hf⟩ hK
 subst hF
 have c1 : W.cell? ⟨s + 1, 0, none⟩ = some v := zh hv rfl
 have hcl : (List.range (ye len k)).map (Zy xs k) = jd xs k := by unfold jd; rw [HX.out]
 rw [hcl] at hr
 obtain ⟨B, d, rfl⟩ := Kd.S_slice hr
 rw [zbi, HX.out] at hr c1
 have hfw : Fr (fun _ => False) w W := (Fr.of_below hb2 _).trans hf (fun k hk => .inr (by omega))
 obtain ⟨D, hD⟩ : ∃ D, D = w2.heap.size := ⟨_, rfl⟩
 have HR := za.mk hr
 have HF := za.mk hfw
 have HZ := za.mk hz2
 have HD := za.mk hD
 rw [← hD] at hK ⊢
 clear hr hf hfw hz2 hv g0 g1 g2 g3 hcl
 subst hs
 gi_wp2
 refine ⟨by simp, .inl ⟨_, _, rfl, run_takeDeferred hK, ?_⟩⟩
 refine ⟨_, results_tmp rfl _ _ _, B, d, rfl, ?_, ?_⟩
 ·have h1 := S_fr HR.out (JM W D (.deferred none)) (fun i _ hi _ h => by have := HD.out; omega)
  exact Kd.S_lower (Kd.S_mono h1 (fun i hi => by have := HZ.out; omega)) (by have := HZ.out; omega)
 exact HF.out.trans (JM W D _) (fun i hi => .inr (by have := HZ.out; have := HD.out; omega))
end Go.Proofs.Ytpeiejkcoadhfaa
namespace Go.Proofs.Ytpeiejkcoadhfaa
open Go.RowKit Go.Shelf Go.Proofs.YtpeiejkcoadhfaaW.PrintWords Go.Proofs.YtpeiejkcoadhfaaW.PrintMore
theorem zci {w : World} {A : Option Addr} {n : Nat} {xss : List (List Int)} (h : Kd.C u8s w A n xss) (j : Nat) (hj : j < n) :
 ∃ ad A0 c0, A = some ad ∧ w.cell? (ad.add j) = some (.slice A0 (xss.getD j []).length c0) ∧ (xss.getD j []).length ≤ c0 ∧ Kd.C u8 w A0 (xss.getD j []).length (xss.getD j []) := by
 obtain ⟨ad, c, e, _, hK, hc0⟩ := Kd.C_get h ([] : List Int) (j : Int) (by omega) (by omega)
 rw [Int.toNat_natCast] at hK hc0
 obtain ⟨A0, c0, rfl, l0, g0⟩ := hK
 have h0 := hc0 0 _ rfl
 rw [show u8s.sz = 1 from rfl, Nat.mul_one, Nat.add_zero] at h0
 exact ⟨ad, A0, c0, e, h0, l0, g0⟩
theorem yi (p : Addr) : p.add 0 = p := by
 cases p
 unfold Addr.add
 split <;> simp_all
theorem zgF (w : World) (A : Option Addr) (n c : Nat) (hc : n ≤ c) : Calls Try.prog 80 #[.slice A n c] w fun e w' => e = .returned (.slice A n n) ∧ w = w' := by
 obtain ⟨i5, hi5, _, hs5, _⟩ := info_parts yJ
 have hel : Try.prog.elem 36 = 5 := by simp [Program.elem, Try.underlying36]
 have hu : Try.prog.underlying 36 = some (.slice (Try.prog.elem 36)) := by rw [hel]; exact Try.underlying36
 have hk : ∀ W : World, (Instr.slice 36 (.slice A n c) none (some (.int .i64 (n : Int))) (some (.int .i64 (n : Int)))).run Try.prog W = .ok (.slice A n n) W := fun W => by
  rw [run_slice_hm W 36 A n c hu .i64 .i64 (n : Int) (n : Int) (by omega) (by omega) (by omega), hel]
  simp [sizeOf, typeInfo, hi5, hs5, sliced, Result.andThen]
  intro _
  cases A with
  | none => rfl
  | some p => simp [yi]
 clear hi5 hs5 hel hu
 go_enter Try.func80, Try.ntmps80
 go_wp2
 go_ret
 exact ⟨rfl, rfl⟩
theorem zlj (a b : Nat) (hb : 0 < b) : ye a b = a / b + (if 0 < a % b then 1 else 0) := by
 unfold ye
 have h1 := Nat.div_add_mod a b
 have h2 := Nat.mod_lt a hb
 split
 ·rename_i h
  have e : a + b - 1 = (a % b - 1) + b * (a / b + 1) := by rw [Nat.mul_add, Nat.mul_one]; omega
  rw [e, Nat.add_mul_div_left _ _ hb, Nat.div_eq_of_lt (by omega)]
  omega
 rename_i h
 have e : a + b - 1 = (b - 1) + b * (a / b) := by omega
 rw [e, Nat.add_mul_div_left _ _ hb, Nat.div_eq_of_lt (by omega)]
 omega
theorem zcK (w : World) (a b : Nat) (hb : 0 < b) (ha : a ≤ 9223372036854775807) : Calls Try.prog 38 #[.int .i64 a, .int .i64 b] w fun e w' => e = .returned (.int .i64 (ye a b : Nat)) ∧ w = w' := by
 have h1 : ¬ (a : Int) < 0 := by omega
 have h2 : ¬ (b : Int) < 1 := by omega
 have hd := zlj a b hb
 have hq : (a / b : Nat) ≤ 9223372036854775807 := Nat.le_trans (Nat.div_le_self _ _) ha
 have hq0 : (0 : Int) ≤ (a : Int) / (b : Int) := Int.ediv_nonneg (by omega) (by omega)
 have hq4 : (a : Int) / (b : Int) ≤ 9223372036854775807 := by
  have : ((a / b : Nat) : Int) = (a : Int) / (b : Int) := Int.natCast_ediv a b
  omega
 by_cases hm : 0 < a % b
 ·rw [if_pos hm] at hd
  have hmI : (0 : Int) < (a : Int) % (b : Int) := by omega
  have hq2 : (a / b : Nat) + 1 ≤ 9223372036854775807 := by
   rcases Nat.lt_or_ge 1 b with h | h
   ·have : a / b ≤ a / 2 := Nat.div_le_div_left (show 2 ≤ b from h) (by omega)
    omega
   obtain rfl : b = 1 := by omega
   rw [Nat.mod_one] at hm; omega
  have hq3 : (a : Int) / (b : Int) + 1 ≤ 9223372036854775807 := by
   have : ((a / b : Nat) : Int) = (a : Int) / (b : Int) := Int.natCast_ediv a b
   omega
  have HD := za.mk hd
  clear hd hm hq hq2
  go_enter Try.func38, Try.ntmps38
  go_wp2
  go_ret
  exact ⟨by rw [HD.out]; rfl, rfl⟩
 rw [if_neg hm] at hd
 have hmI : ¬ (0 : Int) < (a : Int) % (b : Int) := by omega
 have HD := za.mk hd
 clear hd hm hq
 go_enter Try.func38, Try.ntmps38
 go_wp2
 go_ret
 exact ⟨by rw [HD.out]; rfl, rfl⟩
theorem zpt (x : Int) (h0 : 0 ≤ x) (h : x ≤ 9223372036854775807) : wrap64 x = x := by
 unfold wrap64
 omega
theorem Jh (a b : Nat) (h : a + b ≤ 9223372036854775807) : wrap64 ((a : Int) + (b : Int)) = ((a + b : Nat) : Int) := by
 rw [zpt _ (by omega) (by omega)]; omega
theorem yU (a : Nat) (h : a + 1 ≤ 9223372036854775807) : wrap64 ((a : Int) + 1) = ((a + 1 : Nat) : Int) := by
 rw [zpt _ (by omega) (by omega)]; omega
section
open PDealSecret
theorem zkX (xs ys col : List Int) (k p p' n : Nat) (hk2 : k ≤ 255) (hn : xs.length = n) (hl : n ≤ 1099511627776) (out : List (List Int)) (ho : out.length < 5864062014805) (r : List (List Int)) (hp' : p' = p + k) (hpl : p < n)
 (hr : Ev (fun q => shamrockref06_Split.l0 q xs (k : Int) (out ++ [col]) (p' : Int)) r)
 (hcol : col = ys.take ys.length ++ List.replicate (k - ys.length) 0) (h1 : ys.length ≤ k) (h2 : ys.length < k → p + ys.length = n) (h3 : p + ys.length ≤ n)
 (hrd : ∀ i, i < ys.length → rd xs ((p + i : Nat) : Int) = ys.getD i 0) (d : Nat) :
 ∀ i, i ≤ ys.length → ys.length - i = d →
   Ev (fun q => shamrockref06_Split.l1 q xs (k : Int) out (p : Int) (ys.take i ++ List.replicate (k - i) 0) (i : Int)) r := by
 have hnext : za (wrap64 ((p : Int) + (k : Int)) = (p' : Int)) := ⟨by rw [hp']; exact Jh p k (by omega)⟩
 induction d with
 | zero =>
   intro i hi hd
   obtain rfl : i = ys.length := by omega
   rw [← hcol]
   refine Ev.step (f := fun q => shamrockref06_Split.l0 q xs (k : Int) (out ++ [col]) (p' : Int)) (fun q => ?_) hr
   simp only [shamrockref06_Split.l1]
   generalize ys.length = m at *
   by_cases h : m < k
   ·have h4 := h2 h
    rw [if_pos (by omega), Jh p m (by omega), if_neg (by omega), if_pos ho, hnext.out]
   rw [if_neg (by omega), if_pos ho, hnext.out]
 | succ d ih =>
   intro i hi hd
   have hset : (ys.take i ++ List.replicate (k - i) (0 : Int)).set i (ys.getD i 0) = ys.take (i + 1) ++ List.replicate (k - (i + 1)) 0 := by
    rw [List.set_append_right _ _ (by rw [List.length_take]; omega), List.length_take, Nat.min_eq_left hi, Nat.sub_self]
    obtain ⟨m, hm⟩ : ∃ m, k - i = m + 1 := ⟨k - i - 1, by omega⟩
    have hlt : i < ys.length := by omega
    rw [hm, List.replicate_succ, List.set_cons_zero, List.take_succ_eq_append_getElem hlt, show k - (i + 1) = m by omega, List.getD_eq_getElem?_getD, List.getElem?_eq_getElem hlt, List.append_assoc]
    rfl
   have hlen : (ys.take i ++ List.replicate (k - i) (0 : Int)).length = k := by rw [List.length_append, List.length_replicate, List.length_take]; omega
   refine Ev.step (f := fun q => shamrockref06_Split.l1 q xs (k : Int) out (p : Int) (ys.take (i + 1) ++ List.replicate (k - (i + 1)) 0) ((i + 1 : Nat) : Int)) (fun q => ?_) (ih (i + 1) (by omega) (by omega))
   have hilt : i < ys.length := by omega
   have hrd1 := hrd i hilt
   clear ih hr hrd hcol ho
   rw [← hset]
   generalize ys.take i ++ List.replicate (k - i) (0 : Int) = cur at *
   generalize ys.getD i 0 = y at *
   generalize ys.length = m at *
   clear hset
   have HRD := za.mk hrd1
   clear hrd1
   simp only [shamrockref06_Split.l1]
   rw [if_pos (by omega), Jh p i (by omega), if_pos (by omega), if_pos (by omega), if_pos (by omega), if_pos (by omega), yU i (by omega), HRD.out, Int.toNat_natCast]
theorem zge (xs : List Int) (k j : Nat) (hk : 0 < k) (hk2 : k ≤ 255) (hl : xs.length ≤ 1099511627776) (hj : j * k < xs.length) (out : List (List Int)) (ho : out.length = j) (r : List (List Int))
 (hr : Ev (fun q => shamrockref06_Split.l0 q xs (k : Int) (out ++ [Zy xs k j]) (((j + 1) * k : Nat) : Int)) r) :
   Ev (fun q => shamrockref06_Split.l1 q xs (k : Int) out ((j * k : Nat) : Int) (List.replicate k 0) (0 : Int)) r := by
 have hjl : j < 5864062014805 := by
  have := Nat.le_mul_of_pos_right j hk
  omega
 have hcol : Zy xs k j = ((xs.drop (j * k)).take k).take ((xs.drop (j * k)).take k).length ++ List.replicate (k - ((xs.drop (j * k)).take k).length) 0 := by
  rw [List.take_length]; rfl
 have hlen : ((xs.drop (j * k)).take k).length = min k (xs.length - j * k) := by rw [List.length_take, List.length_drop]
 have := zkX xs ((xs.drop (j * k)).take k) _ k (j * k) ((j + 1) * k) xs.length hk2 rfl hl out (by rw [ho]; exact hjl) r (by rw [Nat.add_mul, Nat.one_mul]) hj hr hcol (by omega) (by omega) (by omega) (fun i hi => by
  unfold rd
  rw [Int.toNat_natCast, List.getD_eq_getElem?_getD, List.getD_eq_getElem?_getD, List.getElem?_take, if_pos (by omega), List.getElem?_drop]) _ 0 (by omega) rfl
 simpa using this
theorem zgj (xs : List Int) (k : Nat) (hk : 0 < k) (hk2 : k ≤ 255) (hl : xs.length ≤ 1099511627776) (d : Nat) :
 ∀ j, j ≤ ye xs.length k → ye xs.length k - j = d → Ev (fun q => shamrockref06_Split.l0 q xs (k : Int) ((List.range j).map (Zy xs k)) ((j * k : Nat) : Int)) (jd xs k) := by
 induction d with
 | zero =>
   intro j hj hd
   obtain rfl : j = ye xs.length k := by omega
   have hge : ¬ ye xs.length k * k < xs.length := fun h => by have := (zba _ _ _ hk).2 h; omega
   refine Ev.step (f := fun _ => some (jd xs k)) (fun q => ?_) (Ev.now _)
   simp only [shamrockref06_Split.l0]
   rw [if_neg (by omega)]
   rfl
 | succ d ih =>
   intro j hj hd
   have hlt := (zba j _ _ hk).1 (show j < ye xs.length k by omega)
   have h1 := ih (j + 1) (by omega) (by omega)
   rw [List.range_succ, List.map_append, List.map_singleton] at h1
   have h2 := zge xs k j hk hk2 hl hlt ((List.range j).map (Zy xs k)) (by simp) _ h1
   refine Ev.step (fun q => ?_) h2
   simp only [shamrockref06_Split.l0]
   rw [if_pos (by omega), if_pos (by omega), if_pos (by omega)]
   simp
theorem zmJ (xs : List Int) (k : Nat) (hk : 0 < k) (hk2 : k ≤ 255) (hl : xs.length ≤ 1099511627776) : ∃ q, shamrockref06_Split.f q xs (k : Int) = some (jd xs k) := by
 have h := zgj xs k hk hk2 hl _ 0 (by omega) rfl
 obtain ⟨q, hq⟩ := h.rounds
 refine ⟨q, ?_⟩
 unfold shamrockref06_Split.f
 simpa using hq
end
end Go.Proofs.Ytpeiejkcoadhfaa
namespace Go.Proofs.Ytpeiejkcoadhfaa
open Go.RowKit Go.Shelf Go.Proofs.YtpeiejkcoadhfaaW.PrintWords Go.Proofs.YtpeiejkcoadhfaaW.PrintMore
theorem zpS {a : Int} (h : (Lit.int .u8 a).wf = true) : ∃ n : Nat, a = (n : Int) ∧ n < 256 := by
 have h1 : 0 ≤ a ∧ a ≤ 255 := by simpa [Lit.wf, IntKind.min, IntKind.max, IntKind.signed, IntKind.bits] using h
 exact ⟨a.toNat, by omega, by omega⟩
theorem add_lit (ad : Addr) (j : Nat) (h : 0 < j) : ad.add j = ⟨ad.block, ad.off + j, none⟩ := by
 have h1 := zaQ ad 0 j h
 rw [yi, Nat.zero_add] at h1
 exact h1
end Go.Proofs.Ytpeiejkcoadhfaa
namespace Go.Proofs.Ytpeiejkcoadhfaa
open Go.RowKit Go.Proofs.YtpeiejkcoadhfaaW.PrintWords
theorem zmS : ZA Try.prog u8 5 (fun x => (Lit.int .u8 x).wf = true) (fun _ => 1) := zfu 5 .u8 Try.underlying5 (by kernel_rfl)
theorem ju : ZA Try.prog u8s 36 (fun l => ∀ a ∈ l, (Lit.int .u8 a).wf = true) (fun l => (l.map fun _ => 1).sum + 1) := Jt 36 Try.underlying36 (by kernel_rfl) zmS
theorem zit : ZA Try.prog (Kd.slice 36 u8s) 37 (fun l => ∀ r ∈ l, ∀ a ∈ r, (Lit.int .u8 a).wf = true) (fun l => (l.map fun r => (r.map fun _ => 1).sum + 1).sum + 1) := Jt 37 Try.underlying37 (by kernel_rfl) ju
end Go.Proofs.Ytpeiejkcoadhfaa
