/- The field: double, the powers' iterator. -/
import Derived.Test.YtpeiejkcoadhfaaRng
import Derived.Test.YtpeiejkcoadhfaaGfA
namespace Go.Proofs.Ytpeiejkcoadhfaa
open Go.RowKit Go.Shelf Go.Proofs.YtpeiejkcoadhfaaW.PrintWords
attribute [local go_sem] Oper.semAt_some

theorem ofInt_u8 (a : Nat) (ha : a < 256) : (BitVec.ofInt 8 (a : Int)).toNat = a := by
  rw [BitVec.ofInt_natCast, BitVec.toNat_ofNat]; exact Nat.mod_eq_of_lt (by omega)
theorem u8_xor (a b : Nat) (ha : a < 256) (hb : b < 256) : bits .xor .u8 (a : Int) (b : Int) = ((a ^^^ b : Nat) : Int) := by
  have hx : a ^^^ b < 2 ^ 8 := Nat.xor_lt_two_pow (by omega) (by omega)
  show IntKind.u8.wrap ((BitVec.ofInt 8 (a : Int) ^^^ BitVec.ofInt 8 (b : Int)).toNat : Int) = _
  rw [BitVec.toNat_xor, ofInt_u8 a ha, ofInt_u8 b hb]
  simp only [IntKind.wrap, IntKind.bits, IntKind.signed]
  simp
  omega
set_option maxRecDepth 100000 in
theorem dbl_hi : ∀ a < 256, 128 ≤ a → ((2 * a) % 256) ^^^ 27 = Gf.dbl a := by decide +kernel
set_option maxRecDepth 100000 in
theorem dbl_lt : ∀ a < 256, Gf.dbl a < 256 := by decide +kernel

set_option maxRecDepth 100000 in
theorem dbl_lo : ∀ a < 128, (2 * a) % 256 = Gf.dbl a := by decide +kernel
set_option maxRecDepth 100000 in
theorem double_any (w : World) (a : Nat) (ha : a < 256) : Calls Try.prog 116 #[.int .u8 a] w fun e w' => e = .returned (.int .u8 (Gf.dbl a : Nat)) ∧ w = w' := by
  by_cases h : 128 ≤ a
  · have hx : bits .xor .u8 ((a : Int) * 2 % 256) 27 = ((Gf.dbl a : Nat) : Int) := by
      have hx := u8_xor ((2 * a) % 256) 27 (Nat.mod_lt _ (by omega)) (by omega)
      rw [dbl_hi a ha h] at hx
      rw [← hx]
      congr 1
      omega
    have HX := Aside0.mk hx
    clear hx
    go_enter Try.func116, Try.ntmps116
    go_wp2
    go_ret
    exact ⟨congrArg (fun z => Ending.returned (.int .u8 z)) HX.out, rfl⟩
  · have hx : (a : Int) * 2 = ((Gf.dbl a : Nat) : Int) := by rw [← dbl_lo a (by omega)]; omega
    have HX := Aside0.mk hx
    clear hx
    go_enter Try.func116, Try.ntmps116
    go_wp2
    go_ret
    exact ⟨congrArg (fun z => Ending.returned (.int .u8 z)) HX.out, rfl⟩

/-- The powers, one by one. -/
def pairP (x : Nat × Nat) : Array Value := #[.int .i64 (x.1 : Int), .int .u8 (x.2 : Int)]
def powList (k : Nat) : List (Nat × Nat) := (List.range k).map fun n => (n, Gf.E n)
theorem powList_snoc (k : Nat) : powList (k + 1) = powList k ++ [(k, Gf.E k)] := by simp [powList, List.range_succ]
theorem powList_length (k : Nat) : (powList k).length = k := by simp [powList]
set_option maxRecDepth 100000 in
theorem powers_seq (S : Nat → Prop) (w : World) : SeqF Try.prog 115 #[] pairP (fun pre x _ => x = (pre.length, Gf.E pre.length) ∧ pre.length < 255) S (fun xs => xs = powList 255) w := by
  intro l J W hW hJ hY h0
  refine callsIn_of_wp Try.func115 rfl trivial ?_ rfl
  simp only [Try.ntmps115, List.size_toArray, List.length_cons, List.length_nil, Nat.reduceAdd, Nat.reduceSub, Array.replicate_succ, Array.replicate_zero, List.push_toArray, List.append_toArray, List.nil_append, List.cons_append]
  gi_wp2
  gi_loopw [2, 4] (fun v2 v4 wr => ∃ (k a : Nat), k ≤ 255 ∧ v4 = .int .i64 k ∧ v2 = .int .u8 a ∧ a < 256 ∧ (k < 255 → a = Gf.E k) ∧ J (powList k) wr) (fun _ v4 _ => 255 - (intOf v4).toNat)
  case atStart => exact ⟨0, 1, by omega, rfl, rfl, by omega, fun _ => by decide +kernel, h0⟩
  case round =>
    obtain ⟨k, a, hk, rfl, rfl, ha, hae, hj⟩ := hrel
    have HY := Aside0.mk hY
    have HJ := Aside0.mk hJ
    have HAE := Aside0.mk hae
    clear hY hJ hae
    by_cases hlt : k < 255
    · obtain ⟨fn, tmps, assign, body, hy, hR⟩ := HY.out (powList k) (k, a) wr hj ⟨by rw [powList_length, HAE.out hlt], by rw [powList_length]; exact hlt⟩
      have hy' : (Instr.yield l #[.int .i64 (k : Int), .int .u8 (a : Int)]).run Try.prog wr = .ok (.round l fn tmps assign body) wr := hy
      clear hy
      have hd : Gf.dbl a < 256 := dbl_lt a ha
      have HX := Aside0.mk (u8_xor a (Gf.dbl a) ha hd)
      gi_wp2
      refine hR.mono ?_
      rintro e W' ⟨rfl, hj', -⟩
      gi_wp2_with (refine ⟨trivial, ?_⟩; gi_at_call 116; refine (callsIn_wide.2 (double_any _ a ha)).mono ?_; rintro e W' ⟨rfl, rfl⟩)
      rw [HX.out]
      gi_wp2
      have hs : k + 1 < 255 → Gf.E (k + 1) = a ^^^ Gf.dbl a := fun h => by rw [Gf.E_step k (by omega), ← HAE.out hlt]; rfl
      go_roundw
      case rel => exact ⟨k + 1, a ^^^ Gf.dbl a, by omega, rfl, rfl, Nat.xor_lt_two_pow (n := 8) (by omega) (by omega), fun h => (hs h).symm, by rw [powList_snoc, ← HAE.out hlt]; exact hj'⟩
      case measure => simp only [intOf]; omega
    · have hk5 : k = 255 := by omega
      subst hk5
      gi_wp2
      go_end0
      exact ⟨⟨_, rfl⟩, _, rfl, hj⟩
end Go.Proofs.Ytpeiejkcoadhfaa
