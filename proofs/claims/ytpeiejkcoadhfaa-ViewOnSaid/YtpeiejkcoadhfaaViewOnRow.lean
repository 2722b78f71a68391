/- ViewOn: for every input the law returns true, and each argument reads afterwards as it read before.
  Conditions: none but the row's own. -/
import Derived.Test.YtpeiejkcoadhfaaVu05
import Derived.Test.YtpeiejkcoadhfaaVu51
import Derived.Test.YtpeiejkcoadhfaaVu53
import Derived.WalkKit
import Derived.ProofKit
import Derived.OpenShut
import Derived.ShutString
import Derived.ChangeOld
import Derived.Below
set_option linter.all false
namespace Go.Proofs.Ytpeiejkcoadhfaa.viewOnRow
open Go.ChangeShapes Go.WideShapes Go.ChangeAt Go.RowKit
open Go.ChangeMaps (open_string shut_string)
set_option linter.unusedVariables false
theorem own : ownKnob Try.prog.godebug = none := by kernel_rfl
theorem Zc : laidOutB Try.prog = true := by kernel_rfl
set_option maxRecDepth 100000 in
theorem zal (H : Type) (enc : TypeId × Value → H) (W : World) (base : Nat) (args : Array Value) (ds gs : List (DataW H)) (before : List MemPlace)
 (hval0 : ∀ (j : Nat) t v, Try.f26.params[j]? = some t → args[j]? = some v → Value.okWide Try.prog W .any base t v)
 (hW : DataW.Whole enc Try.prog Try.f26.params.toList Rows.viewOnSpec.vars false W args.toList ds gs before) :
 Calls Try.prog 26 args W fun e W' => ∃ v, e = .returned v ∧ Rows.viewOnSpec.post enc Try.prog Try.f26 false true false false W args v W' := by
 have hval : ∀ (j : Nat) t v, Try.f26.params[j]? = some t → args[j]? = some v → Value.okWide Try.prog W .any base t v := hval0
 have hW' := hW
 obtain ⟨p, q, hA0, hV, rfl, hfz, hnd⟩ := hW
 have hA : DataW.TrodAll enc Try.prog W 0 (fun _ => true) true Try.f26.params.toList args.toList ds p := hA0
 rw [Try.params26] at hA hval
 obtain ⟨v0, vs0, d0, ds0, p0, q0, hargs, rfl, rfl, h0, r0⟩ := trodAll_cons hA
 obtain ⟨v1, vs1, d1, ds1, p1, q1, rfl, rfl, rfl, h1, r1⟩ := trodAll_cons r0
 obtain ⟨v2, vs2, d2, ds2, p2, q2, rfl, rfl, rfl, h2, r2⟩ := trodAll_cons r1
 obtain ⟨v3, vs3, d3, ds3, p3, q3, rfl, rfl, rfl, h3, r3⟩ := trodAll_cons r2
 obtain ⟨rfl, rfl, rfl⟩ := trodAll_nil r3
 obtain rfl : args = #[v0, v1, v2, v3] := by cases args; simp_all
 obtain ⟨rfl, rfl⟩ := trodVars_none hV
 have k0 := h0
 have lt0 : ∀ x ∈ p0, x.block < W.heap.size := by obtain ⟨m, hm⟩ := k0; exact DataW.trod_lt m _ _ _ hm
 obtain ⟨cs0, rfl, _⟩ := okWide_struct Try.underlying77 (hval 0 77 v0 rfl rfl)
 obtain ⟨x0, hK0, hw0, hm0⟩ := zgn zcl h0
 have k1 := h1
 have lt1 : ∀ x ∈ p1, x.block < W.heap.size := by obtain ⟨m, hm⟩ := k1; exact DataW.trod_lt m _ _ _ hm
 obtain ⟨A1, n1, c1, rfl⟩ := okWide_slice Try.underlying36 (hval 1 36 v1 rfl rfl)
 obtain ⟨l1, hl1, hC1, hc1, hw1, hm1⟩ := ZT ju h1
 have k2 := h2
 have lt2 : ∀ x ∈ p2, x.block < W.heap.size := by obtain ⟨m, hm⟩ := k2; exact DataW.trod_lt m _ _ _ hm
 obtain ⟨A2, n2, c2, rfl⟩ := okWide_slice Try.underlying36 (hval 2 36 v2 rfl rfl)
 obtain ⟨l2, hl2, hC2, hc2, hw2, hm2⟩ := ZT ju h2
 have k3 := h3
 have lt3 : ∀ x ∈ p3, x.block < W.heap.size := by obtain ⟨m, hm⟩ := k3; exact DataW.trod_lt m _ _ _ hm
 obtain ⟨A3, n3, c3, rfl⟩ := okWide_slice Try.underlying36 (hval 3 36 v3 rfl rfl)
 obtain ⟨l3, hl3, hC3, hc3, hw3, hm3⟩ := ZT ju h3
 clear hA0 hval0
 refine (zpa W cs0 x0 hK0 hw0 A1 n1 c1 l1 hl1 hC1 hc1 hw1 A2 n2 c2 l2 hl2 hC2 hc2 hw2 A3 n3 c3 l3 hl3 hC3 hc3 hw3).mono fun e W' ⟨he, bel⟩ => ?_
 subst he
 exact ⟨_, rfl, _, _, _, [], _, [], hW', trodAll_mk1 (shut_bool Try.underlying4 _), (trodAll_cons_mk (Below.trod Zc (by kernel_rfl) (of_decide_eq_true (by kernel_rfl)) k0 bel lt0) (trodAll_cons_mk (Below.trod Zc (by kernel_rfl) (of_decide_eq_true (by kernel_rfl)) k1 bel lt1) (trodAll_cons_mk (Below.trod Zc (by kernel_rfl) (of_decide_eq_true (by kernel_rfl)) k2 bel lt2) (trodAll_cons_mk (Below.trod Zc (by kernel_rfl) (of_decide_eq_true (by kernel_rfl)) k3 bel lt3) trodAll_mk0)))), rfl, bel.frame _, fun h => by cases h⟩
set_option maxRecDepth 100000 in
theorem zee (os : Os) (started : os.Started) (H : Type) (enc : TypeId × Value → H) :
 ReturnsInHanded {} Try.checked os 26 .any (Rows.viewOnSpec.pre6 enc Try.prog Try.f26 Rows.viewOnRow.domain false) (Rows.viewOnSpec.post enc Try.prog Try.f26 false true false false) := by
 refine returnsInHanded_of_change (C := Try.checked) own started (by kernel_rfl) Try.func26
  (ChangeSpec.witness6 (enc := enc) (C := Try.checked) false ⟨#[], #[.agg #[.int .i64 0, .int .i64 0, .int .i64 0, .int .i64 0, .int .i64 0, .slice none 0 0, .slice none 0 0], .slice none 0 0, .slice none 0 0, .slice none 0 0], []⟩ 8 (by kernel_rfl) (by kernel_rfl) (by kernel_rfl) (by kernel_rfl)) ?_
 intro W base args ds gs before hval0 hW hcnd _
 exact zal H enc W base args ds gs before hval0 hW
theorem over : Rows.viewOnRow.holds Try.pinned (OpenSpec.ofChange Rows.viewOnSpec) :=
 OpenClaim.holds_of_wide 26 Try.f26 rfl rfl rfl rfl rfl rfl rfl ⟨rfl, rfl, rfl, rfl, rfl⟩ rfl rfl rfl rfl rfl (by kernel_rfl) Try.func26 (by show joinedFacts Try.checked.prog _ _ _ _ = true; unfold joinedFacts; rw [zek, zce, zav]; kernel_rfl)
  (of_decide_eq_true (by kernel_rfl)) (by unfold Func.isWrapper; first | (rw [if_pos (by decide +kernel)]; kernel_rfl) | (rw [if_neg (by decide +kernel)]; exact ⟨rfl, rfl⟩))
  (fun os started H enc _ => zee os started H enc)
end Go.Proofs.Ytpeiejkcoadhfaa.viewOnRow
namespace Go.Proofs.Ytpeiejkcoadhfaa
theorem viewOn_holds : Rows.ViewOnSaid := viewOnRow.over
#print axioms viewOn_holds
end Go.Proofs.Ytpeiejkcoadhfaa
