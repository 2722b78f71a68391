/- What the view's laws take, Vu47: VwCL. -/
import Derived.Test.YtpeiejkcoadhfaaVu33
set_option linter.all false
namespace Go.Proofs.Ytpeiejkcoadhfaa
open Go.RowKit Go.Shelf Go.Proofs.YtpeiejkcoadhfaaW.PrintWords Go.Proofs.YtpeiejkcoadhfaaW.PrintMore
open Go.BigFrame
set_option maxRecDepth 100000 in
set_option maxHeartbeats 3200000 in
theorem znH (w : World) (N T K E Rm : Int) (A : Option Addr) (n c : Nat) (X : Option Addr) (nr cr : Nat) (rs : List Ri) (hR : RL w X nr rs) (hnr : nr ≤ 9223372036854775807) (hsm : ∀ r ∈ rs, r.ds.length ≤ 9223372036854775807 ∧ r.sn.length ≤ 9223372036854775807) (hN : -9223372036854775808 ≤ N ∧ N ≤ 9223372036854775807)
 (B : Option Addr) (m d : Nat) (ts : List (List F)) (hT : PL w B m ts) (hm : m ≤ 9223372036854775807) (hno : ¬ yv N T K E Rm n rs (ts.map List.length)) :
 Calls Try.prog 71 #[zv N T K E Rm, .slice A n c, .slice X nr cr, .slice B m d] w fun e w' => e = .returned (.tuple #[.slice none 0 0, .bool false]) ∧ Below w.heap.size w w' := by
 obtain ⟨W0, hW0, hz0, a0, hb0⟩ := zU w (Obj.cells #[.int .i64 N, .int .i64 T, .int .i64 K, .int .i64 E, .int .i64 Rm] 48)
 have hrt := zbc W0 N T K E Rm n X nr cr rs (zA hR hb0) hnr hsm hN B m d ts (zG hT hb0) hm
 rw [decide_eq_false hno] at hrt
 have HB0 := za.mk hb0
 have HRT := za.mk hrt
 have HW0 := za.mk hW0
 have HBT : za (∀ W, Below W0.heap.size W0 W → Below w.heap.size w W) := ⟨fun W h => hb0.trans (h.mono hb0.size)⟩
 have hu48 := Try.underlying48
 have hu90 := Try.underlying90
 unfold zv at *
 clear hR hsm hT hno hW0 hz0 a0 hb0 hrt
 go_enter Try.func71, Try.ntmps71
 go_wp2_with (go_at_call 105; rw [← HW0.out]; with_reducible refine HRT.out.mono ?_; rintro e w1 ⟨rfl, hb1⟩; have HF1 := za.mk (HBT.out _ hb1); clear hb1)
 go_ret2
 exact ⟨rfl, HF1.out⟩
set_option maxRecDepth 100000 in
set_option maxHeartbeats 3200000 in
theorem zlH (w : World) (N T K E Rm : Int) (A : Option Addr) (n ca : Nat) (B : Option Addr) (n2 cb : Nat) (x y : Value) (hn : n ≠ n2) :
 Calls Try.prog 74 #[zv N T K E Rm, .slice A n ca, .slice B n2 cb, x, y] w fun e w' => e = .returned (.tuple #[.slice none 0 0, .bool false]) ∧ Below w.heap.size w w' := by
 have hne : ((n : Int) != (n2 : Int)) = true := by simp; omega
 have hu48 := Try.underlying48
 unfold zv at *
 clear hn
 go_enter Try.func74, Try.ntmps74
 go_wp2
 go_ret2
 exact ⟨rfl, zc (Below.refl _ _) _⟩
set_option maxRecDepth 100000 in
set_option maxHeartbeats 3200000 in
theorem znM (w : World) (N T K E Rm : Int) (A : Option Addr) (n ca : Nat) (B : Option Addr) (cb : Nat) (X : Option Addr) (nr cr : Nat) (rs : List Ri) (hR : RL w X nr rs) (hnr : nr ≤ 9223372036854775807) (hsm : ∀ r ∈ rs, r.ds.length ≤ 9223372036854775807 ∧ r.sn.length ≤ 9223372036854775807) (hN : -9223372036854775808 ≤ N ∧ N ≤ 9223372036854775807)
 (Z : Option Addr) (m d : Nat) (ts : List (List F)) (hT : PL w Z m ts) (hm : m ≤ 9223372036854775807) (hno : ¬ yv N T K E Rm n rs (ts.map List.length)) :
 Calls Try.prog 74 #[zv N T K E Rm, .slice A n ca, .slice B n cb, .slice X nr cr, .slice Z m d] w fun e w' => e = .returned (.tuple #[.slice none 0 0, .bool false]) ∧ Below w.heap.size w w' := by
 obtain ⟨W0, hW0, hz0, a0, hb0⟩ := zU w (Obj.cells #[.int .i64 N, .int .i64 T, .int .i64 K, .int .i64 E, .int .i64 Rm] 48)
 have hrt := zbc W0 N T K E Rm n X nr cr rs (zA hR hb0) hnr hsm hN Z m d ts (zG hT hb0) hm
 rw [decide_eq_false hno] at hrt
 have HB0 := za.mk hb0
 have HRT := za.mk hrt
 have HW0 := za.mk hW0
 have HBT : za (∀ W, Below W0.heap.size W0 W → Below w.heap.size w W) := ⟨fun W h => hb0.trans (h.mono hb0.size)⟩
 have hu48 := Try.underlying48
 have hu90 := Try.underlying90
 have hnb : ((n : Int) != (n : Int)) = false := by simp
 unfold zv at *
 clear hR hsm hT hno hW0 hz0 a0 hb0 hrt
 go_enter Try.func74, Try.ntmps74
 go_wp2_with (go_at_call 105; rw [← HW0.out]; with_reducible refine HRT.out.mono ?_; rintro e w1 ⟨rfl, hb1⟩; have HF1 := za.mk (HBT.out _ hb1); clear hb1)
 go_ret2
 exact ⟨rfl, HF1.out⟩
end Go.Proofs.Ytpeiejkcoadhfaa
