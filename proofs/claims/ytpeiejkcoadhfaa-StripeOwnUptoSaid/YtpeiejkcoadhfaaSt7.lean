/- The answers of layer 9; the law of counts. -/
import Derived.Test.YtpeiejkcoadhfaaSt6
namespace Go.Proofs.Ytpeiejkcoadhfaa
open Go.RowKit Go.Shelf Go.Proofs.YtpeiejkcoadhfaaW.PrintWords Go.Proofs.YtpeiejkcoadhfaaW.PrintMore

theorem u8_nt {a : Int} (h : (Lit.int .u8 a).wf = true) : ∃ n : Nat, a = (n : Int) ∧ n < 256 := by
  have h1 : 0 ≤ a ∧ a ≤ 255 := by simpa [Lit.wf, IntKind.min, IntKind.max, IntKind.signed, IntKind.bits] using h
  exact ⟨a.toNat, by omega, by omega⟩
theorem i64_bd {a : Int} (h : (Lit.int .i64 a).wf = true) : -9223372036854775808 ≤ a ∧ a ≤ 9223372036854775807 := by
  simpa [Lit.wf, IntKind.min, IntKind.max, IntKind.signed, IntKind.bits] using h
theorem C_lit (W : World) (xs : List Int) (hn : xs.length ≤ 1000) : Kd.C u8 (W.alloc (.cells (nums .u8 xs).toArray 5)) (some ⟨W.heap.size, 0, none⟩) xs.length xs := by
  refine Kd.C_of_reads (d := (0 : Int)) ⟨rfl, by omega, fun _ => ⟨_, rfl, fun j hj => ?_⟩⟩
  rw [add_plain, blk_cell (blk_new _ _)]
  simp [nums, List.getElem?_eq_getElem hj]
theorem add_lit (ad : Addr) (j : Nat) (h : 0 < j) : ad.add j = ⟨ad.block, ad.off + j, none⟩ := by
  have h1 := add_field ad 0 j h
  rw [add_zero', Nat.zero_add] at h1
  exact h1
set_option maxRecDepth 100000 in
set_option maxHeartbeats 800000 in
theorem answers09 (w : World) : Calls Try.prog 36 #[] w fun e w' => e = .returned (.bool true) ∧ Below w.heap.size w w' := by
  have hC := C_lit w [1, 2, 3] (by decide)
  have c1 : Calls Try.prog 37 #[.slice (some ⟨w.heap.size, 0, none⟩) 3 3, .int .i64 2] (w.alloc (.cells #[.int .u8 1, .int .u8 2, .int .u8 3] 5)) fun e w' => ∃ B d, e = .returned (.slice B 2 d) ∧ (Kd.C u8s w' B 2 [[1, 2], [3, 0]] ∧ 2 ≤ d) ∧ Below w.heap.size w w' :=
    (Split_any _ _ 3 3 2 [1, 2, 3] hC (by decide) (by decide) (by decide) (by decide)).mono fun e w' h => by
      obtain ⟨B, d, he, hR, hf⟩ := h
      have h2 : ncol 3 2 = 2 := by decide
      have h3 : splitL [1, 2, 3] 2 = [[1, 2], [3, 0]] := by decide
      rw [h2] at he hR
      rw [h3] at hR
      obtain ⟨_, hd, hCR⟩ := Kd.S_reads' hR
      exact ⟨B, d, he, ⟨hCR, hd⟩, (below_alloc (Below.refl _ _) _).trans ((Fr.below hf (Nat.le_refl _) (fun _ h => h.elim)).mono (by simp))⟩
  have HC := Aside0.mk c1
  clear c1 hC
  go_enter Try.func36, Try.ntmps36
  go_wp2_with fail
  refine HC.out.mono ?_
  rintro e w1 ⟨B, d, rfl, ⟨hC, hd⟩, hb⟩
  have c2 : Calls Try.prog 39 #[.slice B 2 d, .int .i64 3, .int .i64 2] w1 fun e w' => ∃ B, e = .returned (.tuple #[.slice B 3 3, .bool true]) ∧ Rd w' w1.heap.size B 3 [1, 2, 3] ∧ Below w1.heap.size w1 w' :=
    Join_yes w1 B 2 d [[1, 2], [3, 0]] hC hd 3 2 (by decide) (by decide) (by decide) (by decide) (by decide) (by decide)
  have HC2 := Aside0.mk c2
  have HC3 := Aside0.mk hC
  have HB := Aside0.mk hb
  clear c2 hC hb HC
  go_wp2_with fail
  refine HC2.out.mono ?_
  rintro e w2 ⟨B2, rfl, ⟨hC2, _⟩, hb2⟩
  obtain ⟨ad, A0, c0, rfl, hx, hl0, hC0⟩ := row_at (Kd.C_below HC3.out hb2) 1 (by decide)
  have q0 : (convert 36 9 (.slice A0 2 c0)).run Try.prog w2 = .ok (.string ⟨#[3, 0]⟩) w2 := Kd.C_string (P := Try.prog) (c := c0) Try.underlying36 Try.underlying5 Try.underlying9 hC0
  have q1 : (convert 36 9 (.slice B2 3 3)).run Try.prog w2 = .ok (.string ⟨#[1, 2, 3]⟩) w2 := Kd.C_string (P := Try.prog) (c := 3) Try.underlying36 Try.underlying5 Try.underlying9 hC2
  have hx' : w2.cell? ⟨ad.block, ad.off + 1, none⟩ = some (.slice A0 2 c0) := by rw [← add_lit ad 1 (by decide)]; exact hx
  have c4 : Calls Try.prog 38 #[.int .i64 3, .int .i64 2] w2 fun e w' => e = .returned (.int .i64 2) ∧ w2 = w' := Columns_yes w2 3 2 (by decide) (by decide)
  have HC4 := Aside0.mk c4
  have HB2 := Aside0.mk (HB.out.trans (hb2.mono HB.out.size))
  clear hx hC0 hl0 hC2 c4 hb2 HC3 HC2 HB
  go_wp2_with (go_at_call 38; refine HC4.out.mono ?_; rintro e w3 ⟨rfl, rfl⟩)
  go_ret
  exact ⟨rfl, HB2.out⟩
end Go.Proofs.Ytpeiejkcoadhfaa
