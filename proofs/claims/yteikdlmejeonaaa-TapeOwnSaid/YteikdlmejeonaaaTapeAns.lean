/- The answers that a program that does nothing does not give. -/
import Derived.Test.YteikdlmejeonaaaTape
import Derived.Deep.QuietTactic
import Derived.BigQuiet
namespace Go.Proofs.Yteikdlmejeonaaa
open Go.RowKit Go.Proofs.YteikdlmejeonaaaW.PrintWords

theorem lit_C (W : World) (e : Nat) (xs : List Int) (hn : xs.length ≤ 1000) : Kd.C u8 (W.alloc (.cells (nums .u8 xs).toArray e)) (some ⟨W.heap.size, 0, none⟩) xs.length xs := by
  refine Kd.C_of_reads (d := (0 : Int)) ⟨rfl, by omega, fun _ => ⟨_, rfl, fun j hj => ?_⟩⟩
  rw [add_plain, blk_cell (blk_new _ _)]
  simp [nums, List.getElem?_eq_getElem hj]

theorem answers_any (w : World) : Calls Try.prog 12 #[] w fun e w' => e = .returned (.bool true) ∧ Below w.heap.size w w' := by
  have hC : Kd.C u8 ((w.alloc (.cells #[.slice none 0 0, .int .i64 0] 39)).alloc (.cells #[.int .u8 1, .int .u8 2, .int .u8 3] 5)) (some ⟨w.heap.size + 1, 0, none⟩) 3 [1, 2, 3] := by
    have := lit_C (w.alloc (.cells #[.slice none 0 0, .int .i64 0] 39)) 5 [1, 2, 3] (by decide)
    simpa [nums] using this
  have hT : Tp ((w.alloc (.cells #[.slice none 0 0, .int .i64 0] 39)).alloc (.cells #[.int .u8 1, .int .u8 2, .int .u8 3] 5)) w.heap.size w.heap.size none 0 [] 0 :=
    tp_fr (tp_new w w.heap.size (Nat.le_refl _)) (Fr.of_below (below_alloc (Below.refl _ _) _) (fun _ => False)) (fun _ _ h => h)
  have HC := Aside0.mk hC
  have HT := Aside0.mk hT
  clear hC hT
  go_enter Try.func12, Try.ntmps12
  go_wp2_with fail
  refine (new_any _).mono ?_
  rintro e w1 ⟨rfl, rfl⟩
  go_wp2_with fail
  refine (add_ok _ w.heap.size w.heap.size none 0 [] 0 HT.out _ _ _ [1, 2, 3] HC.out (by simp; omega) (by decide)).mono ?_
  rintro e w2 ⟨A, c, rfl, hT2, hF2, hS2⟩
  have HT2 := Aside0.mk hT2
  have HF2 := Aside0.mk hF2
  have HS2 := Aside0.mk hS2
  clear hT2 hF2 hS2
  go_wp2_with fail
  refine (take_ok _ _ _ _ _ _ _ HT2.out 2 (by decide) (by decide) (by decide)).mono ?_
  rintro e w3 ⟨A3, c3, B, d, rfl, hT3, hR3, hF3, hS3⟩
  have HT3 := Aside0.mk hT3
  have HR3 := Aside0.mk hR3
  have HF3 := Aside0.mk hF3
  have HS3 := Aside0.mk hS3
  clear hT3 hF3 hS3 hR3
  go_wp2_with fail
  refine (take_no _ _ _ _ _ _ _ HT3.out _ (.inr (by decide))).mono ?_
  rintro e w4 ⟨rfl, rfl⟩
  have hs := Kd.C_string (P := Try.prog) (c := d) Try.underlying25 Try.underlying5 Try.underlying9 (R_C HR3.out)
  have hb : Below w.heap.size w w3 := ((below_alloc (below_alloc (Below.refl _ _) _) _).trans (HF2.out.below (by simp only [World.size_alloc]; omega) (fun k hk => by rcases hk with rfl | ⟨a, ha, _⟩ <;> first | exact Nat.le_refl _ | cases ha))).trans
    (HF3.out.below (by have := HF2.out.size; simp at this; omega) (fun k hk => by omega))
  have HB := Aside0.mk hb
  have hst : ((strOfNums [1, 2]).toList == [1, 2]) = true := by decide +kernel
  clear hb
  go_wp2_with (first | (go_at_call 10; refine (left_any _ _ _ _ _ _ _ HT3.out).mono ?_; rintro e w' ⟨rfl, rfl⟩) | (go_at_call 11; refine (used_any _ _ _ _ _ _ _ HT3.out).mono ?_; rintro e w' ⟨rfl, rfl⟩))
  go_ret
  exact ⟨rfl, HB.out⟩
end Go.Proofs.Yteikdlmejeonaaa
