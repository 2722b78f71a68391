/- The law StripeCounts, walked. -/
import Derived.Test.YtpeiejkcoadhfaaSt7
namespace Go.Proofs.Ytpeiejkcoadhfaa
open Go.RowKit Go.Shelf Go.Proofs.YtpeiejkcoadhfaaW.PrintWords Go.Proofs.YtpeiejkcoadhfaaW.PrintMore

theorem ncol_pos (a b : Nat) (hb : 0 < b) (ha : 0 < a) : ncol a b = (a - 1) / b + 1 := by
  unfold ncol
  rw [show a + b - 1 = (a - 1) + b by omega, Nat.add_div_right _ hb]
set_option maxRecDepth 100000 in
set_option maxHeartbeats 800000 in
theorem counts_law (w : World) (size : Int) (hs : (Lit.int .i64 size).wf = true) (k : Int) (hk : (Lit.int .i64 k).wf = true) :
    Calls Try.prog 9 #[.int .i64 size, .int .i64 k] w fun e w' => e = .returned (.bool true) ∧ Below w.heap.size w w' := by
  obtain ⟨hs0, hs1⟩ := i64_bd hs
  obtain ⟨hk0, hk1⟩ := i64_bd hk
  clear hs hk
  have HA := Aside0.mk answers09
  by_cases h : size < 0 ∨ k < 1
  · have HC := Aside0.mk (Columns_no w size k h)
    by_cases h1 : size < 0
    · clear h
      go_enter Try.func9, Try.ntmps9
      go_wp2_with (first | (go_at_call 38; refine HC.out.mono ?_; rintro e w1 ⟨rfl, rfl⟩) | (go_at_call 36; refine (HA.out _).mono ?_; rintro e w1 ⟨rfl, hb⟩; have HB := Aside0.mk hb; clear hb))
      go_ret
      exact ⟨rfl, HB.out⟩
    · have h2 : k < 1 := h.resolve_left h1
      clear h
      go_enter Try.func9, Try.ntmps9
      go_wp2_with (first | (go_at_call 38; refine HC.out.mono ?_; rintro e w1 ⟨rfl, rfl⟩) | (go_at_call 36; refine (HA.out _).mono ?_; rintro e w1 ⟨rfl, hb⟩; have HB := Aside0.mk hb; clear hb))
      go_ret
      exact ⟨rfl, HB.out⟩
  · obtain ⟨a, rfl⟩ := Int.eq_ofNat_of_zero_le (show 0 ≤ size by omega)
    obtain ⟨b, rfl⟩ := Int.eq_ofNat_of_zero_le (show 0 ≤ k by omega)
    have hb : 0 < b := by omega
    have h1 : ¬ (a : Int) < 0 := by omega
    have h2 : ¬ (b : Int) < 1 := by omega
    have HC := Aside0.mk (Columns_yes w a b hb (by omega))
    by_cases h0 : a = 0
    · subst h0
      rw [ncol_zero b hb] at HC
      clear h
      go_enter Try.func9, Try.ntmps9
      go_wp2_with (first | (go_at_call 38; refine HC.out.mono ?_; rintro e w1 ⟨rfl, rfl⟩) | (go_at_call 36; refine (HA.out _).mono ?_; rintro e w1 ⟨rfl, hb⟩; have HB := Aside0.mk hb; clear hb))
      go_ret
      exact ⟨rfl, HB.out⟩
    · rw [ncol_pos a b hb (by omega)] at HC
      obtain ⟨q, hq⟩ : ∃ q, q = (a - 1) / b := ⟨_, rfl⟩
      rw [← hq] at HC
      have hq1 : ((a : Int) - 1) / (b : Int) = (q : Int) := by rw [hq, Int.natCast_ediv, Int.natCast_sub (by omega)]; rfl
      have hqb : q ≤ 9223372036854775806 := by have := Nat.div_le_self (a - 1) b; omega
      have h3 : ((a : Int) == 0) = false := by simp; omega
      have h4 : (a == 0) = false := by simp; omega
      have h5 : 0 < (a : Int) := by omega
      clear hq h h0
      go_enter Try.func9, Try.ntmps9
      go_wp2_with (first | (go_at_call 38; refine HC.out.mono ?_; rintro e w1 ⟨rfl, rfl⟩) | (go_at_call 36; refine (HA.out _).mono ?_; rintro e w1 ⟨rfl, hb⟩; have HB := Aside0.mk hb; clear hb))
      go_ret
      exact ⟨rfl, HB.out⟩
end Go.Proofs.Ytpeiejkcoadhfaa
