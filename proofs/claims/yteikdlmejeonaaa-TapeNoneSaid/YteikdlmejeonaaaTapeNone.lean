/- The law TapeNone: a tape that is none. -/
import Derived.Test.YteikdlmejeonaaaTapeAns
import Derived.Test.YteikdlmejeonaaaTapeArgs
namespace Go.Proofs.Yteikdlmejeonaaa
open Go.RowKit Go.Proofs.YteikdlmejeonaaaW.PrintWords

theorem none_take (w : World) (n : Int) : Calls Try.prog 9 #[.pointer none, .int .i64 n] w fun e w' => e = .returned (.tuple #[.slice none 0 0, .bool false]) ∧ w = w' := by
  go_enter Try.func9, Try.ntmps9
  go_wp2
  go_ret2
  exact ⟨rfl, rfl⟩
theorem none_add (w : World) (A : Option Addr) (n c : Nat) : Calls Try.prog 8 #[.pointer none, .slice A n c] w fun e w' => e = .returned (.int .i64 1) ∧ w = w' := by
  go_enter Try.func8, Try.ntmps8
  go_wp2
  go_ret
  exact ⟨rfl, rfl⟩
theorem none_left (w : World) : Calls Try.prog 10 #[.pointer none] w fun e w' => e = .returned (.int .i64 0) ∧ w = w' := by
  go_enter Try.func10, Try.ntmps10
  go_wp2
  go_ret
  exact ⟨rfl, rfl⟩
theorem none_used (w : World) : Calls Try.prog 11 #[.pointer none] w fun e w' => e = .returned (.int .i64 0) ∧ w = w' := by
  go_enter Try.func11, Try.ntmps11
  go_wp2
  go_ret
  exact ⟨rfl, rfl⟩
theorem none_law (w : World) (A : Option Addr) (n c : Nat) (m : Int) : Calls Try.prog 5 #[.slice A n c, .int .i64 m] w fun e w' => e = .returned (.bool true) ∧ Below w.heap.size w w' := by
  go_enter Try.func5, Try.ntmps5
  go_wp2_with (first
    | (go_at_call 9; refine (none_take _ _).mono ?_; rintro e w' ⟨rfl, rfl⟩)
    | (go_at_call 12; refine (answers_any _).mono ?_; rintro e w1 ⟨rfl, hb⟩; have HB := Aside0.mk hb; clear hb)
    | (go_at_call 8; refine (none_add _ _ _ _).mono ?_; rintro e w' ⟨rfl, rfl⟩)
    | (go_at_call 10; refine (none_left _).mono ?_; rintro e w' ⟨rfl, rfl⟩)
    | (go_at_call 11; refine (none_used _).mono ?_; rintro e w' ⟨rfl, rfl⟩))
  go_ret
  exact ⟨rfl, HB.out⟩
theorem none_row (w : World) (A : Option Addr) (n c : Nat) (l : List Int) (_ : l.length = n) (_ : Kd.C u8 w A n l) (_ : n ≤ c) (_ : ∀ x ∈ l, (Lit.int .u8 x).wf = true) (m : Int) (_ : (Lit.int .i64 m).wf = true) :
    Calls Try.prog 5 #[.slice A n c, .int .i64 m] w fun e w' => e = .returned (.bool true) ∧ Below w.heap.size w w' := none_law w A n c m
end Go.Proofs.Yteikdlmejeonaaa
