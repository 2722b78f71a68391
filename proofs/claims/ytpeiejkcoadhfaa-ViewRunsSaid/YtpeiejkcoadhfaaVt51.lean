/- What the view's laws take, Vt51: VwSI. -/
import Derived.Test.YtpeiejkcoadhfaaVt23
import Derived.Test.YtpeiejkcoadhfaaVt50
set_option linter.all false
namespace Go.Proofs.Ytpeiejkcoadhfaa
open Go.RowKit Go.Shelf Go.Proofs.YtpeiejkcoadhfaaW.PrintWords Go.Proofs.YtpeiejkcoadhfaaW.PrintMore Go.Proofs.Ytpeiejkcoadhfaa.PViewRuns
open Go.BigFrame
theorem SameI_l0 (l m : List Int) (hlm : l.length = m.length) (hl : l.length ≤ 9223372036854775807) (d : Nat) : ∀ (q i : Nat), i + d = l.length → d < q → l.take i = m.take i → shamrockref01_SameInts.l0 q l m (i : Int) = some (decide (l = m)) := by
  induction d with
  | zero =>
    intro q i hi hq hx
    obtain ⟨q, rfl⟩ : ∃ m, q = m + 1 := ⟨q - 1, by omega⟩
    rw [List.take_of_length_le (by omega), List.take_of_length_le (by omega)] at hx
    simp only [shamrockref01_SameInts.l0]
    rw [if_neg (by omega), decide_eq_true hx]
  | succ d ih =>
    intro q i hi hq hx
    obtain ⟨q, rfl⟩ : ∃ m, q = m + 1 := ⟨q - 1, by omega⟩
    simp only [shamrockref01_SameInts.l0]
    rw [if_pos (by omega), if_pos (by omega), if_pos (by omega), rd_nat, rd_nat, wr_succ i (by omega)]
    by_cases e : l.getD i 0 = m.getD i 0
    · rw [if_pos e]
      exact ih q (i + 1) (by omega) (by omega) (by rw [take_snoc 0 l i (by omega), take_snoc 0 m i (by omega), hx, e])
    · rw [if_neg e, decide_eq_false (fun h => e (by rw [h]))]
theorem SameInts_any (w : World) (A B : Option Addr) (n m c d : Nat) (l k : List Int) (hC : Kd.C kz w A n l) (hD : Kd.C kz w B m k) (hc : n ≤ c) (hd : m ≤ d) (hn : n ≤ 9223372036854775807) :
    Calls Try.prog 67 #[.slice A n c, .slice B m d] w fun e w' => e = .returned (.bool (decide (l = k))) ∧ Drawn0 w w' := by
  obtain rfl : l.length = n := Kd.C_len hC
  obtain rfl : k.length = m := Kd.C_len hD
  refine shamrockref01_SameInts.calls (l.length + 1) A c l B d k _ w hC hc hD hd ?_
  unfold shamrockref01_SameInts.f
  by_cases h : l.length = k.length
  · rw [if_pos (by omega)]
    exact SameI_l0 l k h hn l.length (l.length + 1) 0 (by omega) (by omega) (by simp)
  · rw [if_neg (by omega), decide_eq_false (fun e => h (by rw [e]))]
end Go.Proofs.Ytpeiejkcoadhfaa
