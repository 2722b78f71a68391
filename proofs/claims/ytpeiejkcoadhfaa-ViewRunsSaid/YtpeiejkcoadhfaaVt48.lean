/- What the view's laws take, Vt48: Heads. -/
import Derived.Test.YtpeiejkcoadhfaaVt05
import Derived.WalkKit
import Derived.ProofKit
import Derived.JoinedOf
set_option linter.all false
namespace Go.Proofs.Ytpeiejkcoadhfaa
theorem words_step (c : Char) (l : List Char) (h : c ≠ ' ') : wordsSigns (c :: l) = match wordsSigns l with
    | w :: ws => (c :: w) :: ws
    | [] => [[c]] := by
  rw [wordsSigns]
  · rfl
  · exact h
theorem words_cons : ∀ (w r : List Char), (∀ c ∈ w, c ≠ ' ') → wordsSigns (w ++ ' ' :: r) = w :: wordsSigns r := by
  intro w r
  induction w with
  | nil => intro _; rfl
  | cons c w ih =>
    intro h
    have hw := ih (fun x hx => h x (List.mem_cons_of_mem _ hx))
    rw [List.cons_append, words_step c _ (h c (List.mem_cons_self ..)), hw]
theorem make_of (P : Program) (R : List (List Char)) (h : behindMainWord (wordsSigns P.initOrder.toList) = ['c', 'u', 't'] :: R) : P.make = some .cut := by
  unfold Program.make
  rw [h]
  rfl
theorem enter_of (P : Program) (R : List (List Char)) (h : behindMainWord (wordsSigns P.initOrder.toList) = ['c', 'u', 't'] :: R) (h1 : P.laysLater = false) (h2 : P.bearsReflect = false) (h3 : P.doorFits [] = true) : P.mayEnter = true := by
  have hs : stripLifts liftWords (['c', 'u', 't'] :: R) = ([], ['c', 'u', 't'] :: R) := rfl
  unfold Program.mayEnter
  rw [h]
  simp only [hs, h1, h2, h3]
  rfl
theorem final_of (P : Program) (R : List (List Char)) (h : behindMainWord (wordsSigns P.initOrder.toList) = ['c', 'u', 't'] :: R) : P.liftsFinal = false := by
  have hs : stripLifts liftWords (['c', 'u', 't'] :: R) = ([], ['c', 'u', 't'] :: R) := rfl
  unfold Program.liftsFinal Program.headLifts
  rw [h]
  simp only [hs]
  rfl
def tailWord : List Char := ['a', 't', ' ', 's', 'h', 'a', 'm', 'r', 'o', 'c', 'k', '/', 's', 'h', 'a', 'm', 'r', 'o', 'c', 'k', 'l', 'a', 'w', '0', '1', '.', 'G', 'f', 'P', 'o', 'w', 's', ' ', 's', 'h', 'a', 'm', 'r', 'o', 'c', 'k', '/', 's', 'h', 'a', 'm', 'r', 'o', 'c', 'k', 'l', 'a', 'w', '0', '1', '.', 'G', 'f', 'L', 'a', 'w', 's', ' ', 's', 'h', 'a', 'm', 'r', 'o', 'c', 'k', '/', 's', 'h', 'a', 'm', 'r', 'o', 'c', 'k', 'l', 'a', 'w', '0', '1', '.', 'G', 'f', 'O', 'r', 'd', 'e', 'r', ' ', 's', 'h', 'a', 'm', 'r', 'o', 'c', 'k', '/', 's', 'h', 'a', 'm', 'r', 'o', 'c', 'k', 'l', 'a', 'w', '0', '1', '.', 'G', 'f', 'M', 'u', 'l', 's', ' ', 's', 'h', 'a', 'm', 'r', 'o', 'c', 'k', '/', 's', 'h', 'a', 'm', 'r', 'o', 'c', 'k', 'l', 'a', 'w', '0', '1', '.', 'G', 'f', 'U', 'n', 'l', 'i', 'k', 'e', ' ', 's', 'h', 'a', 'm', 'r', 'o', 'c', 'k', '/', 's', 'h', 'a', 'm', 'r', 'o', 'c', 'k', 'l', 'a', 'w', '0', '9', '.', 'S', 't', 'r', 'i', 'p', 'e', 'S', 'p', 'l', 'i', 't', 's', ' ', 's', 'h', 'a', 'm', 'r', 'o', 'c', 'k', '/', 's', 'h', 'a', 'm', 'r', 'o', 'c', 'k', 'l', 'a', 'w', '0', '9', '.', 'S', 't', 'r', 'i', 'p', 'e', 'C', 'o', 'u', 'n', 't', 's', ' ', 's', 'h', 'a', 'm', 'r', 'o', 'c', 'k', '/', 's', 'h', 'a', 'm', 'r', 'o', 'c', 'k', 'l', 'a', 'w', '0', '9', '.', 'S', 't', 'r', 'i', 'p', 'e', 'J', 'o', 'i', 'n', 's', ' ', 's', 'h', 'a', 'm', 'r', 'o', 'c', 'k', '/', 's', 'h', 'a', 'm', 'r', 'o', 'c', 'k', 'l', 'a', 'w', '0', '9', '.', 'S', 't', 'r', 'i', 'p', 'e', 'O', 'w', 'n', ' ', 's', 'h', 'a', 'm', 'r', 'o', 'c', 'k', '/', 's', 'h', 'a', 'm', 'r', 'o', 'c', 'k', 'l', 'a', 'w', '0', '9', '.', 'S', 't', 'r', 'i', 'p', 'e', 'E', 'n', 'd', 's', ' ', 's', 'h', 'a', 'm', 'r', 'o', 'c', 'k', '/', 's', 'h', 'a', 'm', 'r', 'o', 'c', 'k', 'l', 'a', 'w', '1', '0', '.', 'D', 'e', 'a', 'l', 'P', 'a', 'r', 'a', 'm', 's', ' ', 's', 'h', 'a', 'm', 'r', 'o', 'c', 'k', '/', 's', 'h', 'a', 'm', 'r', 'o', 'c', 'k', 'l', 'a', 'w', '1', '0', '.', 'D', 'e', 'a', 'l', 'P', 'o', 'i', 'n', 't', 's', ' ', 's', 'h', 'a', 'm', 'r', 'o', 'c', 'k', '/', 's', 'h', 'a', 'm', 'r', 'o', 'c', 'k', 'l', 'a', 'w', '1', '0', '.', 'D', 'e', 'a', 'l', 'S', 'h', 'a', 'r', 'e', 's', ' ', 's', 'h', 'a', 'm', 'r', 'o', 'c', 'k', '/', 's', 'h', 'a', 'm', 'r', 'o', 'c', 'k', 'l', 'a', 'w', '1', '0', '.', 'D', 'e', 'a', 'l', 'S', 'e', 'c', 'r', 'e', 't', ' ', 's', 'h', 'a', 'm', 'r', 'o', 'c', 'k', '/', 's', 'h', 'a', 'm', 'r', 'o', 'c', 'k', 'l', 'a', 'w', '1', '0', '.', 'D', 'e', 'a', 'l', 'N', 'o', 't', 'h', 'i', 'n', 'g', ' ', 's', 'h', 'a', 'm', 'r', 'o', 'c', 'k', '/', 's', 'h', 'a', 'm', 'r', 'o', 'c', 'k', 'l', 'a', 'w', '1', '0', '.', 'D', 'e', 'a', 'l', 'O', 't', 'h', 'e', 'r', 's', ' ', 's', 'h', 'a', 'm', 'r', 'o', 'c', 'k', '/', 's', 'h', 'a', 'm', 'r', 'o', 'c', 'k', 'l', 'a', 'w', '1', '0', '.', 'D', 'e', 'a', 'l', 'S', 'u', 'm', 's', ' ', 's', 'h', 'a', 'm', 'r', 'o', 'c', 'k', '/', 's', 'h', 'a', 'm', 'r', 'o', 'c', 'k', 'l', 'a', 'w', '1', '0', '.', 'D', 'e', 'a', 'l', 'Z', 'e', 'r', 'o', 's', ' ', 's', 'h', 'a', 'm', 'r', 'o', 'c', 'k', '/', 's', 'h', 'a', 'm', 'r', 'o', 'c', 'k', 'l', 'a', 'w', '2', '4', '.', 'V', 'i', 'e', 'w', 'R', 'u', 'n', 's', ' ', 's', 'h', 'a', 'm', 'r', 'o', 'c', 'k', '/', 's', 'h', 'a', 'm', 'r', 'o', 'c', 'k', 'l', 'a', 'w', '2', '4', '.', 'V', 'i', 'e', 'w', 'L', 'o', 'o', 'k', 's', ' ', 's', 'h', 'a', 'm', 'r', 'o', 'c', 'k', '/', 's', 'h', 'a', 'm', 'r', 'o', 'c', 'k', 'l', 'a', 'w', '2', '4', '.', 'V', 'i', 'e', 'w', 'H', 'i', 'd', 'e', 's', ' ', 's', 'h', 'a', 'm', 'r', 'o', 'c', 'k', '/', 's', 'h', 'a', 'm', 'r', 'o', 'c', 'k', 'l', 'a', 'w', '2', '4', '.', 'V', 'i', 'e', 'w', 'U', 'n', 'l', 'i', 'k', 'e', ' ', 's', 'h', 'a', 'm', 'r', 'o', 'c', 'k', '/', 's', 'h', 'a', 'm', 'r', 'o', 'c', 'k', 'l', 'a', 'w', '2', '4', '.', 'V', 'i', 'e', 'w', 'E', 'm', 'p', 't', 'y', ' ', 's', 'h', 'a', 'm', 'r', 'o', 'c', 'k', '/', 's', 'h', 'a', 'm', 'r', 'o', 'c', 'k', 'l', 'a', 'w', '2', '4', '.', 'V', 'i', 'e', 'w', 'O', 'n']
theorem order_lit : Try.checked.prog.initOrder = String.ofList (['h', 'a', 'r', 'n', 'e', 's', 's'] ++ ' ' :: (['e', 'e', '4', '7', 'e', '4', 'd', '9', 'e', 'e', '2', 'e', 'c', 'a', 'f', '6', '4', 'a', '5', '2', 'b', '9', 'c', '4', '5', 'd', 'b', 'a', 'a', 'd', '6', '4', '0', '8', '7', '3', '1', 'c', '3', '6', '6', 'd', 'a', 'b', '8', '9', 'a', '4', 'd', '9', '7', '0', 'c', '8', '7', '3', '2', 'd', '3', '9', '5', '8', '1', 'd'] ++ ' ' :: (['c', 'u', 't'] ++ ' ' :: tailWord))) := by kernel_rfl
theorem order_list : Try.checked.prog.initOrder.toList = ['h', 'a', 'r', 'n', 'e', 's', 's'] ++ ' ' :: (['e', 'e', '4', '7', 'e', '4', 'd', '9', 'e', 'e', '2', 'e', 'c', 'a', 'f', '6', '4', 'a', '5', '2', 'b', '9', 'c', '4', '5', 'd', 'b', 'a', 'a', 'd', '6', '4', '0', '8', '7', '3', '1', 'c', '3', '6', '6', 'd', 'a', 'b', '8', '9', 'a', '4', 'd', '9', '7', '0', 'c', '8', '7', '3', '2', 'd', '3', '9', '5', '8', '1', 'd'] ++ ' ' :: (['c', 'u', 't'] ++ ' ' :: tailWord)) := by
  rw [order_lit, String.toList_ofList]
theorem order_words : behindMainWord (wordsSigns Try.checked.prog.initOrder.toList) = ['c', 'u', 't'] :: wordsSigns tailWord := by
  rw [order_list, words_cons _ _ (by decide), words_cons _ _ (by decide), words_cons _ _ (by decide)]
  generalize wordsSigns tailWord = R
  kernel_rfl
theorem make_cut : Try.checked.prog.make = some .cut := make_of _ _ order_words
theorem may_enter : Try.checked.prog.mayEnter = true := enter_of _ _ order_words (by kernel_rfl) (by kernel_rfl) (by kernel_rfl)
theorem lifts_final : Try.checked.prog.liftsFinal = false := final_of _ _ order_words
end Go.Proofs.Ytpeiejkcoadhfaa
