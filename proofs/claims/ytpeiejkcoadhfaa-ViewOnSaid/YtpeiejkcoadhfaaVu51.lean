/- What the view's laws take, Vu51: Heads. -/
import Derived.Test.YtpeiejkcoadhfaaVu05
import Derived.WalkKit
import Derived.ProofKit
import Derived.JoinedOf
set_option linter.all false
namespace Go.Proofs.Ytpeiejkcoadhfaa
theorem zhT (c : Char) (l : List Char) (h : c ≠ ' ') : wordsSigns (c :: l) = match wordsSigns l with
 | w :: ws => (c :: w) :: ws
 | [] => [[c]] := by
 rw [wordsSigns]
 ·rfl
 exact h
theorem zbE : ∀ (w r : List Char), (∀ c ∈ w, c ≠ ' ') → wordsSigns (w ++ ' ' :: r) = w :: wordsSigns r := by
 intro w r
 induction w with
 | nil => intro _; rfl
 | cons c w ih =>
   intro h
   have hw := ih (fun x hx => h x (List.mem_cons_of_mem _ hx))
   rw [List.cons_append, zhT c _ (h c (List.mem_cons_self ..)), hw]
theorem znm (P : Program) (R : List (List Char)) (h : behindMainWord (wordsSigns P.initOrder.toList) = ['c', 'u', 't'] :: R) : P.make = some .cut := by
 unfold Program.make
 rw [h]
 rfl
theorem zlK (P : Program) (R : List (List Char)) (h : behindMainWord (wordsSigns P.initOrder.toList) = ['c', 'u', 't'] :: R) (h1 : P.laysLater = false) (h2 : P.bearsReflect = false) (h3 : P.doorFits [] = true) : P.mayEnter = true := by
 have hs : stripLifts liftWords (['c', 'u', 't'] :: R) = ([], ['c', 'u', 't'] :: R) := rfl
 unfold Program.mayEnter
 rw [h]
 simp only [hs, h1, h2, h3]
 rfl
theorem zmg (P : Program) (R : List (List Char)) (h : behindMainWord (wordsSigns P.initOrder.toList) = ['c', 'u', 't'] :: R) : P.liftsFinal = false := by
 have hs : stripLifts liftWords (['c', 'u', 't'] :: R) = ([], ['c', 'u', 't'] :: R) := rfl
 unfold Program.liftsFinal Program.headLifts
 rw [h]
 simp only [hs]
 rfl
def tailWord : List Char := ['a', 't', ' ', 's', 'h', 'a', 'm', 'r', 'o', 'c', 'k', '/', 's', 'h', 'a', 'm', 'r', 'o', 'c', 'k', 'l', 'a', 'w', '0', '1', '.', 'G', 'f', 'P', 'o', 'w', 's', ' ', 's', 'h', 'a', 'm', 'r', 'o', 'c', 'k', '/', 's', 'h', 'a', 'm', 'r', 'o', 'c', 'k', 'l', 'a', 'w', '0', '1', '.', 'G', 'f', 'L', 'a', 'w', 's', ' ', 's', 'h', 'a', 'm', 'r', 'o', 'c', 'k', '/', 's', 'h', 'a', 'm', 'r', 'o', 'c', 'k', 'l', 'a', 'w', '0', '1', '.', 'G', 'f', 'O', 'r', 'd', 'e', 'r', ' ', 's', 'h', 'a', 'm', 'r', 'o', 'c', 'k', '/', 's', 'h', 'a', 'm', 'r', 'o', 'c', 'k', 'l', 'a', 'w', '0', '1', '.', 'G', 'f', 'M', 'u', 'l', 's', ' ', 's', 'h', 'a', 'm', 'r', 'o', 'c', 'k', '/', 's', 'h', 'a', 'm', 'r', 'o', 'c', 'k', 'l', 'a', 'w', '0', '1', '.', 'G', 'f', 'U', 'n', 'l', 'i', 'k', 'e', ' ', 's', 'h', 'a', 'm', 'r', 'o', 'c', 'k', '/', 's', 'h', 'a', 'm', 'r', 'o', 'c', 'k', 'l', 'a', 'w', '0', '9', '.', 'S', 't', 'r', 'i', 'p', 'e', 'S', 'p', 'l', 'i', 't', 's', ' ', 's', 'h', 'a', 'm', 'r', 'o', 'c', 'k', '/', 's', 'h', 'a', 'm', 'r', 'o', 'c', 'k', 'l', 'a', 'w', '0', '9', '.', 'S', 't', 'r', 'i', 'p', 'e', 'C', 'o', 'u', 'n', 't', 's', ' ', 's', 'h', 'a', 'm', 'r', 'o', 'c', 'k', '/', 's', 'h', 'a', 'm', 'r', 'o', 'c', 'k', 'l', 'a', 'w', '0', '9', '.', 'S', 't', 'r', 'i', 'p', 'e', 'J', 'o', 'i', 'n', 's', ' ', 's', 'h', 'a', 'm', 'r', 'o', 'c', 'k', '/', 's', 'h', 'a', 'm', 'r', 'o', 'c', 'k', 'l', 'a', 'w', '0', '9', '.', 'S', 't', 'r', 'i', 'p', 'e', 'O', 'w', 'n', ' ', 's', 'h', 'a', 'm', 'r', 'o', 'c', 'k', '/', 's', 'h', 'a', 'm', 'r', 'o', 'c', 'k', 'l', 'a', 'w', '0', '9', '.', 'S', 't', 'r', 'i', 'p', 'e', 'E', 'n', 'd', 's', ' ', 's', 'h', 'a', 'm', 'r', 'o', 'c', 'k', '/', 's', 'h', 'a', 'm', 'r', 'o', 'c', 'k', 'l', 'a', 'w', '1', '0', '.', 'D', 'e', 'a', 'l', 'P', 'a', 'r', 'a', 'm', 's', ' ', 's', 'h', 'a', 'm', 'r', 'o', 'c', 'k', '/', 's', 'h', 'a', 'm', 'r', 'o', 'c', 'k', 'l', 'a', 'w', '1', '0', '.', 'D', 'e', 'a', 'l', 'P', 'o', 'i', 'n', 't', 's', ' ', 's', 'h', 'a', 'm', 'r', 'o', 'c', 'k', '/', 's', 'h', 'a', 'm', 'r', 'o', 'c', 'k', 'l', 'a', 'w', '1', '0', '.', 'D', 'e', 'a', 'l', 'S', 'h', 'a', 'r', 'e', 's', ' ', 's', 'h', 'a', 'm', 'r', 'o', 'c', 'k', '/', 's', 'h', 'a', 'm', 'r', 'o', 'c', 'k', 'l', 'a', 'w', '1', '0', '.', 'D', 'e', 'a', 'l', 'S', 'e', 'c', 'r', 'e', 't', ' ', 's', 'h', 'a', 'm', 'r', 'o', 'c', 'k', '/', 's', 'h', 'a', 'm', 'r', 'o', 'c', 'k', 'l', 'a', 'w', '1', '0', '.', 'D', 'e', 'a', 'l', 'N', 'o', 't', 'h', 'i', 'n', 'g', ' ', 's', 'h', 'a', 'm', 'r', 'o', 'c', 'k', '/', 's', 'h', 'a', 'm', 'r', 'o', 'c', 'k', 'l', 'a', 'w', '1', '0', '.', 'D', 'e', 'a', 'l', 'O', 't', 'h', 'e', 'r', 's', ' ', 's', 'h', 'a', 'm', 'r', 'o', 'c', 'k', '/', 's', 'h', 'a', 'm', 'r', 'o', 'c', 'k', 'l', 'a', 'w', '1', '0', '.', 'D', 'e', 'a', 'l', 'S', 'u', 'm', 's', ' ', 's', 'h', 'a', 'm', 'r', 'o', 'c', 'k', '/', 's', 'h', 'a', 'm', 'r', 'o', 'c', 'k', 'l', 'a', 'w', '1', '0', '.', 'D', 'e', 'a', 'l', 'Z', 'e', 'r', 'o', 's', ' ', 's', 'h', 'a', 'm', 'r', 'o', 'c', 'k', '/', 's', 'h', 'a', 'm', 'r', 'o', 'c', 'k', 'l', 'a', 'w', '2', '4', '.', 'V', 'i', 'e', 'w', 'R', 'u', 'n', 's', ' ', 's', 'h', 'a', 'm', 'r', 'o', 'c', 'k', '/', 's', 'h', 'a', 'm', 'r', 'o', 'c', 'k', 'l', 'a', 'w', '2', '4', '.', 'V', 'i', 'e', 'w', 'L', 'o', 'o', 'k', 's', ' ', 's', 'h', 'a', 'm', 'r', 'o', 'c', 'k', '/', 's', 'h', 'a', 'm', 'r', 'o', 'c', 'k', 'l', 'a', 'w', '2', '4', '.', 'V', 'i', 'e', 'w', 'H', 'i', 'd', 'e', 's', ' ', 's', 'h', 'a', 'm', 'r', 'o', 'c', 'k', '/', 's', 'h', 'a', 'm', 'r', 'o', 'c', 'k', 'l', 'a', 'w', '2', '4', '.', 'V', 'i', 'e', 'w', 'U', 'n', 'l', 'i', 'k', 'e', ' ', 's', 'h', 'a', 'm', 'r', 'o', 'c', 'k', '/', 's', 'h', 'a', 'm', 'r', 'o', 'c', 'k', 'l', 'a', 'w', '2', '4', '.', 'V', 'i', 'e', 'w', 'E', 'm', 'p', 't', 'y', ' ', 's', 'h', 'a', 'm', 'r', 'o', 'c', 'k', '/', 's', 'h', 'a', 'm', 'r', 'o', 'c', 'k', 'l', 'a', 'w', '2', '4', '.', 'V', 'i', 'e', 'w', 'O', 'n']
theorem zkg : Try.checked.prog.initOrder = String.ofList (['h', 'a', 'r', 'n', 'e', 's', 's'] ++ ' ' :: (['e', 'e', '4', '7', 'e', '4', 'd', '9', 'e', 'e', '2', 'e', 'c', 'a', 'f', '6', '4', 'a', '5', '2', 'b', '9', 'c', '4', '5', 'd', 'b', 'a', 'a', 'd', '6', '4', '0', '8', '7', '3', '1', 'c', '3', '6', '6', 'd', 'a', 'b', '8', '9', 'a', '4', 'd', '9', '7', '0', 'c', '8', '7', '3', '2', 'd', '3', '9', '5', '8', '1', 'd'] ++ ' ' :: (['c', 'u', 't'] ++ ' ' :: tailWord))) := by kernel_rfl
theorem zim : Try.checked.prog.initOrder.toList = ['h', 'a', 'r', 'n', 'e', 's', 's'] ++ ' ' :: (['e', 'e', '4', '7', 'e', '4', 'd', '9', 'e', 'e', '2', 'e', 'c', 'a', 'f', '6', '4', 'a', '5', '2', 'b', '9', 'c', '4', '5', 'd', 'b', 'a', 'a', 'd', '6', '4', '0', '8', '7', '3', '1', 'c', '3', '6', '6', 'd', 'a', 'b', '8', '9', 'a', '4', 'd', '9', '7', '0', 'c', '8', '7', '3', '2', 'd', '3', '9', '5', '8', '1', 'd'] ++ ' ' :: (['c', 'u', 't'] ++ ' ' :: tailWord)) := by
 rw [zkg, String.toList_ofList]
theorem zaC : behindMainWord (wordsSigns Try.checked.prog.initOrder.toList) = ['c', 'u', 't'] :: wordsSigns tailWord := by
 rw [zim, zbE _ _ (by decide), zbE _ _ (by decide), zbE _ _ (by decide)]
 generalize wordsSigns tailWord = R
 kernel_rfl
theorem zek : Try.checked.prog.make = some .cut := znm _ _ zaC
theorem zce : Try.checked.prog.mayEnter = true := zlK _ _ zaC (by kernel_rfl) (by kernel_rfl) (by kernel_rfl)
theorem zav : Try.checked.prog.liftsFinal = false := zmg _ _ zaC
end Go.Proofs.Ytpeiejkcoadhfaa
