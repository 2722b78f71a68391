/- What the view's laws take, Vu39: Held. -/
import Derived.Test.YtpeiejkcoadhfaaVu05
import Derived.Deep.RegionHeld3
set_option linter.all false
namespace Go.Proofs.Ytpeiejkcoadhfaa
open Go.RowKit
theorem jU {P : Program} {ops : Array Oper} {Q : Exit → Act → World → Prop} {md : Region.Mode} {S S' : World → Prop} (h : ∀ w, S' w → S w) : ∀ (fuel : Nat) (listed : Array Bool) (a : Act) (w : World), wpAnyH P md ops Q S' fuel listed a w → wpAnyH P md ops Q S fuel listed a w
 | 0, _, _, _, hh => hh
 | fuel + 1, _, _, _, hh => ⟨hh.1, fun i hi => wpOp_mono (fun _ w' h2 => ⟨h w' h2.1, jU h fuel _ _ _ h2.2⟩) (hh.2 i hi)⟩
theorem zpN {P : Program} {ops : Array Oper} {Q : Exit → Act → World → Prop} {md : Region.Mode} {S : World → Prop} (i d : Nat) {oi : Oper} {v : Value} {fuel : Nat} {listed : Array Bool} {a : Act} {w : World} (hi : ops[i]? = some oi) (hd : oi.dst = some d)
 (hs : Region.noSelect ops = true) (hf : Region.free md ops listed i = true) (hr : (Region.ready md ops listed).contains i = true)
 (hQ : ∀ c a w, Q (.panic c) (a.put oi.dst v) w → Q (.panic c) a w) (hy : YieldsIf P ops S oi v a) (hS : S w)
 (h : wpAnyH P md ops Q S fuel (listed.setIfInBounds i true) (a.put (some d) v) w) : wpAnyH P md ops Q S (fuel + 1) listed a w :=
 wpAnyH_take hi hs hf hr hQ hy hS (by rw [hd]; exact h)
theorem zk {P : Program} {ops : Array Oper} {Q : Exit → Act → World → Prop} {md : Region.Mode} {S : World → Prop} (i d : Nat) {oi : Oper} {v : Value} {fuel : Nat} {listed l2 : Array Bool} {a a2 : Act} {w : World} (hS : S w) (h : wpAnyH P md ops Q S fuel l2 a2 w)
 (hi : ops[i]? = some oi := by rfl) (hd : oi.dst = some d := by rfl) (hs : Region.noSelect ops = true := by kernel_rfl) (hf : Region.free md ops listed i = true := by kernel_rfl) (hr : (Region.ready md ops listed).contains i = true := by kernel_rfl)
 (hQ : ∀ c a w, Q (.panic c) (a.put oi.dst v) w → Q (.panic c) a w := by exact fun _ _ _ h => h) (hw : Region.wanted oi (yielded ops a.tmps) = true := by rfl)
 (hv : ∀ w, S w → (execOp a.eval oi).run P w = .ok (.value v) w := by intro w hSw; (try dsimp only at hSw); go_simp; (try with_reducible rfl); done)
 (hl : listed.setIfInBounds i true = l2 := by ((try simp only [List.setIfInBounds_toArray, List.set_cons_zero, List.set_cons_succ]); (first | done | rfl)))
 (ha : a.put (some d) v = a2 := by ((try simp only [Act.put, List.setIfInBounds_toArray, List.set_cons_zero, List.set_cons_succ]); (first | done | rfl))) : wpAnyH P md ops Q S (fuel + 1) listed a w := by
 subst hl ha
 exact zpN i d hi hd hs hf hr hQ (Or.inl ⟨hw, hv⟩) hS h
end Go.Proofs.Ytpeiejkcoadhfaa
