/- What the view's laws take, Vu18: QRound. -/
import Derived.Test.YtpeiejkcoadhfaaVu05
import Derived.Deep.Quiet
import Derived.RangeFuncCalls
set_option linter.all false
namespace Go.Proofs.Ytpeiejkcoadhfaa
open Go.RowKit Go.Shelf
section
variable {P : Program} {ops : Array Oper} {md : Region.Mode} {C : World → Prop}
theorem zeP {o : Oper} {a : Act} {K : Act → Prop} {K' : Act → World → Prop} {Q : Exit → Act → World → Prop} {w : World} {n : Nat} (l : Nat) (hp : ZP o = true) (hw : C w) (h : ∀ a w', C w' → K a → K' a w') (hh : o.quiet P a C K) :
 o.wpIn (Fence.wide.inRound l) n P a w K' Q := by
 obtain ⟨v, h1, h2⟩ := hh
 have h3 := h1 w hw
 unfold Oper.quietAt at h3
 refine ⟨fun _ _ => trivial, ?_⟩
 rw [Fence.inRound_round, Oper.semAt_some l _ o (zbX hp)]
 generalize (execOp a.eval o).run P w = r at *
 cases r with
 | ok x w' =>
   cases x <;> simp only [Oper.quietUpon] at h3 <;> simp only [Oper.uponIn]
   case value u => rw [h3.1, h3.2]; exact h _ _ hw h2
   case skip => rw [h3.1, ← h3.2]; exact h _ _ hw h2
   case enter f args =>
    rw [h3.1]
    refine ⟨fun hd => ?_, (CallsIn.inRound l (callsIn_wide.2 h3.2)).mono fun e w'' ⟨he, hw''⟩ => by subst he; exact h _ _ hw'' h2⟩
    simp [Fence.wide] at hd
 | halt x w' => simp only [Oper.quietUpon] at h3
theorem zeY {i : Nat} {a : Act} {K : Act → Prop} {K' : Act → World → Prop} {Q : Exit → Act → World → Prop} {w : World} {n : Nat} (l : Nat) (hp : ∀ (i : Nat) (o : Oper), ops[i]? = some o → ZP o = true) (hC : C w) (h : ∀ a w', C w' → K a → K' a w') (hh : qOp P ops C i K a) :
 wpOpIn (Fence.wide.inRound l) n P ops Q i K' a w := by
 unfold qOp at hh
 unfold wpOpIn
 cases ho : ops[i]? with
 | none => simp only [ho] at hh ⊢; exact h _ _ hC hh
 | some o =>
   simp only [ho] at hh ⊢
   split
   ·rename_i hw; simp only [hw, if_true] at hh; exact zeP l (hp i o ho) hC h hh
   rename_i hw; simp only [hw] at hh; exact ⟨fun _ _ => trivial, h _ _ hC hh⟩
theorem JD {R : Act → Prop} {Q : Exit → Act → World → Prop} {n : Nat} (l : Nat) (hp : ∀ (i : Nat) (o : Oper), ops[i]? = some o → ZP o = true) (hQ : ∀ a w, C w → R a → Q .normal a w) : ∀ (fuel : Nat) (done : Array Bool) (a : Act) (w : World), C w →
 wpAnyQ P md ops C R fuel done a → wpAnyIn (Fence.wide.inRound l) n P md ops Q fuel done a w
 | 0, _, _, _, hw, h => ⟨h.1, hQ _ _ hw h.2⟩
 | fuel + 1, _, _, _, hw, h => ⟨fun h0 => hQ _ _ hw (h.1 h0), fun i hi => zeY l hp hw (fun a' w' hw' => JD l hp hQ fuel _ a' w' hw') (h.2 i hi)⟩
theorem zbv {id n : Nat} {Q : Exit → Act → World → Prop} {a : Act} {w : World} {ol : List Oper} (l : Nat) (hm : P.follows .mixedOrders = true) (hp : ol.toArray.all ZP = true) (hB : Region.lexB .any ol.toArray = true) (hC : C w.drew)
 (h : wpQuiet P ol.toArray C (fun a' => ∀ w', C w' → Q .normal a' w') ol a) : (Code.region id ol.toArray true).wpIn (Fence.wide.inRound l) n P Q a w := by
 simp only [Region.lexB, Bool.and_eq_true] at hB
 refine wpIn_region_any hm (JD (R := fun a' => ∀ w', C w' → Q .normal a' w') l (fun i o ho => ?_) (fun _ w' hw' h => h w' hw') _ _ _ _ hC ?_)
 ·rw [Array.all_eq_true] at hp
  obtain ⟨hi, rfl⟩ := Array.getElem?_eq_some_iff.1 ho
  exact hp i hi
 have := wpAnyQ_lex (C := C) (md := .any) hB.1 ol 0 (Array.replicate ol.toArray.size false) a (by simp) (by simpa using hB.2) h
 simpa using this
end
end Go.Proofs.Ytpeiejkcoadhfaa
