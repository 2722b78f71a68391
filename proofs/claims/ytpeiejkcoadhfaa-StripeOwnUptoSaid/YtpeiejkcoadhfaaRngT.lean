import Derived.Test.YtpeiejkcoadhfaaRng
import Derived.OrdersIn
import Derived.RegionIn
namespace Go.Proofs.Ytpeiejkcoadhfaa
open Go.RowKit Go.Shelf
/-- A region in a round whose operations defer nothing is walked as out of a round. -/
def plainOp (o : Oper) : Bool := match o.op with | .defer _ => false | _ => true
theorem plainOp_spec {o : Oper} (h : plainOp o = true) : ∀ c, o.op ≠ .defer c := fun c hc => by simp [plainOp, hc] at h
theorem oper_inRound {F : Fence} {n : Nat} {P : Program} {o : Oper} {a : Act} {w : World} {K : Act → World → Prop} {Q : Exit → Act → World → Prop} (l : Nat) (hro : F.round = none) (hp : plainOp o = true)
    (h : o.wpIn F n P a w K Q) : o.wpIn (F.inRound l) n P a w K Q := by
  unfold Oper.wpIn at *
  rw [Fence.inRound_round, Oper.semAt_some l _ o (plainOp_spec hp)]
  rw [hro, Oper.semAt_none] at h
  exact h
theorem any_inRound {F : Fence} {n : Nat} {P : Program} {md : Region.Mode} {ops : Array Oper} {Q : Exit → Act → World → Prop} (l : Nat) (hro : F.round = none) (hp : ∀ (i : Nat) (o : Oper), ops[i]? = some o → plainOp o = true) :
    ∀ (fuel : Nat) (listed : Array Bool) (a : Act) (w : World), wpAnyIn F n P md ops Q fuel listed a w → wpAnyIn (F.inRound l) n P md ops Q fuel listed a w := by
  intro fuel
  induction fuel with
  | zero => exact fun _ _ _ h => h
  | succ fuel ih =>
    intro listed a w h
    refine ⟨h.1, fun i hi => ?_⟩
    have h1 := wpOpIn_mono (K' := wpAnyIn (F.inRound l) n P md ops Q fuel (listed.setIfInBounds i true)) (fun a w h => ih _ a w h) (h.2 i hi)
    unfold wpOpIn at *
    cases ho : ops[i]? with
    | none => simpa only [ho] using h1
    | some o =>
      simp only [ho] at h1 ⊢
      split
      · rename_i hw; simp only [hw, if_true] at h1; exact oper_inRound l hro (hp i o ho) h1
      · rename_i hw; simp only [hw] at h1; exact h1
theorem region_inRound {F : Fence} {n : Nat} {P : Program} {id : Nat} {ops : Array Oper} {Q : Exit → Act → World → Prop} {a : Act} {w : World} (l : Nat) (hm : P.follows .mixedOrders = true) (hro : F.round = none) (hp : ops.all plainOp = true)
    (h : wpAnyIn F n P .any ops Q ops.size (Array.replicate ops.size false) a w.drew) : (Code.region id ops true).wpIn (F.inRound l) n P Q a w :=
  wpIn_region_any hm (any_inRound l hro (fun i o ho => by
    rw [Array.all_eq_true] at hp
    obtain ⟨hi, rfl⟩ := Array.getElem?_eq_some_iff.1 ho
    exact hp i hi) _ _ _ _ h)
end Go.Proofs.Ytpeiejkcoadhfaa
