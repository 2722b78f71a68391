/- What the view's laws take, Vu14: QTail. -/
import Derived.Test.YtpeiejkcoadhfaaVu05
import Derived.StillTail
import Derived.Deep.Quiet
set_option linter.all false
namespace Go.Proofs.Ytpeiejkcoadhfaa
open Go.RowKit
section
variable {P : Program} {ops : Array Oper} {md : Region.Mode} {C : World → Prop}
def JE (P : Program) (md : Region.Mode) (ops : Array Oper) (C : World → Prop) (n : Nat) (L : Array Bool → Act → Prop) : Nat → Array Bool → Act → Prop
 | 0, done, a => L done a
 | f + 1, done, a => Region.ready md ops done ≠ [] ∧ ∀ i ∈ Region.ready md ops done, i < n ∧ qOp P ops C i (JE P md ops C n L f (done.setIfInBounds i true)) a
theorem JE.any {n g : Nat} {L : Array Bool → Act → Prop} {Q : Exit → Act → World → Prop} (hL : ∀ done a w, C w → L done a → wpAny P md ops Q g done a w) :
 ∀ (f : Nat) (done : Array Bool) (a : Act) (w : World), C w → JE P md ops C n L f done a → wpAny P md ops Q (f + g) done a w
 | 0, done, a, w, hw, h => by rw [Nat.zero_add]; exact hL _ _ _ hw h
 | f + 1, done, a, w, hw, h => by
   rw [Nat.succ_add]
   exact ⟨fun h0 => absurd h0 h.1, fun i hi => wpOp_of_qOp hw (fun a' w' hw' h' => JE.any hL f _ a' w' hw' h') (h.2 i hi).2⟩
theorem JE.early {n i : Nat} {oi : Oper} {v : Value} {L : Array Bool → Act → Prop} (hi : ops[i]? = some oi) (hsel : ∀ (j : Nat) (o : Oper) cs b, ops[j]? = some o → o.op ≠ .select cs b)
 (hs : Region.sinkB md ops n = true) (hc : Region.chainB md ops n = true) (hn : n < ops.size) (hin : i < n) (hdone : ∀ done a, L done a → ∀ j ∈ Region.ready md ops done, n ≤ j) (f : Nat) :
 ∀ (done : Array Bool) (a : Act), HeadInv md ops n done →
   (∀ j oj, ops[j]? = some oj → j ≠ i → done.getD j true = false → (∀ e ∈ oj.after, Region.binds md e = true → e.on ≠ i) → oi.apart ops oj = true) →
   i ∈ Region.ready md ops done → YieldsIn P ops C oi v a → JE P md ops C n L f (done.setIfInBounds i true) (a.put oi.dst v) → JE P md ops C n L (f + 1) done a := by
 induction f with
 | zero =>
   intro done a inv _ hr hy H
   have hun := (mem_ready.1 hr).1
   refine ⟨fun h => (by rw [h] at hr; cases hr), fun j hj => ?_⟩
   have hjn : j < n := (Nat.lt_or_ge j n).elim id (fun h => absurd hj (tail_waits hs hc hn inv _ i rfl hin hun j h))
   refine ⟨hjn, ?_⟩
   by_cases e : j = i
   ·subst e; exact hy.qOp hi H
   exact absurd (hdone _ _ H j (ready_mono hj e)) (by omega)
 | succ f ih =>
   intro done a inv hfree hr hy H
   have hun := (mem_ready.1 hr).1
   refine ⟨fun h => (by rw [h] at hr; cases hr), fun j hj => ?_⟩
   have hjn : j < n := (Nat.lt_or_ge j n).elim id (fun h => absurd hj (tail_waits hs hc hn inv _ i rfl hin hun j h))
   refine ⟨hjn, ?_⟩
   by_cases e : j = i
   ·subst e; exact hy.qOp hi H
   obtain ⟨hjun, oj, hoj, hall⟩ := mem_ready.1 hj
   have hnot : ∀ x ∈ oj.after, Region.binds md x = true → x.on ≠ i := fun x hx hb hxi => by
    have := hall x hx hb
    rw [hxi, getD_both hun] at this
    cases this
   have hk := qOp_put hoj (hfree j oj hoj e hjun hnot) (fun cs b => hsel i oi cs b hi) (fun cs b => hsel j oj cs b hoj) hy (H.2 j (ready_mono hj e)).2
   refine qOp_mono (fun a' h3 => ih (done.setIfInBounds j true) a' (inv.set hj hjn) (fun k ok hok hki hku hno => hfree k ok hok hki ?_ hno) (ready_mono hr (Ne.symm e)) h3.1 ?_) hk
   ·by_cases hjk : j = k
    ·subst hjk; exact hjun
    rwa [getD_set_ne true hjk] at hku
   rw [Array.setIfInBounds_comm _ _ e]
   exact h3.2
theorem JE.walk {n g : Nat} {R : Act → Prop} (hsel : Region.noSelect ops = true) (hs : Region.sinkB md ops n = true) (hc : Region.chainB md ops n = true) (hn : n < ops.size) :
 ∀ (l : List Oper) (k : Nat) (done : Array Bool) (a : Act), (∀ j, j < l.length → l[j]? = ops[k + j]?) → k + l.length = n → HeadInv md ops n done → Region.lexHead md ops g l.length k done = true → wpQuiet P ops C R l a →
 JE P md ops C n (fun done' a' => Region.seqB md ops g n done' = true ∧ R a') l.length done a
 | [], k, done, a, _, hk, _, hB, h => by
   obtain rfl : k = n := by simpa using hk
   exact ⟨by simpa [Region.lexHead] using hB, h⟩
 | o :: l, k, done, a, hl, hk, inv, hB, h => by
   have h0 : ops[k]? = some o := by simpa using (hl 0 (by simp)).symm
   simp only [List.length_cons, Region.lexHead, Bool.and_eq_true] at hB hk
   obtain ⟨⟨hr, hf⟩, hB'⟩ := hB
   have hkn : k < n := by omega
   have hr' : k ∈ Region.ready md ops done := by simpa using hr
   have hq : qOp P ops C k (wpQuiet P ops C R l) a := by unfold qOp; simp only [h0]; exact h
   obtain ⟨v, hy, hK⟩ := yieldsIn_of_qOp h0 hq
   exact JE.early h0 (Region.noSelect_spec hsel) hs hc hn hkn (fun _ _ hL => seqB_ready hL.1) l.length done a inv (Region.free_spec h0 hf) hr' hy
    (JE.walk hsel hs hc hn l (k + 1) _ _ (fun j hj => by have := hl (j + 1) (by simp; omega); simpa [Nat.add_assoc, Nat.add_comm 1 j] using this) (by omega) (inv.set hr' hkn) hB' hK)
theorem zay {id : Nat} {Q : Exit → Act → World → Prop} {a : Act} {w : World} {l : List Oper} (n : Nat) (hm : P.follows .mixedOrders = true) (hB : Region.lexTailB .any l.toArray n = true) (hC : C w.drew)
 (h : wpQuiet P l.toArray C (fun a' => ∀ w', C w' → wpList P l.toArray Q (l.drop n) a' w') (l.take n) a) : (Code.region id l.toArray true).wp P Q a w := by
 simp only [Region.lexTailB, Bool.and_eq_true, decide_eq_true_eq] at hB
 obtain ⟨⟨⟨⟨hsel, hn⟩, hs⟩, hc⟩, hlex⟩ := hB
 have hn' : n < l.length := by simpa using hn
 have htl : (l.take n).length = n := by simp; omega
 have hdl : (l.drop n).length = l.toArray.size - n := by simp
 have inv0 : HeadInv .any l.toArray n (Array.replicate l.toArray.size false) :=
  ⟨by simp, fun j _ _ hl => (by rw [getD_replicate_false] at hl; cases hl), fun t _ ht => getD_in (by simpa using ht) (getD_replicate_false _ _)⟩
 have H := JE.walk (md := .any) (g := l.toArray.size - n) hsel hs hc hn (l.take n) 0 _ a (fun j hj => by
  rw [htl] at hj
  simp [hj]) (by simpa using htl) inv0 (by rw [htl]; exact hlex) h
 refine wp_region_any hm ?_
 have key := JE.any (Q := Q) (g := l.toArray.size - n) (fun done a' w' hw' hL => by
  have := wpAny_of_seq (md := .any) (Q' := Q) (l.drop n) n done a' w' (fun j => by simp [List.getElem?_drop]) (by rw [hdl]; exact hL.1) (hL.2 w' hw')
  rwa [hdl] at this) _ _ _ w.drew hC H
 rw [htl, show n + (l.toArray.size - n) = l.toArray.size by omega] at key
 exact key
theorem yC {id : Nat} {Q : Exit → Act → World → Prop} {a : Act} {w : World} {l : List Oper} (n : Nat) (hm : P.follows .mixedOrders = true) (hB : Region.lexTailB .any l.toArray n = true)
 (h : wpQuiet P l.toArray (fun w' => ∃ m, w' = w.drewN m) (fun a' => ∀ w', (∃ m, w' = w.drewN m) → wpList P l.toArray Q (l.drop n) a' w') (l.take n) a) : (Code.region id l.toArray true).wp P Q a w :=
 zay n hm hB ⟨1, rfl⟩ h
end
end Go.Proofs.Ytpeiejkcoadhfaa
