/- What the view's laws take, Vt15: RngG. -/
import Derived.Test.YtpeiejkcoadhfaaVt05
set_option linter.all false
namespace Go.Proofs.Ytpeiejkcoadhfaa
open Go.RowKit Go.Shelf Go.Proofs.YtpeiejkcoadhfaaW.PrintWords
def SeqG {α : Type} (P : Program) (g : Nat) (lb : Array Value) (encs : α → Array Value) (Rel : List α → α → World → Prop) (S : Nat → Prop) (Full : List α → Prop) (w : World) : Prop :=
  ∀ (l : Nat) (J : List α → World → Prop) (W : World), Below w.heap.size w W → w.heap.size + 2 ≤ W.heap.size → (∀ s A B, J s A → Below A.heap.size A B → J s B) →
    (∀ pre x W1, J pre W1 → Rel pre x W1 → YieldAt Fence.wide 1 P l (encs x) W1 fun e W' => e = .returned (.bool true) ∧ J (pre ++ [x]) W' ∧ Fr (fun k => S k ∨ k = w.heap.size ∨ k = w.heap.size + 1) W1 W') →
    J [] W → CallsIn Fence.wide 2 P g (#[.func (.yield l) #[] #[]] ++ lb) W fun e W' => (∃ v, e = .returned v) ∧ ∃ xs, Full xs ∧ J xs W'
theorem range_g {P : Program} {α : Type} {g : Operand} {ps : Array Tmp} {assign body : Code} {Q : Exit → Act → World → Prop} {a : Act} {w : World}
    {gf : Nat} {lb : Array Value} (hg : a.eval g = .func (.func gf) #[] lb) (eg : ∀ args w, (callFunc gf args).run P w = .ok (.enter gf args) w)
    {encs : α → Array Value} {Rel : List α → α → World → Prop} {S : Nat → Prop} {Full : List α → Prop} (hseq : SeqG P gf lb encs Rel S Full w) (hps : ∀ x, (encs x).size = ps.size) (hS : ∀ k, S k → k < w.heap.size)
    (I : List α → World → Prop) (hI : Abd w.heap.size I) (hRel : ∀ pre, Abd w.heap.size (Rel pre)) (h0 : I [] w) (a₁ : α → Act)
    (hassign : ∀ (l : Nat) (pre : List α) (x : α) (W : World) (K : Act → World → Prop), Rel pre x W → K (a₁ x) W →
      assign.wpIn (Fence.wide.inRound l) 1 P (Exit.then K (fun _ _ _ => False)) { tmps := (ps.zip (encs x)).foldl (fun t (p, v) => t.setIfInBounds p v) a.tmps, defers := [] } W)
    (hbody : ∀ (l : Nat) (pre : List α) (x : α) (W : World), w.heap.size + 2 ≤ W.heap.size → I pre W → Rel pre x W → body.wpIn (Fence.wide.inRound l) 1 P (goesOn (Fr S) (I (pre ++ [x])) W) (a₁ x) W)
    (hdone : ∀ (xs : List α) (W : World), Full xs → I xs W → W.heap[w.heap.size]? = some (.deferred (some [])) → Q .normal { a with defers := { target := .collected w.heap.size, args := #[] } :: a.defers } W) :
    (Code.rangeFunc g ps assign body).wpIn Fence.wide 3 P Q a w := by
  refine wpIn_rangeFunc ?_
  intro fn hfn
  -- the loop's record
  let rec_ : LoopState → Loop := fun st => { state := st, pending := none, fn, tmps := a.tmps, params := ps, assign, body, defers := w.heap.size }
  obtain ⟨W1, hW1⟩ : ∃ W1, (w.alloc (.deferred (some []))).alloc (.loop (rec_ .ready)) = W1 := ⟨_, rfl⟩
  have hz1 : W1.heap.size = w.heap.size + 2 := by rw [← hW1]; simp
  have hb1 : Below w.heap.size w W1 := by rw [← hW1]; exact below_alloc (below_alloc (Below.refl _ _) _) _
  have hL1 : W1.heap[w.heap.size + 1]? = some (.loop (rec_ .ready)) := by
    rw [← hW1]
    have := World.alloc_heap_new (w.alloc (.deferred (some []))) (.loop (rec_ .ready))
    rwa [World.size_alloc] at this
  have hK1 : W1.heap[w.heap.size]? = some (.deferred (some [])) := by
    rw [← hW1]; exact (Below.heap_alloc _ _ _ (by simp)).trans (World.alloc_heap_new w _)
  refine ⟨w.heap.size + 1, [{ target := .collected w.heap.size, args := #[] }], W1, { target := .fn (.func gf) lb, args := #[.func (.yield (w.heap.size + 1)) #[] #[]] }, W1, gf,
    #[.func (.yield (w.heap.size + 1)) #[] #[]] ++ lb, W1, ?_, ?_, ?_, ?_, (fun _ => by omega), ?_⟩
  · rw [← hW1]; exact run_enterLoop_outer _ _ _ _ _
  · simp only [resolve, hg]
    simp [go_sem]
  · intro f' _; exact trivial
  · simp [invoke, go_sem, eg]
  · -- a step that turns the record alone
    have put1 : ∀ (W : World) (o' : Obj), Fr (fun k => k = w.heap.size + 1) W (W.putObj (w.heap.size + 1) o') := fun W o' => ⟨rfl, rfl, rfl, by simp, fun k _ hk => World.putObj_heap_other hk⟩
    have put : ∀ (W : World) (o o' : Obj), W.heap[w.heap.size + 1]? = some o → o.isCells = false → Fr (fun k => w.heap.size ≤ k ∧ ∃ o, W.heap[k]? = some o ∧ o.isCells = false) W (W.putObj (w.heap.size + 1) o') := fun W o o' h hc =>
      ⟨rfl, rfl, rfl, by simp, fun k _ hk => World.putObj_heap_other (fun e => hk (by subst e; exact ⟨by omega, o, h, hc⟩))⟩
    refine (hseq (w.heap.size + 1) (fun pre W => I pre W ∧ W.heap[w.heap.size + 1]? = some (.loop (rec_ .ready)) ∧ W.heap[w.heap.size]? = some (.deferred (some []))) W1 hb1 (by omega) ?_ ?_ ⟨?_, hL1, hK1⟩).mono ?_
    · rintro s A B ⟨hi, hl, hk⟩ hb
      refine ⟨hI s A B hi (Fr.of_below hb _), (hb.block _ (Array.getElem?_eq_some_iff.1 hl).1).trans hl, (hb.block _ (Array.getElem?_eq_some_iff.1 hk).1).trans hk⟩
    · -- one round
      rintro pre x W ⟨hi, hl, hk⟩ hr
      have hlt : w.heap.size + 1 < W.heap.size := (Array.getElem?_eq_some_iff.1 hl).1
      refine ⟨fn, _, assign, body, run_yield hl (hps x), roundIn_of_wpIn hfn (hassign _ pre x W _ hr ⟨_, run_beginRound hl rfl, ?_⟩)⟩
      obtain ⟨W2, hW2⟩ : ∃ W2, W.putObj (w.heap.size + 1) (.loop (rec_ .busy)) = W2 := ⟨_, rfl⟩
      have hf2 := put W _ (.loop (rec_ .busy)) hl rfl
      have hl2 : W2.heap[w.heap.size + 1]? = some (.loop (rec_ .busy)) := by rw [← hW2]; exact World.putObj_heap_same hlt
      have hk2 : W2.heap[w.heap.size]? = some (.deferred (some [])) := by rw [← hW2]; exact (World.putObj_heap_other (by omega)).trans hk
      have hz2 : W2.heap.size = W.heap.size := by rw [← hW2]; simp
      have hf2' : Fr (fun k => S k ∨ k = w.heap.size ∨ k = w.heap.size + 1) W W2 := by rw [← hW2]; exact (put1 W _).mono (fun k hk => .inr (.inr hk))
      rw [hW2] at hf2
      show body.wpIn (Fence.wide.inRound (w.heap.size + 1)) 1 P _ (a₁ x) (W.putObj (w.heap.size + 1) (.loop (rec_ .busy)))
      rw [hW2]
      refine wpIn_mono (hbody _ pre x W2 (by omega) (hI pre W W2 hi hf2) (hRel pre x W W2 hr hf2)) ?_
      intro e a3 W3 hp
      cases e with
      | normal =>
        obtain ⟨hf3, hi3⟩ := hp
        have hl3 := hf3.blk hl2 (fun h => absurd (hS _ h) (by omega))
        have hk3 := hf3.blk hk2 (fun h => absurd (hS _ h) (by omega))
        have hf4 := put W3 _ (.loop (rec_ .ready)) hl3 rfl
        have hlt3 : w.heap.size + 1 < W3.heap.size := (Array.getElem?_eq_some_iff.1 hl3).1
        refine ⟨_, _, run_endRound none hl3, rfl, ⟨hI _ _ _ hi3 hf4, World.putObj_heap_same hlt3, (World.putObj_heap_other (by omega)).trans hk3⟩, ?_⟩
        exact (hf2'.trans' (hf3.mono (fun k hk => .inl hk))).trans' ((put1 W3 _).mono (fun k hk => .inr (.inr hk)))
      | ret => exact hp.elim
      | exit id => exact hp.elim
      | goto t => exact hp.elim
      | panic ch => exact hp.elim
      | outgrown => exact hp.elim
    · exact hI [] w W1 h0 (Fr.of_below hb1 _)
    · -- behind the iterator
      rintro e W2 ⟨⟨v, rfl⟩, xs, hF, hi, hl, hk⟩
      exact ⟨none, _, run_endLoop hl (by simp [rec_]), hdone xs _ hF (hI _ _ _ hi (put W2 _ _ hl rfl)) ((World.putObj_heap_other (by omega)).trans hk)⟩
end Go.Proofs.Ytpeiejkcoadhfaa
