/- Appends of one value onto rows of one's own. -/
import Derived.Test.YtbkhoepoeaiccaaDoorBase
namespace Go.Proofs.YtbkhoepoeaiccaaDoor
open Go.RowKit Go.Proofs.YtbkhoepoeaiccaaDoorW.PrintWords

/-- 'append(v, x)'. -/
theorem R_push {P : Program} {α : Type} (enc : α → Value) (d0 : α) {h1 : ∀ x, (enc x).oneCell' = true} (W w : World) (t e : TypeId) (z : Value) (bytes : Nat) (ht : P.underlying t = some (.slice e))
    (hinfo : (P.info? e).map (fun i => (i.zero, i.size, i.bytes)) = some (some z, 1, bytes)) (hzs : z.cells.size = 1) {v : Value} {xs : List α} (h : Kd.R (Kd.scalar enc h1) e W w.heap.size (fun _ => True) v xs) (hb : Below w.heap.size w W) (x : α)
    (hn : (xs.length + 1) * bytes ≤ 140737488355328) (hb0 : 0 < bytes) :
    ∃ B d W', (Builtin.append_ #[t, t] t #[v, .slice (some ⟨W.heap.size, 0, none⟩) 1 1]).run P (W.alloc (.cells #[enc x] e)) = .ok (.slice B (xs.length + 1) d) W' ∧ Kd.R (Kd.scalar enc h1) e W' w.heap.size (fun _ => True) (.slice B (xs.length + 1) d) (xs ++ [x]) ∧ Below w.heap.size w W' := by
  have hlit : Kd.R (Kd.scalar enc h1) e (W.alloc (.cells #[enc x] e)) W.heap.size (fun _ => True) (.slice (some ⟨W.heap.size, 0, none⟩) 1 1) [x] :=
    Kd.R_of_own (own_lit_of W W.heap.size e [x] (Nat.le_refl _) (by simp)) (fun _ _ => trivial)
  have hb1 : Below W.heap.size W (W.alloc (.cells #[enc x] e)) := below_alloc (Below.refl _ _) _
  have h2 := R_fr h (Fr.of_below hb1 (fun _ => False)) (fun _ _ _ _ h => h)
  have hbb : Below w.heap.size w (W.alloc (.cells #[enc x] e)) := hb.trans (hb1.mono hb.size)
  obtain ⟨v', W', hrun, hR, hg, hat⟩ := R_append_row (P := P) enc d0 (W.alloc (.cells #[enc x] e)) w.heap.size t t e z bytes ht hinfo hzs (ys := [x]) (c := 1) h2 (R_C hlit) hn hb0 hbb.size (fun _ _ => trivial)
  obtain ⟨B, d, rfl⟩ := Kd.R_slice hR
  rw [List.length_append] at hrun hR
  exact ⟨B, d, W', hrun, hR, hbb.grown hg hbb.size (fun i hi => Kd.R_base h2 i hi)⟩

/-- .. in any world behind. -/
theorem R_pushes {P : Program} {α : Type} (enc : α → Value) (d0 : α) {h1 : ∀ x, (enc x).oneCell' = true} (wr w : World) (t e : TypeId) (z : Value) (bytes : Nat) (ht : P.underlying t = some (.slice e))
    (hinfo : (P.info? e).map (fun i => (i.zero, i.size, i.bytes)) = some (some z, 1, bytes)) (hzs : z.cells.size = 1) {v : Value} {xs : List α} (h : Kd.R (Kd.scalar enc h1) e wr w.heap.size (fun _ => True) v xs) (hb : Below w.heap.size w wr) (x : α) (k : Nat) (ys : List α) (hk : xs.length = k) (hys : ys = xs ++ [x])
    (hn : (k + 1) * bytes ≤ 140737488355328) (hb0 : 0 < bytes) : Aside0 (∀ W, Below wr.heap.size wr W →
    ∃ B d W', (Builtin.append_ #[t, t] t #[v, .slice (some ⟨W.heap.size, 0, none⟩) 1 1]).run P (W.alloc (.cells #[enc x] e)) = .ok (.slice B (k + 1) d) W' ∧ Aside0 (Kd.R (Kd.scalar enc h1) e W' w.heap.size (fun _ => True) (.slice B (k + 1) d) ys) ∧ Aside0 (Below w.heap.size w W')) := ⟨fun W hW => by
  subst hk
  subst hys
  obtain ⟨B, d, W', h1, h2, h3⟩ := R_push (P := P) enc d0 (h1 := h1) W w t e z bytes ht hinfo hzs (R_fr h (Fr.of_below hW (fun _ => False)) (fun _ _ _ _ h => h)) (hb.trans (hW.mono hb.size)) x hn hb0
  exact ⟨B, d, W', h1, ⟨h2⟩, ⟨h3⟩⟩⟩
end Go.Proofs.YtbkhoepoeaiccaaDoor
