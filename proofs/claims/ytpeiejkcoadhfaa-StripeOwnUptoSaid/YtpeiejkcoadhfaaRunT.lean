/- Laws of one operation whose run is known, in a fence and out of it; append of one made element, copy, make: as runs. -/
import Derived.Test.YtpeiejkcoadhfaaRngT
import Derived.Laws.CopyRow
import Derived.Laws.IdiomCopy
import Derived.Test.YtpeiejkcoadhfaaWApart
namespace Go.Proofs.Ytpeiejkcoadhfaa
open Go.RowKit Go.Shelf Go.Proofs.YtpeiejkcoadhfaaW.PrintWords

section
variable {F : Fence} {n : Nat} {P : Program} {ops : Array Oper} {rest : List Oper} {o : Oper} {a : Act} {Q : Exit → Act → World → Prop} {w w' : World} {v y v' : Value}
theorem wpListIn_append_run (hgd : o.guard = none) (s x : Operand) (t t' : TypeId)
    (ho : o.op = .call { callee := .builtin .append, args := #[s, x], argTypes := #[t, t'] }) (hs : a.eval s = v) (hx : a.eval x = y) (hrun : (Builtin.append_ #[t, t'] o.type #[v, y]).run P w = .ok v' w')
    (h : wpListIn F n P ops Q rest (a.put o.dst v') w') : wpListIn F n P ops Q (o :: rest) a w := by
  refine wpListIn_plain hgd fun K hK' => ?_
  unfold Oper.wpIn
  refine ⟨?_, ?_⟩
  · simp [Oper.about, ho, resolve, Target.leads, Sem.run_pure]
  · rw [Oper.semAt_plain F _ _ (by rw [ho]; intro c hc'; cases hc')]
    simp only [execOp, ho, resolve, invoke, builtin, Sem.run_bind, Sem.run_pure, Result.andThen_ok, List.map_toArray, List.map_cons, List.map_nil, hs, hx, hrun]
    exact hK' _ _ h
theorem wpListIn_copy_run (hgd : o.guard = none) (s x : Operand) (t t' : TypeId)
    (ho : o.op = .call { callee := .builtin .copy, args := #[s, x], argTypes := #[t, t'] }) (hs : a.eval s = v) (hx : a.eval x = y) (hrun : (Builtin.copy_ #[t, t'] o.type #[v, y]).run P w = .ok v' w')
    (h : wpListIn F n P ops Q rest (a.put o.dst v') w') : wpListIn F n P ops Q (o :: rest) a w := by
  refine wpListIn_plain hgd fun K hK' => ?_
  unfold Oper.wpIn
  refine ⟨?_, ?_⟩
  · simp [Oper.about, ho, resolve, Target.leads, Sem.run_pure]
  · rw [Oper.semAt_plain F _ _ (by rw [ho]; intro c hc'; cases hc')]
    simp only [execOp, ho, resolve, invoke, builtin, Sem.run_bind, Sem.run_pure, Result.andThen_ok, List.map_toArray, List.map_cons, List.map_nil, hs, hx, hrun]
    exact hK' _ _ h
theorem wpList_copy_run (hgd : o.guard = none) (s x : Operand) (t t' : TypeId)
    (ho : o.op = .call { callee := .builtin .copy, args := #[s, x], argTypes := #[t, t'] }) (hs : a.eval s = v) (hx : a.eval x = y) (hrun : (Builtin.copy_ #[t, t'] o.type #[v, y]).run P w = .ok v' w')
    (h : wpList P ops Q rest (a.put o.dst v') w') : wpList P ops Q (o :: rest) a w :=
  Kd.event_run hgd (by unfold execOp; simp only [ho, resolve, invoke, builtin, Sem.run_bind, Sem.run_pure, Result.andThen_ok, List.map_toArray, List.map_cons, List.map_nil, hs, hx, hrun]) h
end

section
variable {P : Program}
/-- append(v, p), p made, as a run: behind the variadic's box. -/
theorem R_run1 {α : Type} (d : Kd α) {W : World} (base : Nat) (t ty e : TypeId) (z : Value) (bytes : Nat)
    (ht : P.underlying t = some (.slice e)) (hinfo : (P.info? e).map (fun i => (i.zero, i.size, i.bytes)) = some (some z, d.sz, bytes)) (hz : z.cells.size = d.sz) (hs0 : 0 < d.sz) (hb0 : 0 < bytes)
    (v : Value) (xs : List α) (p : α) (cs : List Value) (ok okp : Nat → Prop) (hp : d.M W base okp p cs) (hokp : ∀ k, okp k → ok k ∧ some k ≠ v.ownBlock) (hfresh : ∀ k, W.heap.size ≤ k → ok k)
    (HO : d.R e W base ok v xs) (hbase : base ≤ W.heap.size) (hl : (xs.length + 1) * bytes ≤ 140737488355328) :
    ∃ v1 w1, (Builtin.append_ #[t, t] ty #[v, .slice (some ⟨W.heap.size, 0, none⟩) 1 1]).run P (W.alloc (.cells cs.toArray e)) = .ok v1 w1 ∧ d.R e w1 base ok v1 (xs ++ [p]) ∧ W.grownBy w1 v.ownBlock ∧ (v1.ownBlock = v.ownBlock ∨ ∃ b, v1.ownBlock = some b ∧ W.heap.size ≤ b) := by
  obtain ⟨h0, inner, hown, hr⟩ := HO
  obtain ⟨i0, hi, hzz⟩ := Option.map_eq_some_iff.1 hinfo
  simp only [Prod.mk.injEq] at hzz
  obtain ⟨hz0, hz1, hz2⟩ := hzz
  have hlen : xs.length + 1 ≤ 140737488355328 := Nat.le_trans (Nat.le_mul_of_pos_right _ hb0) hl
  have hcl := d.K_len (d.K_of_M hp)
  have hq : (W.alloc (.cells cs.toArray e)).ownsRow base e d.sz v xs.length inner := own_move hown (fun k hk => Below.heap_alloc W _ k (own_lt hown k hk))
  obtain ⟨v1, w1, hrun, hq1, hg1, _, hat⟩ := run_append_own_at (P := P) (W.alloc (.cells cs.toArray e)) base t ty e i0 z d.sz bytes ht hi hz0 hz1 hz2 hz hs0 v xs.length inner hq ⟨W.heap.size, 0, none⟩ 1 1 cs (by rw [hcl, Nat.one_mul])
    (by simpa using World.news_of_block (cs := cs.toArray) (t := e) (fr := (0, 0)) (heap_alloc_new W (.cells cs.toArray e))) (d.K_one (d.K_of_M hp)) (by simp only [maxLen]; omega) hl (by simp; omega)
  have hg : W.grownBy w1 v.ownBlock := World.grownBy.trans (World.grownBy_alloc W _ _) hg1
  have hat' : v1.ownBlock = v.ownBlock ∨ ∃ b, v1.ownBlock = some b ∧ W.heap.size ≤ b := by
    rcases hat with hat | hat
    · exact .inl hat
    · exact .inr ⟨_, hat, by simp⟩
  exact ⟨v1, w1, hrun, Kd.R_appended h0 hr hp hokp hfresh hq1 hg hat', hg, hat'⟩

/-- .. where no two elements lead to one block: the new element's blocks are okp. -/
theorem S_run1 {α : Type} (d : Kd α) {W : World} (base : Nat) (t ty e : TypeId) (z : Value) (bytes : Nat)
    (ht : P.underlying t = some (.slice e)) (hinfo : (P.info? e).map (fun i => (i.zero, i.size, i.bytes)) = some (some z, d.sz, bytes)) (hz : z.cells.size = d.sz) (hs0 : 0 < d.sz) (hb0 : 0 < bytes)
    (v : Value) (xs : List α) (p : α) (cs : List Value) (ok okp : Nat → Prop) (hp : d.M W base okp p cs) (hokp : ∀ k, okp k → ok k ∧ some k ≠ v.ownBlock) (hfresh : ∀ k, W.heap.size ≤ k → ok k)
    (HO : Kd.S d e W base (fun k => ok k ∧ ¬ okp k) v xs) (hbase : base ≤ W.heap.size) (hl : (xs.length + 1) * bytes ≤ 140737488355328) :
    ∃ v1 w1, (Builtin.append_ #[t, t] ty #[v, .slice (some ⟨W.heap.size, 0, none⟩) 1 1]).run P (W.alloc (.cells cs.toArray e)) = .ok v1 w1 ∧ Kd.S d e w1 base ok v1 (xs ++ [p]) ∧ W.grownBy w1 v.ownBlock ∧ (v1.ownBlock = v.ownBlock ∨ ∃ b, v1.ownBlock = some b ∧ W.heap.size ≤ b) := by
  obtain ⟨f, hf, hR⟩ := Kd.S_tag HO xs.length okp (fun _ hk h2 => h2.2 hk)
  obtain ⟨v1, w1, h1, h2, h3, h4⟩ := R_run1 (P := P) (Kd.tag f d) base t ty e z bytes ht hinfo hz hs0 hb0 v xs.zipIdx (p, xs.length) cs ok okp (d.M_mono (fun k hk => ⟨hk, hf k hk⟩) hp) hokp hfresh (Kd.R_mono hR (fun _ hk => hk.1)) hbase (by rw [List.length_zipIdx]; exact hl)
  rw [← Kd.zip_snoc] at h2
  exact ⟨v1, w1, h1, ⟨f, h2⟩, h3, h4⟩
theorem S_fr {α : Type} {d : Kd α} {e : Nat} {w w1 : World} {base : Nat} {ok S : Nat → Prop} {v : Value} {xs : List α} (h : Kd.S d e w base ok v xs) (hf : Fr S w w1) (hs : ∀ k, ok k → base ≤ k → k < w.heap.size → ¬ S k) : Kd.S d e w1 base ok v xs :=
  Kd.S_mono (Kd.S_move (Kd.S_bound h) (fun k hk => hf.block k hk.2.2.1 (hs k hk.1 hk.2.1 hk.2.2.1))) (fun _ hk => hk.1)
theorem S_abd {α : Type} {d : Kd α} {e : Nat} {w w1 : World} {base B : Nat} {ok : Nat → Prop} {v : Value} {xs : List α} (h : Kd.S d e w base ok v xs) (hf : Fr (fun k => B ≤ k ∧ ∃ o, w.heap[k]? = some o ∧ o.isCells = false) w w1) : Kd.S d e w1 base ok v xs :=
  Kd.S_mono (Kd.S_move (Kd.S_bound h) (fun k hk => hf.block k hk.2.2.1 (fun hn => by
    obtain ⟨_, o, ho, hc⟩ := hn
    obtain ⟨_, _, _, q, _, cells, hq⟩ := hk
    rw [ho] at hq
    injection hq with hq
    subst hq
    cases hc))) (fun _ hk => hk.1)

/-- copy(v, y) into a row of one's own, y no longer than it; elements of one cell. -/
theorem copy_R {α : Type} {enc : α → Value} (d0 : α) {h1 : ∀ x, (enc x).oneCell' = true} {W : World} {base : Nat} {ok : Nat → Prop} (t t' ty e : TypeId) (ht : P.underlying t = some (.slice e)) (hi : (P.info? e).map (·.size) = some 1) {g cap : Nat} {xs ys : List α} {A : Option Addr} {c : Nat}
    (hR : (Kd.scalar enc h1).R e W base ok (.slice (some ⟨g, 0, none⟩) xs.length cap) xs) (hC : (Kd.scalar enc h1).C W A ys.length ys) (hle : ys.length ≤ xs.length) :
    ∃ W', (Builtin.copy_ #[t, t'] ty #[.slice (some ⟨g, 0, none⟩) xs.length cap, .slice A ys.length c]).run P W = .ok (.int .i64 (ys.length : Int)) W' ∧ (Kd.scalar enc h1).R e W' base ok (.slice (some ⟨g, 0, none⟩) xs.length cap) (ys ++ xs.drop ys.length) ∧ Fr (fun k => k = g) W W' := by
  have hmin : Nat.min ys.length xs.length = ys.length := Nat.min_eq_left hle
  rcases Nat.eq_zero_or_pos ys.length with hl | hl
  · obtain rfl : ys = [] := List.eq_nil_of_length_eq_zero hl
    refine ⟨W, run_copy_none W t t' ty e _ _ _ _ _ _ ht hi (by simp), ?_, Fr.refl _ _⟩
    simpa using hR
  · have ho := Kd.own_of_R hR
    obtain ⟨hlen, h2⟩ := ho
    rcases h2 with ⟨h3, _⟩ | ⟨g', cap', cur, h3, hg, hh, hnc, hcm, hcs, htk⟩
    · injection h3 with h3; cases h3
    · injection h3 with h4 _ h5
      injection h4 with h4
      injection h4 with h4 _ _
      subst h4; subst h5
      have hro := Kd.reads_of_C (enc := enc) (d := d0) (h1 := h1) hC
      obtain ⟨ad, rfl, hcell⟩ := hro.2.2 hl
      have hsrc : ∀ j u, (encs enc ys)[j]? = some u → W.cell? (ad.add j) = some u := fun j u hu => by
        have hj : j < ys.length := by have := (List.getElem?_eq_some_iff.1 hu).1; rwa [encs_length] at this
        rw [encs_get (d := d0) ys j hj] at hu
        injection hu with hu
        rw [← hu]; exact hcell j hj
      have hrun := run_copy_row (P := P) W t t' ty e g 0 xs.length cap ad ys.length c cur e (encs enc ys) ht hi hh (by rw [encs_length, hmin]) hsrc (by rw [encs_length]; omega)
        (fun u hu => by
          obtain ⟨x, _, rfl⟩ := List.mem_map.1 hu
          exact h1 x)
      rw [encs_length, Nat.zero_add, List.take_zero, List.nil_append] at hrun
      refine ⟨_, hrun, ?_, rfl, rfl, rfl, by simp [World.setRow], fun k _ hk => setRow_other W g k _ hk⟩
      have hl2 : (ys ++ xs.drop ys.length).length = xs.length := by rw [List.length_append, List.length_drop]; omega
      refine Kd.R_of_own ?_ (fun k hk => hR.1 k hk)
      refine ⟨by rw [encs_length, Nat.mul_one], .inr ⟨g, cap, _, by rw [hl2], hg, setRow_heap W g cur _ e _ hh, by omega, hcm, ?_, ?_⟩⟩
      · simp [encs_length, List.size_toArray]
        omega
      · rw [hl2, Nat.mul_one, List.take_append, encs_append, encs_length, List.take_of_length_le (by rw [encs_length]; exact hle), ← List.drop_take]
        rw [Nat.mul_one] at htk
        rw [htk]
        simp [encs]
theorem make_u8 (t e : TypeId) (ht : P.underlying t = some (.slice e)) (hinfo : (P.info? e).map (fun i => (i.zero, i.size, i.bytes)) = some (some (.int .u8 0), 1, 1)) (k : Nat) (hk : k ≤ 281474976710656) (W : World) :
    (Instr.makeSlice t (.int .i64 (k : Int)) (.int .i64 (k : Int))).run P W = .ok (.slice (some ⟨W.heap.size, 0, none⟩) k k) (W.alloc (.cells (Array.replicate k (.int .u8 0)) e)) := by
  obtain ⟨i0, hi, hz0, hz1, hz2⟩ := info_parts hinfo
  have hr := run_make (P := P) W t e i0 _ ht hi hz0 .i64 .i64 (k : Int) (k : Int) (by omega) (by omega) (by rw [hz2]; omega) (by omega)
  simp only [Int.toNat_natCast] at hr
  rw [hz1] at hr
  rw [hr]
  have hz : madeCells (Value.cells (.int .u8 0)) (k * 1) = Array.replicate k (.int .u8 0) := by
    apply Array.ext
    · simp [size_madeCells]
    · intro i h1 h2
      simp [madeCells, Value.cells, Nat.mod_one]
  rw [hz]
theorem R_zeros (W : World) (e base : Nat) (ok : Nat → Prop) (k : Nat) (hk : k ≤ 281474976710656) (hb : base ≤ W.heap.size) (hok : ok W.heap.size) : (Kd.int .u8).R e (W.alloc (.cells (Array.replicate k (.int .u8 0)) e)) base ok (.slice (some ⟨W.heap.size, 0, none⟩) k k) (List.replicate k 0) := by
  refine Kd.R_of_own ?_ (fun j hj => ?_)
  · refine ⟨by rw [encs_length, Nat.mul_one], .inr ⟨W.heap.size, k, Array.replicate k (.int .u8 0), by simp, hb, blk_new _ _, by simp, by simp only [maxLen]; omega, by simp, ?_⟩⟩
    simp [encs]
  · have : W.heap.size = j := by simpa [Value.ownBlock] using hj
    exact this ▸ hok
end
end Go.Proofs.Ytpeiejkcoadhfaa
