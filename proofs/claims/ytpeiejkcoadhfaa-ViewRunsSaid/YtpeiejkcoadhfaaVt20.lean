/- What the view's laws take, Vt20: PzH, PzU, PzV, PzI. -/
import Derived.Test.YtpeiejkcoadhfaaVt12
import Derived.Test.YtpeiejkcoadhfaaVt19
set_option linter.all false
namespace Go.Proofs.Ytpeiejkcoadhfaa
open Go.RowKit Go.Shelf Go.Proofs.YtpeiejkcoadhfaaW.PrintWords Go.Proofs.YtpeiejkcoadhfaaW.PrintMore
open Go.BigFrame
abbrev Hd : Type := Option Addr × Nat × Nat
def encHd (h : Hd) : Value := .slice h.1 h.2.1 h.2.2
abbrev kh : Kd Hd := Kd.scalar encHd (fun _ => rfl)
def hd0 : Hd := (none, 0, 0)
def PL (W : World) (A : Option Addr) (n : Nat) (qs : List (List F)) : Prop :=
  ∃ hs : List Hd, Kd.C kh W A n hs ∧ qs.length = n ∧ ∀ i, i < n → (hs.getD i hd0).2.1 = (qs.getD i []).length ∧ (hs.getD i hd0).2.1 ≤ (hs.getD i hd0).2.2 ∧ Kd.C fk W (hs.getD i hd0).1 (qs.getD i []).length (qs.getD i [])
theorem PL_below {w W : World} {A : Option Addr} {n : Nat} {qs : List (List F)} (h : PL w A n qs) (hb : Below w.heap.size w W) : PL W A n qs := by
  obtain ⟨hs, h1, h2, h3⟩ := h
  exact ⟨hs, Kd.C_below h1 hb, h2, fun i hi => ⟨(h3 i hi).1, (h3 i hi).2.1, Kd.C_below (h3 i hi).2.2 hb⟩⟩
theorem hd_at {w : World} {A : Option Addr} {n : Nat} {p : List Hd} (h : Kd.C kh w A n p) (k : Nat) (hk : k < n) : ∃ ad, A = some ad ∧ w.cell? (ad.add k) = some (encHd (p.getD k hd0)) := by
  obtain ⟨ad, e, hc⟩ := (Kd.reads_of_C (enc := encHd) (d := hd0) (h1 := fun _ => rfl) h).2.2 (by omega)
  exact ⟨ad, e, hc k hk⟩
theorem PL_at {w : World} {A : Option Addr} {n : Nat} {qs : List (List F)} (h : PL w A n qs) (k : Nat) (hk : k < n) : ∃ ad B c, A = some ad ∧ w.cell? (ad.add k) = some (.slice B (qs.getD k []).length c) ∧ (qs.getD k []).length ≤ c ∧ Kd.C fk w B (qs.getD k []).length (qs.getD k []) := by
  obtain ⟨hs, h1, h2, h3⟩ := h
  obtain ⟨ad, e, hc⟩ := hd_at h1 k hk
  obtain ⟨e1, e2, e3⟩ := h3 k hk
  refine ⟨ad, (hs.getD k hd0).1, (hs.getD k hd0).2.2, e, ?_, by omega, e3⟩
  rw [hc, ← e1]
  rfl
def RowsO (W : World) (b : Nat) (ok : Nat → Prop) (g N : Nat) (rows : List (List F)) : Prop :=
  ∃ hs : List Hd, Kd.R kh 36 W g (fun k => k = g) (.slice (some ⟨g, 0, none⟩) N N) hs ∧ rows.length = N ∧ (∀ i, i < N → (hs.getD i hd0).2.1 = (rows.getD i []).length ∧ Kd.R fk 5 W b ok (encHd (hs.getD i hd0)) (rows.getD i [])) ∧
    ∀ i j, i < N → j < N → i ≠ j → ∀ k, OB (hs.getD i hd0).1 k → ¬ OB (hs.getD j hd0).1 k
theorem getD_rep {α : Type} (n i : Nat) (a d : α) (h : i < n) : (List.replicate n a).getD i d = a := by
  rw [List.getD_eq_getElem?_getD, List.getElem?_replicate, if_pos h]; rfl
theorem info36' : (Try.prog.info? 36).map (fun i => (i.zero, i.size, i.bytes)) = some (some (.slice none 0 0), 1, 24) := by kernel_rfl
theorem rows_start (w : World) (b : Nat) (ok : Nat → Prop) (N : Nat) (hN : N ≤ 1000000) : RowsO (w.alloc (.cells (Array.replicate N (.slice none 0 0)) 36)) b ok w.heap.size N (List.replicate N []) := by
  refine ⟨List.replicate N hd0, ?_, by simp, fun i hi => ?_, fun i j hi hj _ k hk => ?_⟩
  · refine Kd.R_of_own ⟨by rw [encs_length, Nat.mul_one], .inr ⟨w.heap.size, N, Array.replicate N (.slice none 0 0), by simp, Nat.le_refl _, blk_new _ _, by simp, by simp only [maxLen]; omega, by simp, ?_⟩⟩ (fun j hj => ?_)
    · simp [encs, encHd, hd0]
    · simpa [Value.ownBlock] using hj.symm
  · rw [getD_rep _ _ _ _ hi, getD_rep _ _ _ _ hi]
    exact ⟨rfl, Kd.R_nil _ _ _ _ _⟩
  · rw [getD_rep _ _ _ _ hi] at hk
    obtain ⟨a, ha, _⟩ := hk
    simp [hd0] at ha
theorem getD_set {α : Type} (l : List α) (h i : Nat) (x d : α) (hh : h < l.length) : (l.set h x).getD i d = if i = h then x else l.getD i d := by
  rw [List.getD_eq_getElem?_getD, List.getD_eq_getElem?_getD, List.getElem?_set]
  by_cases e : h = i
  · subst e
    rw [if_pos rfl, if_pos hh, if_pos rfl]; rfl
  · rw [if_neg e, if_neg (fun h' => e h'.symm)]
theorem rows_fr {W W1 : World} {b : Nat} {ok : Nat → Prop} {g N : Nat} {rows : List (List F)} (h : RowsO W b ok g N rows) (hf : Fr (fun _ => False) W W1) : RowsO W1 b ok g N rows := by
  obtain ⟨hs, h1, h2, h3, h4⟩ := h
  exact ⟨hs, R_fr h1 hf (fun _ _ _ _ h => h), h2, fun i hi => ⟨(h3 i hi).1, R_fr (h3 i hi).2 hf (fun _ _ _ _ h => h)⟩, h4⟩
theorem rows_mono {W : World} {b : Nat} {ok ok' : Nat → Prop} {g N : Nat} {rows : List (List F)} (h : RowsO W b ok g N rows) (hk : ∀ k, ok k → b ≤ k → k < W.heap.size → ok' k) : RowsO W b ok' g N rows := by
  obtain ⟨hs, h1, h2, h3, h4⟩ := h
  exact ⟨hs, h1, h2, fun i hi => ⟨(h3 i hi).1, Kd.R_mono (Kd.R_bound (h3 i hi).2) (fun k hk' => hk k hk'.1 hk'.2.1 hk'.2.2.1)⟩, h4⟩
theorem rows_lower {W : World} {b b' : Nat} {ok : Nat → Prop} {g N : Nat} {rows : List (List F)} (h : RowsO W b ok g N rows) (hb : b' ≤ b) : RowsO W b' ok g N rows := by
  obtain ⟨hs, h1, h2, h3, h4⟩ := h
  exact ⟨hs, h1, h2, fun i hi => ⟨(h3 i hi).1, Kd.R_lower (h3 i hi).2 hb⟩, h4⟩
theorem rows_push (wr : World) (b : Nat) (ok : Nat → Prop) (g N : Nat) (rows : List (List F)) (H : RowsO wr b ok g N rows) (hb : b ≤ wr.heap.size) (hok : ∀ k, wr.heap.size ≤ k → ok k) (h : Nat) (hh : h < N) (y : F) (m : Nat) (hm : (rows.getD h []).length = m) (hml : m ≤ 1000000) :
    ∃ A c, wr.cell? ⟨g, h, none⟩ = some (.slice A m c) ∧ ∃ B d W', (Builtin.append_ #[36, 36] 36 #[.slice A m c, .slice (some ⟨wr.heap.size, 0, none⟩) 1 1]).run Try.prog (wr.alloc (.cells #[.int .u8 (y.v : Int)] 5)) = .ok (.slice B (m + 1) d) W' ∧
      W'.cell? ⟨g, h, none⟩ = some (.slice A m c) ∧ W'.frozen? ⟨g, h, none⟩ = false ∧ RowsO (W'.setCell ⟨g, h, none⟩ (.slice B (m + 1) d)) b ok g N (rows.set h (rows.getD h [] ++ [y])) ∧ Fr (fun k => k = g ∨ (b ≤ k ∧ ok k)) wr (W'.setCell ⟨g, h, none⟩ (.slice B (m + 1) d)) := by
  obtain ⟨hs, h1, h2, h3, h4⟩ := H
  obtain ⟨e1, e2⟩ := h3 h hh
  obtain ⟨_, hg, _, _, _, hx, hz, hset⟩ := R_at hd0 h1 h hh
  injection hg with hg
  injection hg with hg
  subst hg
  obtain ⟨hw, hhw⟩ : ∃ hw, hw = hs.getD h hd0 := ⟨_, rfl⟩
  rw [← hhw] at e1 e2 hx
  obtain ⟨A, n, c⟩ := hw
  simp only at e1
  obtain rfl : n = m := by omega
  have hb1 : Below wr.heap.size wr (wr.alloc (.cells #[encF y] 5)) := below_alloc (Below.refl _ _) _
  have hlit : Kd.R fk 5 (wr.alloc (.cells #[encF y] 5)) wr.heap.size (fun _ => True) (.slice (some ⟨wr.heap.size, 0, none⟩) 1 1) [y] :=
    Kd.R_of_own (own_lit_of wr wr.heap.size 5 [y] (Nat.le_refl _) (by simp)) (fun _ _ => trivial)
  have hr : Kd.R fk 5 (wr.alloc (.cells #[encF y] 5)) b ok (.slice A n c) (rows.getD h []) := R_fr e2 (Fr.of_below hb1 (fun _ => False)) (fun _ _ _ _ h => h)
  obtain ⟨v', W', hrun, hR, hgr, hat⟩ := R_append_row (P := Try.prog) encF 0 (wr.alloc (.cells #[encF y] 5)) b 36 36 5 (.int .u8 0) 1 Try.underlying36 info5 rfl (ys := [y]) (c := 1) hr (R_C hlit) (by simp only [List.length_cons, List.length_nil]; omega) (by omega) (Nat.le_trans hb hb1.size) (fun k hk => hok k (Nat.le_trans hb1.size hk))
  obtain ⟨B, d, rfl⟩ := Kd.R_slice hR
  rw [List.length_append, hm] at hrun hR
  refine ⟨A, c, hx, B, d, W', hrun, ?_⟩
  -- the step's frame
  have hf1 : Fr (fun k => OB A k) wr W' := (Fr.of_below hb1 _).trans (Fr.of_grown hgr (fun k hk => .inl (own_ob hk))) (fun k hk => .inl hk)
  have typ : ∀ (W : World) (B : Option Addr) (n c : Nat) (l : List F) (hs' : List Hd), Kd.R fk 5 W b ok (.slice B n c) l → Kd.R kh 36 W g (fun k => k = g) (.slice (some ⟨g, 0, none⟩) N N) hs' → ∀ k, OB B k → ¬ k = g := fun W B n c l hs' hr hk k hk1 e => by
    obtain ⟨c1, hc1⟩ := Kd.R_typed hr k (ob_own hk1)
    obtain ⟨c2, hc2⟩ := Kd.R_typed hk g (by simp [Value.ownBlock])
    rw [e] at hc1
    rw [hc1] at hc2
    simp at hc2
  have hAne := typ wr A n c _ hs e2 h1
  have h1' : Kd.R kh 36 W' g (fun k => k = g) (.slice (some ⟨g, 0, none⟩) N N) hs := R_fr h1 hf1 (fun k hk _ _ hob => hAne k hob hk)
  obtain ⟨_, hg', _, _, _, hx', hz', hset'⟩ := R_at hd0 h1' h hh
  injection hg' with hg'
  injection hg' with hg'
  subst hg'
  rw [← hhw] at hx'
  have hB' : ∀ k, OB B k → OB A k ∨ wr.heap.size ≤ k := fun k hk => by
    rcases hat with e | ⟨b', e, hb'⟩
    · exact .inl (own_ob (n := n) (c := c) (by rw [← e]; exact ob_own hk))
    · rw [ob_own hk] at e
      injection e with e
      have := hb1.size
      exact .inr (by omega)
  have hf2 : Fr (fun k => k = g) W' (W'.setCell ⟨g, h, none⟩ (.slice B (n + 1) d)) := (Fr.refl (fun k => k = g) W').set_ (p := ⟨g, h, none⟩) (.inl rfl) _
  have hhl : hs.length = N := (Kd.Q_reads' (Kd.Q_of_R h1)).1.symm
  have hlt : ∀ i, i < N → ∀ k, OB (hs.getD i hd0).1 k → k < wr.heap.size := fun i hi k hk => Kd.R_lt (h3 i hi).2 k (ob_own hk)
  have hA4 : ∀ i, i < N → i ≠ h → ∀ k, OB (hs.getD i hd0).1 k → ¬ OB B k := fun i hi hne k hk hB => by
    rcases hB' k hB with h5 | h5
    · have := h4 i h hi hh hne k hk
      rw [← hhw] at this
      exact this h5
    · have := hlt i hi k hk; omega
  refine ⟨hx', hz', ⟨hs.set h (B, n + 1, d), hset' (B, n + 1, d), by rw [List.length_set]; exact h2, fun i hi => ?_, fun i j hi hj hij k hk => ?_⟩, (hf1.mono (fun k hk => .inr ⟨Kd.R_base e2 k (ob_own hk), e2.1 k (ob_own hk)⟩)).trans' (hf2.mono (fun k hk => .inl hk))⟩
  · rw [getD_set _ _ _ _ _ (by omega), getD_set _ _ _ _ _ (by omega)]
    by_cases e : i = h
    · rw [if_pos e, if_pos e]
      refine ⟨by rw [List.length_append, hm]; rfl, ?_⟩
      exact R_fr1 hR hf2 (typ W' B _ _ _ hs hR h1')
    · rw [if_neg e, if_neg e]
      refine ⟨(h3 i hi).1, ?_⟩
      have h5 : Kd.R fk 5 W' b ok (.slice (hs.getD i hd0).1 (hs.getD i hd0).2.1 (hs.getD i hd0).2.2) (rows.getD i []) := R_fr1 (h3 i hi).2 hf1 (fun k hk hA => by
        have := h4 i h hi hh e k hk
        rw [← hhw] at this
        exact this hA)
      exact R_fr1 h5 hf2 (typ W' _ _ _ _ hs h5 h1')
  · rw [getD_set _ _ _ _ _ (by omega)] at hk ⊢
    by_cases e1' : i = h
    · rw [if_pos e1'] at hk
      rw [if_neg (by omega)]
      exact fun hj' => hA4 j hj (by omega) k hj' hk
    · rw [if_neg e1'] at hk
      by_cases e2' : j = h
      · rw [if_pos e2']
        exact hA4 i hi e1' k hk
      · rw [if_neg e2']
        exact h4 i j hi hj hij k hk
theorem makeN {P : Program} (t e : TypeId) (z : Value) (bytes : Nat) (ht : P.underlying t = some (.slice e)) (hinfo : (P.info? e).map (fun i => (i.zero, i.size, i.bytes)) = some (some z, 1, bytes)) (hz : z.cells = #[z]) (hb : bytes ≤ 1024) (k : Nat) (hk : k ≤ 274877906944) (W : World) :
    (Instr.makeSlice t (.int .i64 (k : Int)) (.int .i64 (k : Int))).run P W = .ok (.slice (some ⟨W.heap.size, 0, none⟩) k k) (W.alloc (.cells (Array.replicate k z) e)) := by
  obtain ⟨i0, hi, hz0, hz1, hz2⟩ := info_parts hinfo
  have hr := run_make (P := P) W t e i0 _ ht hi hz0 .i64 .i64 (k : Int) (k : Int) (by omega) (by omega) (by rw [hz2]; have := Nat.mul_le_mul hb hk; rw [← Int.natCast_mul]; omega) (by omega)
  simp only [Int.toNat_natCast] at hr
  rw [hz1] at hr
  have hzc : madeCells (Value.cells z) (k * 1) = Array.replicate k z := by
    rw [hz]
    apply Array.ext
    · simp [madeCells]
    · intro i h1 h2
      simp [madeCells, Nat.mod_one]
  rw [hzc] at hr
  exact hr
def rowAt (qs : List (List F)) (k j i : Nat) : List F := (qs.take (if i < j then k + 1 else k)).map fun q => ev q (ptF i)
def rowsAt (N : Nat) (qs : List (List F)) (k j : Nat) : List (List F) := (List.range N).map (rowAt qs k j)
def sharesL (N : Nat) (qs : List (List F)) : List (List F) := (List.range N).map fun i => qs.map fun q => ev q (ptF i)
theorem getD_range {α : Type} (f : Nat → α) (N i : Nat) (d : α) (h : i < N) : ((List.range N).map f).getD i d = f i := by
  rw [List.getD_eq_getElem?_getD, List.getElem?_map, List.getElem?_range h]; rfl
theorem rowsAt_get (N : Nat) (qs : List (List F)) (k j i : Nat) (h : i < N) : (rowsAt N qs k j).getD i [] = rowAt qs k j i := getD_range _ _ _ _ h
theorem rowsAt_start (N : Nat) (qs : List (List F)) : rowsAt N qs 0 0 = List.replicate N [] := by
  apply List.ext_getElem
  · simp [rowsAt]
  · intro i h1 h2
    simp [rowsAt, rowAt]
theorem rowsAt_next (N : Nat) (qs : List (List F)) (k : Nat) : rowsAt N qs k N = rowsAt N qs (k + 1) 0 := by
  apply List.ext_getElem
  · simp [rowsAt]
  · intro i h1 h2
    have : i < N := by simpa [rowsAt] using h1
    simp [rowsAt, rowAt, this]
theorem rowsAt_step (N : Nat) (qs : List (List F)) (k j : Nat) (hk : k < qs.length) (hj : j < N) : (rowsAt N qs k j).set j ((rowsAt N qs k j).getD j [] ++ [ev (qs.getD k []) (ptF j)]) = rowsAt N qs k (j + 1) := by
  rw [rowsAt_get _ _ _ _ _ hj]
  apply List.ext_getElem
  · simp [rowsAt]
  · intro i h1 h2
    have hi : i < N := by simpa [rowsAt] using h2
    rw [List.getElem_set]
    by_cases e : j = i
    · subst e
      rw [if_pos rfl]
      simp only [rowsAt, List.getElem_map, List.getElem_range, rowAt]
      rw [if_neg (by omega), if_pos (by omega)]
      exact (map_take_snoc (fun q => ev q (ptF j)) [] qs k hk).symm
    · rw [if_neg e]
      simp only [rowsAt, List.getElem_map, List.getElem_range, rowAt]
      congr 2
      by_cases h3 : i < j
      · rw [if_pos h3, if_pos (by omega)]
      · rw [if_neg h3, if_neg (by omega)]
theorem rowsAt_end (N : Nat) (qs : List (List F)) : rowsAt N qs qs.length 0 = sharesL N qs := by
  apply List.ext_getElem
  · simp [rowsAt, sharesL]
  · intro i h1 h2
    simp [rowsAt, rowAt, sharesL]
theorem rowAt_len (qs : List (List F)) (k j : Nat) (hk : k < qs.length) : (rowAt qs k j j).length = k := by
  simp only [rowAt, List.length_map, List.length_take]
  rw [if_neg (by omega)]
  omega
theorem of_drew {V W : World} (h : Below V.drew.heap.size V.drew W) : Below V.heap.size V W := ⟨h.os, h.tape, h.output, h.size, h.block⟩
set_option maxRecDepth 100000 in
set_option maxHeartbeats 3200000 in
theorem shares_any (w : World) (g N : Nat) (T K E Rm : Int) (A : Option Addr) (n c : Nat) (qs : List (List F)) (hF : Fld w g) (hP : PL w A n qs) (hN : N ≤ 1000) (hn : n ≤ 100000) (hq : ∀ q ∈ qs, q.length ≤ 1099511627776) :
    Calls Try.prog 88 #[.pointer (some ⟨g, 0, none⟩), parV N T K E Rm, .slice A n c] w fun e w' => ∃ b, e = .returned (.slice (some ⟨b, 0, none⟩) N N) ∧ w.heap.size ≤ b ∧ RowsO w' w.heap.size (fun _ => True) b N (sharesL N qs) ∧ Fr (fun _ => False) w w' := by
  have hmk := fun W : World => makeN (P := Try.prog) 37 36 (.slice none 0 0) 24 Try.underlying37 info36' rfl (by omega) N (by omega) W
  have HP := Aside0.mk hP
  have HF := Aside0.mk hF
  have HQ := Aside0.mk hq
  clear hP hF hq
  have hu48 := Try.underlying48
  go_enter Try.func88, Try.ntmps88
  unfold parV
  go_wp2
  obtain ⟨w1, hw1, hz1, a0, hb1⟩ := heap1 w (Obj.cells #[Value.int IntKind.i64 N, Value.int IntKind.i64 T, Value.int IntKind.i64 K, Value.int IntKind.i64 E, Value.int IntKind.i64 Rm] 48)
  obtain ⟨V, hV, hzV, a1, hbV⟩ := heap1 w1 (Obj.cells (Array.replicate N (Value.slice none 0 0)) 36)
  have hR0 : ∀ b, RowsO V b (fun _ => True) w1.heap.size N (List.replicate N []) := fun b => by rw [hV]; exact rows_start w1 b _ N (by omega)
  rw [← hw1, ← hV]
  obtain ⟨s, hs⟩ : ∃ s, s = w.heap.size := ⟨_, rfl⟩
  rw [hz1] at hR0 hzV
  rw [← hs] at a0 hR0 hzV ⊢
  have a0' := blk_below a0 hbV
  have HG : Aside0 (∀ W, Below V.heap.size V W → W.cell? ⟨s, 0, none⟩ = some (.int .i64 N) ∧ W.cell? ⟨s, 1, none⟩ = some (.int .i64 T) ∧ W.cell? ⟨s, 2, none⟩ = some (.int .i64 K) ∧ W.cell? ⟨s, 3, none⟩ = some (.int .i64 E) ∧ W.cell? ⟨s, 4, none⟩ = some (.int .i64 Rm)) :=
    ⟨fun W hW => by
      have h1 := blk_below a0' hW
      exact ⟨cell_at h1 rfl, cell_at h1 rfl, cell_at h1 rfl, cell_at h1 rfl, cell_at h1 rfl⟩⟩
  have HR0 := Aside0.mk hR0
  have HS := Aside0.mk hs
  have HV : Aside0 (Below w.heap.size w V ∧ V.heap.size = s + 2) := ⟨hb1.trans (hbV.mono hb1.size), by omega⟩
  have HA := Aside0.mk (fun W => all_any W N T K E Rm hN)
  have HPT := Aside0.mk (fun W (A : Option Addr) c hC => Points_any W N T K E Rm A N c (List.range N) hC (by omega))
  unfold parV at HA HPT
  clear hw1 hV hR0 hs a0 a0' hb1 hbV hz1 hzV hmk
  obtain ⟨v0, v1, v2, v3, v4⟩ := HG.out V (Below.refl _ _)
  go_region_with (first | (go_at_call 124; refine (HA.out _).mono ?_; rintro e W1 ⟨B1, d1, rfl, hR1, hb1⟩; replace hb1 := of_drew hb1; obtain ⟨u0, u1, u2, u3, u4⟩ := HG.out W1 hb1; replace hR1 := Aside0.mk hR1; replace hb1 := Aside0.mk hb1) | (go_at_call 45; refine (HPT.out _ _ _ (R_C hR1.out)).mono ?_; rintro e W2 ⟨X, dX, rfl, hX, hb2⟩; replace hX := Aside0.mk hX; replace hb2 := Aside0.mk (hb1.out.trans (hb2.mono hb1.out.size))))
  all_goals
    have hrow := rows_fr (HR0.out W2.heap.size) (Fr.of_below hb2.out (fun _ => False))
    rw [← rowsAt_start N qs] at hrow
    have HRW := Aside0.mk hrow
    have HXC := Aside0.mk (R_C hX.out)
    have HBW := Aside0.mk (HV.out.1.trans (hb2.out.mono HV.out.1.size))
    have hsV : s + 2 ≤ W2.heap.size := by have := hb2.out.size; have := HV.out.2; omega
    have HXB : Aside0 (∀ j, OB X j → ¬ j = s + 1) := ⟨fun j hj e => by
      have h1 := (ob_base (Kd.Q_of_R hX.out) j hj).1
      have h2 := hb1.out.size
      have h3 := HV.out.2
      omega⟩
    clear hrow hX hb2 hb1 HR0 HG HA HPT v0 v1 v2 v3 v4 u0 u1 u2 u3 u4 hR1
    have HSV := Aside0.mk hsV
    clear hsV
    go_wp2
    go_loopw [22] (fun v22 wr => ∃ (k : Nat), k ≤ n ∧ v22 = .int .i64 k ∧ Aside0 (RowsO wr W2.heap.size (fun _ => True) (s + 1) N (rowsAt N qs k 0)) ∧ Aside0 (Fr (fun j => j = s + 1) W2 wr)) (fun v22 _ => n - (intOf v22).toNat)
    case atStart => exact ⟨0, by omega, rfl, HRW, ⟨Fr.refl _ _⟩⟩
    case round =>
      clear HRW
      obtain ⟨k, hk, rfl, HR, HFr⟩ := hrel
      have hbw : Below w.heap.size w wr := HBW.out.trans (HFr.out.below HBW.out.size (fun j hj => by have := HS.out; omega))
      by_cases hlt : k < n
      · obtain ⟨ad, Bq, cq, rfl, hcell, hle, hCq⟩ := PL_at (PL_below HP.out hbw) k hlt
        have hqn : qs.length = n := by obtain ⟨_, _, h, _⟩ := HP.out; exact h
        obtain ⟨q, hq⟩ : ∃ q, q = qs.getD k [] := ⟨_, rfl⟩
        rw [← hq] at hcell hle hCq
        have hql : q.length ≤ 1099511627776 := by
          refine HQ.out q ?_
          rw [hq, List.getD_eq_getElem?_getD, List.getElem?_eq_getElem (by omega)]
          exact List.getElem_mem _
        have HE := Aside0.mk (Encode_any wr g Bq X q.length cq N dX q _ (HF.out.fr (Fr.of_below hbw (fun _ => False)) (fun h => h)) hCq (C_fr' HXC.out HFr.out (fun j hj _ => HXB.out j hj)) hql hN)
        obtain ⟨nq, hnq⟩ : ∃ nq, nq = q.length := ⟨_, rfl⟩
        rw [← hnq] at hcell hle HE
        have HQK := Aside0.mk hq
        have HQN := Aside0.mk hqn
        clear hq hqn hCq hql hnq
        go_wp2_with (go_at_call 125; refine HE.out.mono ?_; rintro e W3 ⟨Y, dY, rfl, hY, hbY⟩)
        have HY := Aside0.mk hY
        have HB3 := Aside0.mk hbY
        clear hY hbY
        have HR3 : Aside0 (RowsO W3 W2.heap.size (fun i => i < wr.heap.size ∨ W3.heap.size ≤ i) (s + 1) N (rowsAt N qs k 0)) := ⟨rows_fr (rows_mono HR.out (fun i _ _ hi => .inl hi)) (Fr.of_below HB3.out (fun _ => False))⟩
        have HZ : Aside0 (s + 2 ≤ wr.heap.size ∧ W2.heap.size ≤ W3.heap.size ∧ wr.heap.size ≤ W3.heap.size) := ⟨by
          have h1 := HSV.out
          have h2 := HFr.out.size
          have h3 := HB3.out.size
          omega⟩
        have HF23 : Aside0 (Fr (fun i => i = s + 1) W2 W3) := ⟨HFr.out.below_ HB3.out⟩
        have HYB : Aside0 (∀ i, OB Y i → wr.heap.size ≤ i) := ⟨fun i hi => (ob_base (Kd.Q_of_R HY.out) i hi).1⟩
        have HYC := Aside0.mk (R_C HY.out)
        obtain ⟨zo, hzo⟩ : ∃ zo, zo = wr.heap.size := ⟨_, rfl⟩
        rw [← hzo] at HR3 HZ HYB
        clear HE hbw hzo HY HB3 HR HFr
        go_loopw [31] (fun v31 wr => ∃ (j : Nat), j ≤ N ∧ v31 = .int .i64 j ∧ Aside0 (RowsO wr W2.heap.size (fun i => i < zo ∨ W3.heap.size ≤ i) (s + 1) N (rowsAt N qs k j)) ∧ Aside0 (Fr (fun i => i = s + 1 ∨ (W2.heap.size ≤ i ∧ i < zo)) W3 wr)) (fun v31 _ => N - (intOf v31).toNat)
        case atStart => exact ⟨0, by omega, rfl, HR3, ⟨Fr.refl _ _⟩⟩
        case round =>
          clear HR3
          obtain ⟨j, hj, rfl, HRt, HFt⟩ := hrel
          by_cases hjm : j < N
          · have hYt := C_fr' HYC.out HFt.out (fun i hi _ h => by
              have h1 := HYB.out i hi
              have h2 := HZ.out.1
              omega)
            obtain ⟨ay, rfl, hcy⟩ := C_at hYt (Fr.refl (fun _ => False) wr) (fun _ h => h.elim) j hjm
            rw [List.map_map, getD_range _ _ _ _ hjm] at hcy
            have HST := Aside0.mk (rowsAt_step N qs k j (by rw [HQN.out]; exact hlt) hjm)
            rw [← HQK.out] at HST
            have hyv : (ev q ∘ ptF) j = ev q (ptF j) := rfl
            rw [hyv] at hcy
            obtain ⟨y, hy⟩ : ∃ y, y = ev q (ptF j) := ⟨_, rfl⟩
            rw [← hy] at hcy HST
            obtain ⟨A', c', hx, B', d', W', hrun, hx', hz', hR', hF'⟩ := rows_push wr W2.heap.size _ (s + 1) N _ HRt.out (by have := HZ.out; have := HFt.out.size; omega) (fun i hi => .inr (Nat.le_trans HFt.out.size hi)) j hjm y k (by rw [rowsAt_get _ _ _ _ _ hjm]; exact rowAt_len qs k j (by rw [HQN.out]; exact hlt)) (by omega)
            rw [HST.out] at hR'
            have HRUN := Aside0.mk hrun
            have HR' := Aside0.mk hR'
            have HF' : Aside0 (Fr (fun i => i = s + 1 ∨ (W2.heap.size ≤ i ∧ i < zo)) W3 (W'.setCell ⟨s + 1, j, none⟩ (.slice B' (k + 1) d'))) := ⟨HFt.out.trans hF' (fun i hi => by
              rcases hi with h1 | ⟨h1, h2 | h2⟩
              · exact .inl (.inl h1)
              · exact .inl (.inr ⟨h1, h2⟩)
              · exact .inr h2)⟩
            have hjI : (j : Int) < (N : Int) := by omega
            have HYY := Aside0.mk hy
            clear hy hyv hrun hR' hF' hYt
            go_wp2_with (at_builtin; refine wpList_append_run rfl _ _ _ _ rfl rfl rfl HRUN.out ?_)
            go_roundw
            case rel => exact ⟨j + 1, by omega, by go_num, HR', HF'⟩
            case measure => simp [intOf]; omega
          · obtain rfl : j = N := by omega
            have hnx := HRt.out
            rw [rowsAt_next] at hnx
            have HNX : Aside0 (RowsO wr W2.heap.size (fun _ => True) (s + 1) j (rowsAt j qs (k + 1) 0)) := ⟨rows_mono hnx (fun _ _ _ _ => trivial)⟩
            have HFN : Aside0 (Fr (fun i => i = s + 1) W2 wr) := ⟨HF23.out.trans HFt.out (fun i hi => by
              rcases hi with h1 | h1
              · exact .inl h1
              · exact .inr h1.1)⟩
            clear hnx
            go_wp2
            go_roundw
            case rel => exact ⟨k + 1, by omega, by go_num, HNX, HFN⟩
            case measure => simp [intOf]; omega
      · obtain rfl : k = n := by omega
        go_wp2
        go_ret
        obtain ⟨_, _, hqn, _⟩ := HP.out
        refine ⟨s + 1, rfl, by have := HS.out; omega, ?_, (Fr.of_below HBW.out _).trans HFr.out (fun j hj => .inr (by have := HS.out; omega))⟩
        have h1 := HR.out
        rw [← hqn, rowsAt_end] at h1
        exact rows_lower h1 HBW.out.size
end Go.Proofs.Ytpeiejkcoadhfaa
namespace Go.Proofs.Ytpeiejkcoadhfaa
open Go.RowKit Go.Shelf Go.Proofs.YtpeiejkcoadhfaaW.PrintWords Go.Proofs.YtpeiejkcoadhfaaW.PrintMore
open Go.BigFrame
end Go.Proofs.Ytpeiejkcoadhfaa
namespace Go.Proofs.Ytpeiejkcoadhfaa
open Go.RowKit Go.Shelf Go.Proofs.YtpeiejkcoadhfaaW.PrintWords Go.Proofs.YtpeiejkcoadhfaaW.PrintMore
open Go.BigFrame
end Go.Proofs.Ytpeiejkcoadhfaa
namespace Go.Proofs.Ytpeiejkcoadhfaa
open Go.RowKit Go.Shelf Go.Proofs.YtpeiejkcoadhfaaW.PrintWords Go.Proofs.YtpeiejkcoadhfaaW.PrintMore
attribute [local go_sem] Oper.semAt_some
def eachN (T K : Nat) (kind : Int) : Nat := if kind = 1 ∨ kind = 2 then T else if kind = 3 then T + K - 1 else if kind = 4 then T + K else 0
theorem each_f (N T K : Nat) (E Rm kind : Int) (hT : T ≤ 1000) (hK : K ≤ 1000) (hTK : 1 ≤ T + K) (q : Nat) : PDealPoints.deal_each.f (q + 1) N T K E Rm kind = some ((eachN T K kind : Nat) : Int) := by
  have h1 : wrap64 ((T : Int) + (K : Int)) = ((T + K : Nat) : Int) := wr_add T K (by omega)
  have h2 : wrap64 (((T + K : Nat) : Int) - 1) = ((T + K - 1 : Nat) : Int) := by rw [wr_pred _ (by omega)]; omega
  unfold PDealPoints.deal_each.f PDealPoints.deal_each.j0 eachN
  simp only []
  rw [h1, h2]
  by_cases c1 : kind = 1
  · subst c1; simp
  · by_cases c2 : kind = 2
    · subst c2; simp
    · by_cases c3 : kind = 3
      · subst c3; simp
      · by_cases c4 : kind = 4
        · subst c4; simp
        · simp [c1, c2, c3, c4]
theorem each_any (w : World) (N T K : Nat) (E Rm kind : Int) (hT : T ≤ 1000) (hK : K ≤ 1000) (hTK : 1 ≤ T + K) : Calls Try.prog 82 #[parV N T K E Rm, .int .i64 kind] w fun e w' => e = .returned (.int .i64 ((eachN T K kind : Nat) : Int)) ∧ Below w.heap.size w w' :=
  PDealPoints.deal_each.calls 1 _ _ _ _ _ _ _ w (each_f N T K E Rm kind hT hK hTK 0)
theorem eachN_le (T K : Nat) (kind : Int) (hT : T ≤ 1000) (hK : K ≤ 1000) : eachN T K kind ≤ 2000 := by
  unfold eachN; split
  · omega
  · split
    · omega
    · split <;> omega
theorem Need_any (w : World) (N T K : Nat) (E Rm kind : Int) (cols : Nat) (hT : T ≤ 1000) (hK : K ≤ 1000) (hTK : 1 ≤ T + K) (hc : cols ≤ 1099511627776) : Calls Try.prog 49 #[parV N T K E Rm, .int .i64 kind, .int .i64 cols] w fun e w' => e = .returned (.int .i64 ((eachN T K kind * cols : Nat) : Int)) ∧ Below w.heap.size w w' := by
  refine PDealPoints.deal_Need.calls 1 _ _ _ _ _ _ _ _ w ?_
  unfold PDealPoints.deal_Need.f
  rw [each_f N T K E Rm kind hT hK hTK 0]
  simp only [Option.bind_some]
  have h1 := eachN_le T K kind hT hK
  have h2 := Nat.mul_le_mul h1 hc
  rw [← Int.natCast_mul, wr64 _ (by omega) (by omega)]
theorem pieces_any (w : World) (N T K E Rm : Int) (kind cols : Int) (A : Option Addr) (n c : Nat) : Calls Try.prog 84 #[parV N T K E Rm, .int .i64 kind, .int .i64 cols, .slice A n c] w fun e w' =>
    e = .returned (.func (.func 120) #[] #[.pointer (some ⟨w.heap.size, 0, none⟩), .pointer (some ⟨w.heap.size + 1, 0, none⟩), .pointer (some ⟨w.heap.size + 1 + 1, 0, none⟩), .pointer (some ⟨w.heap.size + 1 + 1 + 1, 0, none⟩)]) ∧
    w' = (((w.alloc (.cells #[.int .i64 N, .int .i64 T, .int .i64 K, .int .i64 E, .int .i64 Rm] 48)).alloc (.cells #[.int .i64 kind] 3)).alloc (.cells #[.int .i64 cols] 3)).alloc (.cells #[.slice A n c] 36) := by
  have hu48 := Try.underlying48
  unfold parV
  go_enter Try.func84, Try.ntmps84
  go_wp2
  go_ret
  exact ⟨rfl, rfl⟩
def pieceV (A : Option Addr) (c en j : Nat) : Value := .slice (cutA A c (j * en)) en (c - j * en)
set_option maxRecDepth 100000 in
set_option maxHeartbeats 1600000 in
theorem pieces_seq (S : Nat → Prop) (w : World) (b0 b1 b2 b3 : Nat) (N T K : Nat) (E Rm kind : Int) (cols : Nat) (A : Option Addr) (n c en : Nat) (he : eachN T K kind = en) (hT : T ≤ 1000) (hK : K ≤ 1000) (hTK : 1 ≤ T + K)
    (hn : en * cols ≤ n) (hc : n ≤ c) (hnl : n ≤ 1099511627776) (hcl : cols ≤ 1099511627776)
    (h0 : w.heap[b0]? = some (.cells #[.int .i64 N, .int .i64 T, .int .i64 K, .int .i64 E, .int .i64 Rm] 48 (0, 0))) (h1 : w.heap[b1]? = some (.cells #[.int .i64 kind] 3 (0, 0))) (h2 : w.heap[b2]? = some (.cells #[.int .i64 cols] 3 (0, 0))) (h3 : w.heap[b3]? = some (.cells #[.slice A n c] 36 (0, 0)))
    (s0 : ¬ S b0) (s1 : ¬ S b1) (s2 : ¬ S b2) (s3 : ¬ S b3) :
    SeqF Try.prog 120 #[.pointer (some ⟨b0, 0, none⟩), .pointer (some ⟨b1, 0, none⟩), .pointer (some ⟨b2, 0, none⟩), .pointer (some ⟨b3, 0, none⟩)] (fun (j : Nat) => #[.int .i64 (j : Int), pieceV A c en j]) (fun pre j _ => j = pre.length ∧ j < cols) S (fun xs => xs = List.range cols) w := by
  intro l J W hW hJ hY hJ0
  refine callsIn_of_wp Try.func120 rfl trivial ?_ rfl
  simp only [Try.ntmps120, List.size_toArray, List.length_cons, List.length_nil, Nat.reduceAdd, Nat.reduceSub, Array.replicate_succ, Array.replicate_zero, List.push_toArray, List.append_toArray, List.nil_append, List.cons_append]
  have hnot : ∀ {k : Nat} {o : Obj}, w.heap[k]? = some o → ¬ S k → ¬ (S k ∨ w.heap.size ≤ k) := fun ho hk h => h.elim hk (fun h => by have := blk_lt ho; omega)
  have HC3 : Aside0 (∀ {W1 : World}, Fr (fun k => S k ∨ w.heap.size ≤ k) w W1 → W1.cell? ⟨b3, 0, none⟩ = some (.slice A n c)) := ⟨fun hf => cell_at (hf.blk h3 (hnot h3 s3)) rfl⟩
  have H0 : Aside0 (∀ {W1 : World}, Below w.heap.size w W1 → W1.cell? ⟨b0, 0, none⟩ = some (.int .i64 N) ∧ W1.cell? ⟨b0, 1, none⟩ = some (.int .i64 T) ∧ W1.cell? ⟨b0, 2, none⟩ = some (.int .i64 K) ∧ W1.cell? ⟨b0, 3, none⟩ = some (.int .i64 E) ∧ W1.cell? ⟨b0, 4, none⟩ = some (.int .i64 Rm) ∧
      W1.cell? ⟨b1, 0, none⟩ = some (.int .i64 kind) ∧ W1.cell? ⟨b2, 0, none⟩ = some (.int .i64 (cols : Int))) :=
    ⟨fun hb => by
      have g0 := blk_below h0 hb
      exact ⟨cell_at g0 rfl, cell_at g0 rfl, cell_at g0 rfl, cell_at g0 rfl, cell_at g0 rfl, cell_at (blk_below h1 hb) rfl, cell_at (blk_below h2 hb) rfl⟩⟩
  obtain ⟨v0, v1, v2, v3, v4, v5, v6⟩ := H0.out hW
  have HEA := Aside0.mk (each_any W N T K E Rm kind hT hK hTK)
  rw [he] at HEA
  have HW := Aside0.mk hW
  have HY := Aside0.mk hY
  have HJ := Aside0.mk hJ
  have HJ0 := Aside0.mk hJ0
  unfold parV at HEA
  clear hnot h0 h1 h2 h3 hW hY hJ hJ0 he
  have hu48 := Try.underlying48
  gi_wp2_with (refine ⟨trivial, ?_⟩; gi_at_call 82; refine (callsIn_wide.2 HEA.out).mono ?_; rintro e W1 ⟨rfl, hb1⟩; obtain ⟨_, _, _, _, _, _, v7⟩ := H0.out (HW.out.trans (hb1.mono HW.out.size)); replace hb1 := Aside0.mk hb1)
  have HB1 := Aside0.mk (HW.out.trans (hb1.out.mono HW.out.size))
  have HJ1 := Aside0.mk (HJ.out _ _ _ HJ0.out hb1.out)
  clear v0 v1 v2 v3 v4 v5 v6 v7 H0 HJ0 hb1 HW
  gi_loopw [12] (fun v12 wr => ∃ (j : Nat), j ≤ cols ∧ v12 = .int .i64 j ∧ Aside0 (J (List.range j) wr) ∧ Aside0 (Fr (fun k => S k ∨ w.heap.size ≤ k) w wr)) (fun v12 _ => cols - (intOf v12).toNat)
  case atStart => exact ⟨0, by omega, rfl, HJ1, ⟨Fr.of_below HB1.out _⟩⟩
  case round =>
    clear HJ1 HB1
    obtain ⟨j, hj, rfl, HJR, HFR⟩ := hrel
    by_cases hlt : j < cols
    · have c3 := HC3.out HFR.out
      have hm1 : j * en + en ≤ n := by
        have h1 := Nat.mul_le_mul_left en (show j + 1 ≤ cols from hlt)
        rw [Nat.mul_add, Nat.mul_one] at h1
        rw [Nat.mul_comm j en]
        omega
      have w1 : IntKind.i64.wrap ((j : Int) * (en : Int)) = ((j * en : Nat) : Int) := by
        rw [← Int.natCast_mul, IntWalk.i64_in _ ⟨by omega, by omega⟩]
      have w2 : IntKind.i64.wrap (((j : Int) + 1) * (en : Int)) = ((j * en + en : Nat) : Int) := by
        have : ((j : Int) + 1) * (en : Int) = ((j * en + en : Nat) : Int) := by
          rw [Int.add_mul, Int.one_mul]; omega
        rw [this, IntWalk.i64_in _ ⟨by omega, by omega⟩]
      have w3 : IntKind.i64.wrap ((j : Int) + 1) = (j : Int) + 1 := IntWalk.i64_in _ ⟨by omega, by omega⟩
      have hcut : ∀ W : World, (Instr.slice 36 (.slice A n c) (some (.int .i64 ((j * en : Nat) : Int))) (some (.int .i64 ((j * en + en : Nat) : Int))) none).run Try.prog W = .ok (pieceV A c en j) W := fun W => by
        obtain ⟨f, hi, _, hs, _⟩ := info_parts info5
        have := mid_run (P := Try.prog) 36 5 Try.underlying36 hi hs A n c (j * en) (j * en + en) (by omega) hm1 hc W
        rw [Nat.add_sub_cancel_left] at this
        exact this
      obtain ⟨fn, tmps, assign, body, hy, hR⟩ := HY.out (List.range j) j wr HJR.out ⟨by simp, hlt⟩
      have hy' : (Instr.yield l #[.int .i64 (j : Int), pieceV A c en j]).run Try.prog wr = .ok (.round l fn tmps assign body) wr := hy
      obtain ⟨V, hV⟩ : ∃ V, V = pieceV A c en j := ⟨_, rfl⟩
      rw [← hV] at hy' hcut
      generalize j * en = lo at *
      generalize lo + en = hi at *
      have HV := Aside0.mk hV
      clear hy hV
      gi_wp2
      refine hR.mono ?_
      rintro ee W' ⟨rfl, hj', hf'⟩
      have HF' := Aside0.mk (HFR.out.trans' hf')
      have HJ' := Aside0.mk hj'
      clear hj' hf'
      gi_wp2
      go_roundw
      case rel => exact ⟨j + 1, by omega, by go_num, ⟨by rw [List.range_succ]; exact HJ'.out⟩, HF'⟩
      case measure => simp only [intOf]; omega
    · gi_wp2
      go_end0
      obtain rfl : j = cols := by omega
      exact ⟨⟨_, rfl⟩, _, rfl, HJR.out⟩
end Go.Proofs.Ytpeiejkcoadhfaa
