/- What the view's laws take, Vt21: PzJ. -/
import Derived.Test.YtpeiejkcoadhfaaVt20
set_option linter.all false
namespace Go.Proofs.Ytpeiejkcoadhfaa
open Go.RowKit Go.Shelf Go.Proofs.YtpeiejkcoadhfaaW.PrintWords Go.Proofs.YtpeiejkcoadhfaaW.PrintMore
open Go.BigFrame
attribute [local go_sem] Oper.semAt_some
theorem operIn_append {F : Fence} {n : Nat} {P : Program} {o : Oper} {a : Act} {K : Act → World → Prop} {Q : Exit → Act → World → Prop} {w w' : World} {v y v' : Value} (s x : Operand) (t t' : TypeId)
    (ho : o.op = .call { callee := .builtin .append, args := #[s, x], argTypes := #[t, t'] }) (hs : a.eval s = v) (hx : a.eval x = y) (hrun : (Builtin.append_ #[t, t'] o.type #[v, y]).run P w = .ok v' w')
    (h : K (a.put o.dst v') w') : o.wpIn F n P a w K Q := by
  unfold Oper.wpIn
  refine ⟨?_, ?_⟩
  · simp [Oper.about, ho, resolve, Target.leads, Sem.run_pure]
  · rw [Oper.semAt_plain F _ _ (by rw [ho]; intro c hc'; cases hc')]
    simp only [execOp, ho, resolve, invoke, builtin, Sem.run_bind, Sem.run_pure, Result.andThen_ok, List.map_toArray, List.map_cons, List.map_nil, hs, hx, hrun]
    exact h
def NoRow (S : Nat → Prop) (b : Nat) (W : World) : Prop := ∀ k, b ≤ k → S k → ∀ cells t, W.heap[k]? = some (.cells cells t (0, 0)) → t ≠ 5 ∧ t ≠ 36
theorem RF_noRow {S : Nat → Prop} {W W1 : World} {b : Nat} {B : Option Addr} {q : List F} (h : RF W b B q) (hf : Fr S W W1) (hS : ∀ k, b ≤ k → S k → ∀ cells t, W.heap[k]? = some (.cells cells t (0, 0)) → t ≠ 5) : RF W1 b B q := by
  have hn : 0 < q.length → ∀ j, OB B j → ¬ S j := fun hp j hj hs => by
    obtain ⟨h1, cells, h2⟩ := h.2 hp j hj
    exact hS j h1 hs cells 5 h2 rfl
  refine ⟨C_fr' h.1 hf (fun j hj hp => hn hp j hj), fun hp j hj => ?_⟩
  obtain ⟨h1, cells, h2⟩ := h.2 hp j hj
  exact ⟨h1, cells, hf.blk h2 (hn hp j hj)⟩
def PolyI (W : World) (b : Nat) (v : Value) (qs : List (List F)) : Prop :=
  ∃ hs : List Hd, Kd.R kh 36 W b (fun _ => True) v hs ∧ hs.length = qs.length ∧ ∀ i, i < qs.length → ∃ B, hs.getD i hd0 = (B, (qs.getD i []).length, (qs.getD i []).length) ∧ RF W b B (qs.getD i [])
theorem poly_nil (W : World) (b : Nat) : PolyI W b (.slice none 0 0) [] := ⟨[], Kd.R_nil _ _ _ _ _, rfl, fun i hi => absurd hi (by simp)⟩
theorem poly_fr {S : Nat → Prop} {W W1 : World} {b : Nat} {v : Value} {qs : List (List F)} (h : PolyI W b v qs) (hf : Fr S W W1) (hS : NoRow S b W) : PolyI W1 b v qs := by
  obtain ⟨hs, h1, h2, h3⟩ := h
  obtain ⟨A, c, rfl⟩ := Kd.R_slice h1
  refine ⟨hs, R_fr1 h1 hf (fun k hk hs' => ?_), h2, fun i hi => ?_⟩
  · obtain ⟨cells, hc⟩ := Kd.R_typed h1 k (ob_own hk)
    exact (hS k (ob_base (Kd.Q_of_R h1) k hk).1 hs' cells 36 hc).2 rfl
  · obtain ⟨B, e, hr⟩ := h3 i hi
    exact ⟨B, e, RF_noRow hr hf (fun k hk hs' cells t hc => (hS k hk hs' cells t hc).1)⟩
theorem poly_slice {W : World} {b : Nat} {v : Value} {qs : List (List F)} (h : PolyI W b v qs) : ∃ A c, v = .slice A qs.length c := by
  obtain ⟨hs, h1, h2, _⟩ := h
  obtain ⟨A, c, e⟩ := Kd.R_slice h1
  exact ⟨A, c, by rw [← h2]; exact e⟩
theorem poly_PL {W : World} {b c : Nat} {A : Option Addr} {n : Nat} {qs : List (List F)} (h : PolyI W b (.slice A n c) qs) : PL W A n qs := by
  obtain ⟨hs, h1, h2, h3⟩ := h
  have h4 := Kd.R_reads' h1
  have hn : n = qs.length := by rw [← h2]; exact h4.1
  refine ⟨hs, R_C h1, hn.symm, fun i hi => ?_⟩
  obtain ⟨B, e, hr⟩ := h3 i (by omega)
  rw [e]
  exact ⟨rfl, Nat.le_refl _, hr.1⟩
theorem no_none (b : Nat) (W : World) : NoRow (fun _ => False) b W := fun _ _ h => h.elim
theorem getD_app {α : Type} (l : List α) (x d : α) (i : Nat) : (l ++ [x]).getD i d = if i < l.length then l.getD i d else if i = l.length then x else d := by
  rw [List.getD_eq_getElem?_getD, List.getD_eq_getElem?_getD, List.getElem?_append]
  by_cases h : i < l.length
  · rw [if_pos h, if_pos h]
  · rw [if_neg h, if_neg h]
    by_cases e : i = l.length
    · rw [if_pos e, e, Nat.sub_self]; rfl
    · rw [if_neg e, List.getElem?_eq_none (by simp; omega)]; rfl
theorem poly_push (wr : World) (b : Nat) (v : Value) (qs : List (List F)) (H : PolyI wr b v qs) (hb : b ≤ wr.heap.size) (B : Option Addr) (q : List F) (hB : RF wr b B q) (m : Nat) (hm : qs.length = m) (hml : m ≤ 1099511627776) :
    ∃ B' d' W', (Builtin.append_ #[37, 37] 37 #[v, .slice (some ⟨wr.heap.size, 0, none⟩) 1 1]).run Try.prog (wr.alloc (.cells #[.slice B q.length q.length] 36)) = .ok (.slice B' (m + 1) d') W' ∧ PolyI W' b (.slice B' (m + 1) d') (qs ++ [q]) ∧ Fr (fun k => b ≤ k ∧ v.ownBlock = some k) wr W' := by
  subst hm
  obtain ⟨hs, h1, h2, h3⟩ := H
  have hb1 : Below wr.heap.size wr (wr.alloc (.cells #[encHd (B, q.length, q.length)] 36)) := below_alloc (Below.refl _ _) _
  have hlit : Kd.R kh 36 (wr.alloc (.cells #[encHd (B, q.length, q.length)] 36)) wr.heap.size (fun _ => True) (.slice (some ⟨wr.heap.size, 0, none⟩) 1 1) [(B, q.length, q.length)] :=
    Kd.R_of_own (own_lit_of wr wr.heap.size 36 [(B, q.length, q.length)] (Nat.le_refl _) (by simp)) (fun _ _ => trivial)
  have hr := R_fr h1 (Fr.of_below hb1 (fun _ => False)) (fun _ _ _ _ h => h)
  obtain ⟨v', W', hrun, hR, hgr, hat⟩ := R_append_row (P := Try.prog) encHd hd0 (wr.alloc (.cells #[encHd (B, q.length, q.length)] 36)) b 37 37 36 (.slice none 0 0) 24 Try.underlying37 info36' rfl (ys := [(B, q.length, q.length)]) (c := 1) hr (R_C hlit) (by simp only [List.length_cons, List.length_nil]; omega) (by omega) (Nat.le_trans hb hb1.size) (fun _ _ => trivial)
  obtain ⟨B', d', rfl⟩ := Kd.R_slice hR
  rw [List.length_append, h2] at hrun hR
  have hf : Fr (fun k => b ≤ k ∧ v.ownBlock = some k) wr W' := (Fr.of_below hb1 _).trans (Fr.of_grown hgr (fun k hk => .inl ⟨Kd.R_base h1 k hk, hk⟩)) (fun k hk => .inl hk)
  have hno : ∀ k, b ≤ k → (b ≤ k ∧ v.ownBlock = some k) → ∀ cells t, wr.heap[k]? = some (.cells cells t (0, 0)) → t ≠ 5 := fun k _ hk cells t hc => by
    obtain ⟨c2, hc2⟩ := Kd.R_typed h1 k hk.2
    rw [hc] at hc2
    injection hc2 with hc2
    injection hc2 with _ hc2
    rw [hc2]
    decide
  refine ⟨B', d', W', hrun, ⟨hs ++ [(B, q.length, q.length)], hR, by simp [h2], fun i hi => ?_⟩, hf⟩
  rw [List.length_append, List.length_cons, List.length_nil] at hi
  rw [getD_app, getD_app, h2]
  by_cases e : i < qs.length
  · rw [if_pos e, if_pos e]
    obtain ⟨B0, e0, hr0⟩ := h3 i e
    exact ⟨B0, e0, RF_noRow hr0 hf hno⟩
  · rw [if_neg e, if_neg e, if_pos (by omega), if_pos (by omega)]
    exact ⟨B, rfl, RF_noRow hB hf hno⟩
def pieceL (rnd : List F) (en j : Nat) : List F := (rnd.drop (j * en)).take en
def dealtL (cols en : Nat) (fs rnd : List F) : List (List F) := (List.range cols).map fun j => trimP (mulP fs (pieceL rnd en j))
theorem piece_C {W : World} {A : Option Addr} {n c en j : Nat} {rnd : List F} (h : Kd.C fk W A n rnd) (hj : j * en + en ≤ n) (hc : n ≤ c) : Kd.C fk W (cutA A c (j * en)) en (pieceL rnd en j) := by
  have := mid_C (0 : F) c (j * en) (j * en + en) h (by omega) hj hc
  rw [Nat.add_sub_cancel_left] at this
  exact this
theorem dealt_no (w : World) (g N T K : Nat) (E Rm kind : Int) (cols : Nat) (A X : Option Addr) (n c nf cf' : Nat) (hT : T ≤ 1000) (hK : K ≤ 1000) (hTK : 1 ≤ T + K) (hcl : cols ≤ 1099511627776) (hn : n ≠ eachN T K kind * cols) :
    Calls Try.prog 93 #[.pointer (some ⟨g, 0, none⟩), parV N T K E Rm, .int .i64 kind, .int .i64 cols, .slice A n c, .slice X nf cf'] w fun e w' => e = .returned (.tuple #[.slice none 0 0, .bool false]) ∧ Fr (fun _ => False) w w' := by
  have HN := Aside0.mk (fun W => Need_any W N T K E Rm kind cols hT hK hTK hcl)
  obtain ⟨m, hm⟩ : ∃ m, m = eachN T K kind * cols := ⟨_, rfl⟩
  rw [← hm] at HN hn
  have hne : ((n : Int) != (m : Int)) = true := by simp; omega
  clear hm
  have hu48 := Try.underlying48
  unfold parV at *
  go_enter Try.func93, Try.ntmps93
  go_wp2_with (go_at_call 49; refine (HN.out _).mono ?_; rintro e W1 ⟨rfl, hb1⟩; replace hb1 := Aside0.mk hb1)
  go_ret2
  exact ⟨rfl, ((((Fr.refl _ w).alloc _).alloc _).alloc _).below_ hb1.out⟩
theorem rows_frS {S : Nat → Prop} {W W1 : World} {b : Nat} {ok : Nat → Prop} {g N : Nat} {rows : List (List F)} (h : RowsO W b ok g N rows) (hf : Fr S W W1) (hS : ∀ k, S k → k < b ∧ k ≠ g) : RowsO W1 b ok g N rows := by
  obtain ⟨hs, h1, h2, h3, h4⟩ := h
  exact ⟨hs, R_fr h1 hf (fun k hk _ _ h => (hS k h).2 hk), h2, fun i hi => ⟨(h3 i hi).1, R_fr (h3 i hi).2 hf (fun k _ hk _ h => by have := (hS k h).1; omega)⟩, h4⟩
def DealI (f : Nat → List F) (w2 : World) (o : Nat) (pre : List Nat) (W : World) : Prop := ∃ v, W.heap[o]? = some (.cells #[v] 37 (0, 0)) ∧ PolyI W (w2.heap.size + 2) v (pre.map f) ∧ Fr (fun j => j = o) w2 W
theorem dealI_abd (f : Nat → List F) (w2 : World) (o : Nat) (ho : o < w2.heap.size) : Abd w2.heap.size (DealI f w2 o) := by
  rintro pre W W' ⟨v, hv, hr, hf⟩ hk
  refine ⟨v, hk.blk hv (fun h => by omega), poly_fr hr hk ?_, hf.trans hk (fun k h => .inr h.1)⟩
  rintro k _ ⟨_, o', ho', hc⟩ cells t hc'
  rw [hc'] at ho'
  injection ho' with ho'
  subst ho'
  simp [Obj.isCells] at hc
set_option maxRecDepth 100000 in
set_option maxHeartbeats 3200000 in
theorem dealt_yes (w : World) (g N T K : Nat) (E Rm kind : Int) (cols : Nat) (A X : Option Addr) (n c nf cf' : Nat) (rnd fs : List F) (hF : Fld w g) (hr : Kd.C fk w A n rnd) (hf : Kd.C fk w X nf fs) (hc : n ≤ c) (hN : N ≤ 1000) (hT : T ≤ 1000) (hK : K ≤ 1000) (hTK : 1 ≤ T + K) (hcl : cols ≤ 100000) (hn : n = eachN T K kind * cols) (hnf : nf ≤ 1000000) :
    Calls Try.prog 93 #[.pointer (some ⟨g, 0, none⟩), parV N T K E Rm, .int .i64 kind, .int .i64 cols, .slice A n c, .slice X nf cf'] w fun e w' => ∃ b, e = .returned (.tuple #[.slice (some ⟨b, 0, none⟩) N N, .bool true]) ∧ w.heap.size ≤ b ∧ RowsO w' w.heap.size (fun _ => True) b N (sharesL N (dealtL cols (eachN T K kind) fs rnd)) ∧ Fr (fun _ => False) w w' := by
  have HN := Aside0.mk (fun W => Need_any W N T K E Rm kind cols hT hK hTK (by omega))
  have henl := eachN_le T K kind hT hK
  obtain ⟨en, hen⟩ : ∃ en, en = eachN T K kind := ⟨_, rfl⟩
  rw [← hen] at HN hn henl ⊢
  have hnl : n ≤ 200000000 := by rw [hn]; have := Nat.mul_le_mul henl hcl; omega
  rw [← hn] at HN
  have HPC := Aside0.mk (fun W => pieces_any W N T K E Rm kind cols A n c)
  have HR := Aside0.mk hr
  have HX := Aside0.mk hf
  have HF := Aside0.mk hF
  have HEN := Aside0.mk hen
  have HNN := Aside0.mk hn
  have hu48 := Try.underlying48
  unfold parV at *
  have hne : ((n : Int) != (n : Int)) = false := by simp
  obtain ⟨w0, hw0, hz0, a0, a1, a2, hb0⟩ := heap3 w (Obj.cells #[Value.pointer (some { block := g, off := 0 })] 23) (Obj.cells #[Value.int IntKind.i64 ↑N, Value.int IntKind.i64 ↑T, Value.int IntKind.i64 ↑K, Value.int IntKind.i64 E, Value.int IntKind.i64 Rm] 48) (Obj.cells #[Value.slice X nf cf'] 36)
  have HA0 := Aside0.mk a0
  have HA1 := Aside0.mk a1
  have HA2 := Aside0.mk a2
  have HB0 := Aside0.mk hb0
  have HZ0 := Aside0.mk hz0
  have HW0 := Aside0.mk hw0
  have HG : Aside0 (∀ W, Below w0.heap.size w0 W → W.cell? ⟨w.heap.size + 1, 0, none⟩ = some (.int .i64 N) ∧ W.cell? ⟨w.heap.size + 1, 1, none⟩ = some (.int .i64 T) ∧ W.cell? ⟨w.heap.size + 1, 2, none⟩ = some (.int .i64 K) ∧ W.cell? ⟨w.heap.size + 1, 3, none⟩ = some (.int .i64 E) ∧ W.cell? ⟨w.heap.size + 1, 4, none⟩ = some (.int .i64 Rm)) :=
    ⟨fun W hW => by
      have h1 := blk_below a1 hW
      exact ⟨cell_at h1 rfl, cell_at h1 rfl, cell_at h1 rfl, cell_at h1 rfl, cell_at h1 rfl⟩⟩
  have HENL := Aside0.mk henl
  clear hr hf hF hen hn a0 a1 a2 hb0 hz0 hw0 henl
  refine (callsIn_wide (n := 3)).1 (callsIn_of_wp_marks Try.func93 rfl trivial ?_ rfl)
  simp only [Try.ntmps93, List.size_toArray, List.length_cons, List.length_nil, Nat.reduceAdd, Nat.reduceSub, Array.replicate_succ, Array.replicate_zero, List.push_toArray, List.append_toArray, List.nil_append, List.cons_append]
  gi_wp2_with (first | (refine ⟨trivial, ?_⟩; gi_at_call 49; refine (callsIn_wide.2 (HN.out _)).mono ?_; rintro e W1 ⟨rfl, hb1⟩; rw [← HW0.out] at hb1; obtain ⟨u0, u1, u2, u3, u4⟩ := HG.out W1 hb1; obtain ⟨v0, v1, v2, v3, v4⟩ := HG.out (W1.alloc (.cells #[.slice none 0 0] 37)) (below_then hb1 hb1.size (below_alloc (Below.refl _ W1) _)); replace hb1 := Aside0.mk hb1) | (refine ⟨trivial, ?_⟩; gi_at_call 84; refine (callsIn_wide.2 (HPC.out _)).mono ?_; rintro e W' ⟨rfl, rfl⟩))
  obtain ⟨wA, hwA, hzA, a3, hbA⟩ := heap1 W1 (Obj.cells #[Value.slice none 0 0] 37)
  obtain ⟨w2, hw2, hz2, a4, a5, a6, a7, hb2⟩ := heap4 wA (Obj.cells #[Value.int IntKind.i64 ↑N, Value.int IntKind.i64 ↑T, Value.int IntKind.i64 ↑K, Value.int IntKind.i64 E, Value.int IntKind.i64 Rm] 48) (Obj.cells #[Value.int IntKind.i64 kind] 3) (Obj.cells #[Value.int IntKind.i64 ↑cols] 3) (Obj.cells #[Value.slice A n c] 36)
  rw [← hwA, ← hw2]
  obtain ⟨s, hs⟩ : ∃ s, s = w.heap.size := ⟨_, rfl⟩
  obtain ⟨o, ho⟩ : ∃ o, o = W1.heap.size := ⟨_, rfl⟩
  have hz1 : wA.heap.size = o + 1 := by omega
  have hb02 : Below w0.heap.size w0 w2 := hb1.out.trans ((hbA.trans (hb2.mono hbA.size)).mono hb1.out.size)
  have hbw2 : Below w.heap.size w w2 := HB0.out.trans (hb02.mono HB0.out.size)
  have b0 := blk_below HA0.out hb02
  have b2 := blk_below HA2.out hb02
  have b3 := blk_below a3 hb2
  have hos : s + 1 + 1 < o := by have := hb1.out.size; have := HZ0.out; omega
  have hgs : g < s := by have := fld_lt HF.out; omega
  have hz4 : w2.heap.size = o + 1 + 1 + 1 + 1 + 1 := by omega
  rw [hz1] at a4 a5 a6 a7
  rw [← ho] at b3 ⊢
  rw [← hs] at b0 b2 ⊢
  have HBW := Aside0.mk hbw2
  have HB02 := Aside0.mk hb02
  have HO02 : Aside0 (w0.heap.size ≤ o) := ⟨by have := hb1.out.size; omega⟩
  have HS := Aside0.mk hs
  clear hwA hw2 hzA hz2 hs ho hz1 u0 u1 u2 u3 u4 v0 v1 v2 v3 v4 hbA hb2 hb02 hbw2 a3
  refine range_fr (P := Try.prog) (gf := 120) (lb := #[.pointer (some ⟨o + 1, 0, none⟩), .pointer (some ⟨o + 1 + 1, 0, none⟩), .pointer (some ⟨o + 1 + 1 + 1, 0, none⟩), .pointer (some ⟨o + 1 + 1 + 1 + 1, 0, none⟩)]) rfl (fun _ _ => rfl) (encs := fun (j : Nat) => #[.int .i64 (j : Int), pieceV A c en j]) (Rel := fun pre j _ => j = pre.length ∧ j < cols) (S := fun j => j = o) (Full := fun xs => xs = List.range cols)
    (pieces_seq _ w2 (o + 1) (o + 1 + 1) (o + 1 + 1 + 1) (o + 1 + 1 + 1 + 1) N T K E Rm kind cols A n c en HEN.out.symm hT hK hTK (by rw [HNN.out]; exact Nat.le_refl _) hc (by omega) (by omega) a4 a5 a6 a7 (by omega) (by omega) (by omega) (by omega)) (fun _ => rfl) (fun j hj => by omega)
    (DealI (fun j => trimP (mulP fs (pieceL rnd en j))) w2 o) (dealI_abd _ _ _ (by omega)) (fun pre x W W' h _ => h) ⟨_, b3, poly_nil _ _, Fr.refl _ _⟩
    (fun j => { tmps := #[Value.pointer (some { block := g, off := 0 }), Value.agg #[Value.int IntKind.i64 ↑N, Value.int IntKind.i64 ↑T, Value.int IntKind.i64 ↑K, Value.int IntKind.i64 E, Value.int IntKind.i64 Rm], Value.int IntKind.i64 kind, Value.int IntKind.i64 ↑cols, Value.slice A n c, Value.slice X nf cf', Value.pointer (some { block := s, off := 0 }), Value.pointer (some { block := s + 1, off := 0 }), undef, undef, undef, Value.pointer (some { block := s + 1 + 1, off := 0 }), Value.slice none 0 0, Value.bool false,
          Value.pointer (some { block := o, off := 0 }), undef, pieceV A c en j, Value.slice A n c, Value.int IntKind.i64 ↑n, Value.agg #[Value.int IntKind.i64 ↑N, Value.int IntKind.i64 ↑T, Value.int IntKind.i64 ↑K, Value.int IntKind.i64 E, Value.int IntKind.i64 Rm], Value.int IntKind.i64 kind, Value.int IntKind.i64 ↑cols, Value.int IntKind.i64 ↑n, Value.bool false, Value.agg #[Value.int IntKind.i64 ↑N, Value.int IntKind.i64 ↑T, Value.int IntKind.i64 ↑K, Value.int IntKind.i64 E, Value.int IntKind.i64 Rm], Value.int IntKind.i64 kind, Value.int IntKind.i64 ↑cols, Value.slice A n c,
          Value.func (Fn.func 120) #[] #[Value.pointer (some { block := o + 1, off := 0 }), Value.pointer (some { block := o + 1 + 1, off := 0 }), Value.pointer (some { block := o + 1 + 1 + 1, off := 0 }), Value.pointer (some { block := o + 1 + 1 + 1 + 1, off := 0 })], .int .i64 (j : Int), pieceV A c en j, undef, undef, undef, undef, undef, undef, undef, undef, undef, undef, undef], defers := [] }) ?_ ?_ ?_
  · intro l pre j W K hr hK
    clear hr
    rw [zip2]
    gi_wp2
    exact hK
  · rintro l pre j W hsz ⟨v, hv, hp, hf⟩ ⟨hj, hlt⟩
    obtain ⟨Bv, dv, rfl⟩ := poly_slice hp
    rw [List.length_map, ← hj] at hv
    have hp' := hp
    rw [List.length_map, ← hj] at hp'
    have c0 : W.cell? ⟨s, 0, none⟩ = some (.pointer (some ⟨g, 0, none⟩)) := cell_at (hf.blk b0 (by omega)) rfl
    have c2 : W.cell? ⟨s + 1 + 1, 0, none⟩ = some (.slice X nf cf') := cell_at (hf.blk b2 (by omega)) rfl
    have c3 : W.cell? ⟨o, 0, none⟩ = some (.slice Bv j dv) := cell_at hv rfl
    have hbW : Below w.heap.size w W := HBW.out.trans (hf.below HBW.out.size (fun k hk => by have := HS.out; omega))
    have hjn : j * en + en ≤ n := by
      have h1 := Nat.mul_le_mul_left en (show j + 1 ≤ cols from hlt)
      rw [Nat.mul_add, Nat.mul_one] at h1
      rw [Nat.mul_comm j en, HNN.out]
      omega
    obtain ⟨q, hq⟩ : ∃ q, q = trimP (mulP fs (pieceL rnd en j)) := ⟨_, rfl⟩
    have HMU := Aside0.mk (MulP_any W.drew g X (cutA A c (j * en)) nf en cf' (c - j * en) fs (pieceL rnd en j) ((HF.out.fr (Fr.of_below hbW (fun _ => False)) (fun h => h)).fr ((Fr.refl (fun _ => False) W).drew) (fun h => h)) (Kd.C_below (Kd.C_below HX.out hbW) (below_drew (Below.refl _ W))) (piece_C (Kd.C_below (Kd.C_below HR.out hbW) (below_drew (Below.refl _ W))) hjn hc) (by omega))
    rw [← hq] at HMU
    have HPU : Aside0 (∀ D W3, RF W3 W.drew.heap.size D q → Fr (fun _ => False) W.drew W3 → W3.cell? ⟨o, 0, none⟩ = some (.slice Bv j dv) ∧ (W3.alloc (.cells #[.slice D q.length q.length] 36)).cell? ⟨o, 0, none⟩ = some (.slice Bv j dv) ∧
        ∃ B' d' W4, (Builtin.append_ #[37, 37] 37 #[.slice Bv j dv, .slice (some ⟨W3.heap.size, 0, none⟩) 1 1]).run Try.prog (W3.alloc (.cells #[.slice D q.length q.length] 36)) = .ok (.slice B' (j + 1) d') W4 ∧ W4.cell? ⟨o, 0, none⟩ = some (.slice Bv j dv) ∧ W4.frozen? ⟨o, 0, none⟩ = false ∧
          ∀ v', v' = W4.setCell ⟨o, 0, none⟩ (.slice B' (j + 1) d') → Fr (fun k => k = o ∨ w2.heap.size + 2 ≤ k) W v' ∧ DealI (fun j => trimP (mulP fs (pieceL rnd en j))) w2 o (pre ++ [j]) v') := ⟨fun D W3 hD hf3 => by
      have hfW3 : Fr (fun _ => False) W W3 := ((Fr.refl (fun _ => False) W).drew).trans' hf3
      have hv3 := hfW3.blk hv (fun h => h)
      have hvA := blk_alloc hv3 (Obj.cells #[.slice D q.length q.length] 36)
      have hp3 := poly_fr hp' hfW3 (no_none _ _)
      have hWs : w2.heap.size + 2 ≤ W3.heap.size := Nat.le_trans hsz hfW3.size
      obtain ⟨B', d', W4, hrun, hp4, hf4⟩ := poly_push W3 (w2.heap.size + 2) (.slice Bv j dv) _ hp3 hWs D q (RF_lower hD hsz) j (by rw [List.length_map, hj]) (by omega)
      have hv4 := hf4.blk hv3 (fun h => by omega)
      refine ⟨cell_at hv3 rfl, cell_at hvA rfl, B', d', W4, hrun, cell_at hv4 rfl, frozen_at hv4, ?_⟩
      rintro v' rfl
      have hf5 : Fr (fun k => k = o) W4 (W4.setCell ⟨o, 0, none⟩ (.slice B' (j + 1) d')) := (Fr.refl (fun k => k = o) W4).set_ (p := ⟨o, 0, none⟩) (.inl rfl) _
      have hfa : Fr (fun k => k = o ∨ w2.heap.size + 2 ≤ k) W (W4.setCell ⟨o, 0, none⟩ (.slice B' (j + 1) d')) := ((hfW3.mono (fun _ h => h.elim)).trans' (hf4.mono (fun k hk => .inr hk.1))).trans' (hf5.mono (fun k hk => .inl hk))
      refine ⟨hfa, _, blk_set hv4 0 _, ?_, hf.trans hfa (fun k hk => by omega)⟩
      rw [List.map_append, List.map_singleton, ← hq]
      refine poly_fr hp4 hf5 ?_
      rintro k _ rfl cells t hc
      rw [hv4] at hc
      injection hc with hc
      injection hc with _ hc
      rw [← hc]
      decide⟩
    have HJ := Aside0.mk hj
    have HB0' := Aside0.mk b0
    clear hj hq hv hp hp' hf hbW hjn b0 b2 b3 a4 a5 a6 a7 hsz
    unfold pieceV
    have mixed : Try.prog.follows .mixedOrders = true := by kernel_rfl
    gi_wp2
    refine region_inRound l mixed rfl (by kernel_rfl) ?_
    repeat' (first
      | exact AllReadyIn.nil
      | refine wpAnyIn_done (by decide +kernel) ?_ _
      | (refine wpAnyIn_take (i := 3) (v := ?_) rfl rfl (by kernel_rfl) (by decide +kernel) (by decide +kernel) (fun _ _ _ h => h) ⟨Or.inl ⟨by rfl, ?_⟩, fun _ => rfl⟩ ?_; rotate_left 1; focus (intro w; go_simp; (try with_reducible rfl); done))
      | refine wpAnyIn_ready (rs := [0, 1, 2]) (by decide +kernel) (by simp) ?_
      | refine wpAnyIn_ready (rs := [0, 1]) (by decide +kernel) (by simp) ?_
      | refine wpAnyIn_ready (rs := [0, 2]) (by decide +kernel) (by simp) ?_
      | refine wpAnyIn_ready (rs := [1, 2]) (by decide +kernel) (by simp) ?_
      | refine wpAnyIn_ready (rs := [0]) (by decide +kernel) (by simp) ?_
      | refine wpAnyIn_ready (rs := [1]) (by decide +kernel) (by simp) ?_
      | refine wpAnyIn_ready (rs := [2]) (by decide +kernel) (by simp) ?_
      | refine wpAnyIn_ready (rs := [0, 4]) (by decide +kernel) (by simp) ?_
      | refine wpAnyIn_ready (rs := [4]) (by decide +kernel) (by simp) ?_
      | refine wpAnyIn_ready (rs := [0, 5]) (by decide +kernel) (by simp) ?_
      | refine wpAnyIn_ready (rs := [5]) (by decide +kernel) (by simp) ?_
      | refine wpAnyIn_ready (rs := [6]) (by decide +kernel) (by simp) ?_
      | refine wpAnyIn_ready (rs := [7]) (by decide +kernel) (by simp) ?_
      | refine AllReadyIn.cons rfl (fun K hK => ?_) ?_
      | (rw [if_pos (by rfl)]; go_simp; refine ⟨trivial, ?_⟩; gi_at_call 87; refine (callsIn_wide.2 HMU.out).mono ?_; rintro e W3 ⟨D, rfl, hD, hf3⟩; obtain ⟨q0, q1, B', d', W4, hrun, q6, q7, hfin⟩ := HPU.out D W3 hD hf3; replace hrun := Aside0.mk hrun; replace hfin := Aside0.mk hfin; clear hD hf3; go_simp; refine hK _ _ ?_; clear hK K)
      | (rw [if_pos (by rfl)]; refine operIn_append _ _ _ _ rfl rfl rfl hrun.out ?_; refine hK _ _ ?_; clear hK K)
      | (go_simp; refine hK _ _ ?_; clear hK K))
    all_goals (gi_wp2; exact hfin.out _ rfl)
  · rintro zs W hzs ⟨v, hv, hp, hf⟩ hKD
    subst hzs
    obtain ⟨Bv, dv, rfl⟩ := poly_slice hp
    have hdl : ((List.range cols).map fun j => trimP (mulP fs (pieceL rnd en j))) = dealtL cols en fs rnd := rfl
    rw [hdl] at hv hp
    have hdn : (dealtL cols en fs rnd).length = cols := by simp [dealtL]
    have hql : ∀ q ∈ dealtL cols en fs rnd, q.length ≤ 1099511627776 := fun q hq => by
      obtain ⟨j, _, rfl⟩ := List.mem_map.1 hq
      have h1 := Kd.C_len HX.out
      have h2 : (trimP (mulP fs (pieceL rnd en j))).length ≤ nf + en := trim_le (fun i hi => cf_mul_ge fs (pieceL rnd en j) (nf + 1) en (fun k hk => cf_ge _ _ (by omega)) (fun k hk => cf_ge _ _ (by simp [pieceL]; omega)) i (by omega) (by omega))
      have h3 := HENL.out
      omega
    obtain ⟨qs, hqs⟩ : ∃ qs, qs = dealtL cols en fs rnd := ⟨_, rfl⟩
    rw [← hqs] at hv hp hdn hql
    have HQS := Aside0.mk hqs
    clear hqs hdl
    rw [hdn] at hv hp
    have c0 : W.cell? ⟨s, 0, none⟩ = some (.pointer (some ⟨g, 0, none⟩)) := cell_at (hf.blk b0 (by omega)) rfl
    have c3 : W.cell? ⟨o, 0, none⟩ = some (.slice Bv cols dv) := cell_at hv rfl
    have hbW : Below w.heap.size w W := HBW.out.trans (hf.below HBW.out.size (fun k hk => by have := HS.out; omega))
    obtain ⟨u0, u1, u2, u3, u4⟩ := HG.out W (HB02.out.trans (hf.below HB02.out.size (fun k hk => by have := HO02.out; omega)))
    have hsw := HS.out
    rw [← hsw] at u0 u1 u2 u3 u4
    have HSH := Aside0.mk (shares_any W g N T K E Rm Bv cols dv qs (HF.out.fr (Fr.of_below hbW (fun _ => False)) (fun h => h)) (poly_PL hp) hN hcl hql)
    unfold parV at HSH
    obtain ⟨Dd, hDd⟩ : ∃ D, D = w2.heap.size := ⟨_, rfl⟩
    rw [← hDd] at hKD ⊢
    have HKD := Aside0.mk hKD
    have HBWW := Aside0.mk hbW
    have HDD : Aside0 (Dd < W.heap.size ∧ w.heap.size ≤ Dd) := ⟨by have := blk_lt hKD; have := HBW.out.size; omega⟩
    clear hsw hDd hKD hp hv hf hbW b0 b2 b3 a4 a5 a6 a7 hql hdn hz4
    gi_wp2_with (refine ⟨trivial, ?_⟩; gi_at_call 88; refine (callsIn_wide.2 HSH.out).mono ?_; rintro e W3 ⟨b, rfl, hb, hrows, hf3⟩; replace hrows := Aside0.mk hrows; replace hf3 := Aside0.mk hf3; replace hb := Aside0.mk hb)
    refine ⟨by simp, .inl ⟨_, _, rfl, run_takeDeferred (hf3.out.blk HKD.out (fun h => h)), ?_⟩⟩
    have hpf := fr_shut W3 Dd (.deferred none)
    refine ⟨_, results_tmp2 rfl _ _ _, b, rfl, ?_, ?_, ?_⟩
    · have := HBWW.out.size; have := hb.out; omega
    · rw [← HQS.out]
      exact rows_lower (rows_frS hrows.out hpf (fun k hk => by have := HDD.out; have := hb.out; omega)) HBWW.out.size
    · exact ((Fr.of_below HBWW.out _).trans' hf3.out).trans hpf (fun k hk => .inr (by have := HDD.out; omega))
end Go.Proofs.Ytpeiejkcoadhfaa
