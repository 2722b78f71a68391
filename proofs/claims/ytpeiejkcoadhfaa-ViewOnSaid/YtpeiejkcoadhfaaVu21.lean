/- What the view's laws take, Vu21: PzJ. -/
import Derived.Test.YtpeiejkcoadhfaaVu20
set_option linter.all false
namespace Go.Proofs.Ytpeiejkcoadhfaa
open Go.RowKit Go.Shelf Go.Proofs.YtpeiejkcoadhfaaW.PrintWords Go.Proofs.YtpeiejkcoadhfaaW.PrintMore
open Go.BigFrame
attribute [local go_sem] Oper.semAt_some
theorem zbj {F : Fence} {n : Nat} {P : Program} {o : Oper} {a : Act} {K : Act → World → Prop} {Q : Exit → Act → World → Prop} {w w' : World} {v y v' : Value} (s x : Operand) (t t' : TypeId)
 (ho : o.op = .call { callee := .builtin .append, args := #[s, x], argTypes := #[t, t'] }) (hs : a.eval s = v) (hx : a.eval x = y) (hrun : (Builtin.append_ #[t, t'] o.type #[v, y]).run P w = .ok v' w')
 (h : K (a.put o.dst v') w') : o.wpIn F n P a w K Q := by
 unfold Oper.wpIn
 refine ⟨?_, ?_⟩
 ·simp [Oper.about, ho, resolve, Target.leads, Sem.run_pure]
 rw [Oper.semAt_plain F _ _ (by rw [ho]; intro c hc'; cases hc')]
 simp only [execOp, ho, resolve, invoke, builtin, Sem.run_bind, Sem.run_pure, Result.andThen_ok, List.map_toArray, List.map_cons, List.map_nil, hs, hx, hrun]
 exact h
def zhA (S : Nat → Prop) (b : Nat) (W : World) : Prop := ∀ k, b ≤ k → S k → ∀ cells t, W.heap[k]? = some (.cells cells t (0, 0)) → t ≠ 5 ∧ t ≠ 36
theorem jr {S : Nat → Prop} {W W1 : World} {b : Nat} {B : Option Addr} {q : List F} (h : RF W b B q) (hf : Fr S W W1) (hS : ∀ k, b ≤ k → S k → ∀ cells t, W.heap[k]? = some (.cells cells t (0, 0)) → t ≠ 5) : RF W1 b B q := by
 have hn : 0 < q.length → ∀ j, OB B j → ¬ S j := fun hp j hj hs => by
  obtain ⟨h1, cells, h2⟩ := h.2 hp j hj
  exact hS j h1 hs cells 5 h2 rfl
 refine ⟨jc h.1 hf (fun j hj hp => hn hp j hj), fun hp j hj => ?_⟩
 obtain ⟨h1, cells, h2⟩ := h.2 hp j hj
 exact ⟨h1, cells, hf.blk h2 (hn hp j hj)⟩
def zcP (W : World) (b : Nat) (v : Value) (qs : List (List F)) : Prop :=
 ∃ hs : List Hd, Kd.R kh 36 W b (fun _ => True) v hs ∧ hs.length = qs.length ∧ ∀ i, i < qs.length → ∃ B, hs.getD i hd0 = (B, (qs.getD i []).length, (qs.getD i []).length) ∧ RF W b B (qs.getD i [])
theorem zho (W : World) (b : Nat) : zcP W b (.slice none 0 0) [] := ⟨[], Kd.R_nil _ _ _ _ _, rfl, fun i hi => absurd hi (by simp)⟩
theorem zbT {S : Nat → Prop} {W W1 : World} {b : Nat} {v : Value} {qs : List (List F)} (h : zcP W b v qs) (hf : Fr S W W1) (hS : zhA S b W) : zcP W1 b v qs := by
 obtain ⟨hs, h1, h2, h3⟩ := h
 obtain ⟨A, c, rfl⟩ := Kd.R_slice h1
 refine ⟨hs, zdf h1 hf (fun k hk hs' => ?_), h2, fun i hi => ?_⟩
 ·obtain ⟨cells, hc⟩ := Kd.R_typed h1 k (zV hk)
  exact (hS k (jK (Kd.Q_of_R h1) k hk).1 hs' cells 36 hc).2 rfl
 obtain ⟨B, e, hr⟩ := h3 i hi
 exact ⟨B, e, jr hr hf (fun k hk hs' cells t hc => (hS k hk hs' cells t hc).1)⟩
theorem JJ {W : World} {b : Nat} {v : Value} {qs : List (List F)} (h : zcP W b v qs) : ∃ A c, v = .slice A qs.length c := by
 obtain ⟨hs, h1, h2, _⟩ := h
 obtain ⟨A, c, e⟩ := Kd.R_slice h1
 exact ⟨A, c, by rw [← h2]; exact e⟩
theorem zjf {W : World} {b c : Nat} {A : Option Addr} {n : Nat} {qs : List (List F)} (h : zcP W b (.slice A n c) qs) : PL W A n qs := by
 obtain ⟨hs, h1, h2, h3⟩ := h
 have h4 := Kd.R_reads' h1
 have hn : n = qs.length := by rw [← h2]; exact h4.1
 refine ⟨hs, R_C h1, hn.symm, fun i hi => ?_⟩
 obtain ⟨B, e, hr⟩ := h3 i (by omega)
 rw [e]
 exact ⟨rfl, Nat.le_refl _, hr.1⟩
theorem zdw (b : Nat) (W : World) : zhA (fun _ => False) b W := fun _ _ h => h.elim
theorem ZD {α : Type} (l : List α) (x d : α) (i : Nat) : (l ++ [x]).getD i d = if i < l.length then l.getD i d else if i = l.length then x else d := by
 rw [List.getD_eq_getElem?_getD, List.getD_eq_getElem?_getD, List.getElem?_append]
 by_cases h : i < l.length
 ·rw [if_pos h, if_pos h]
 rw [if_neg h, if_neg h]
 by_cases e : i = l.length
 ·rw [if_pos e, e, Nat.sub_self]; rfl
 rw [if_neg e, List.getElem?_eq_none (by simp; omega)]; rfl
theorem zfo (wr : World) (b : Nat) (v : Value) (qs : List (List F)) (H : zcP wr b v qs) (hb : b ≤ wr.heap.size) (B : Option Addr) (q : List F) (hB : RF wr b B q) (m : Nat) (hm : qs.length = m) (hml : m ≤ 1099511627776) :
 ∃ B' d' W', (Builtin.append_ #[37, 37] 37 #[v, .slice (some ⟨wr.heap.size, 0, none⟩) 1 1]).run Try.prog (wr.alloc (.cells #[.slice B q.length q.length] 36)) = .ok (.slice B' (m + 1) d') W' ∧ zcP W' b (.slice B' (m + 1) d') (qs ++ [q]) ∧ Fr (fun k => b ≤ k ∧ v.ownBlock = some k) wr W' := by
 subst hm
 obtain ⟨hs, h1, h2, h3⟩ := H
 have hb1 : Below wr.heap.size wr (wr.alloc (.cells #[ja (B, q.length, q.length)] 36)) := zc (Below.refl _ _) _
 have hlit : Kd.R kh 36 (wr.alloc (.cells #[ja (B, q.length, q.length)] 36)) wr.heap.size (fun _ => True) (.slice (some ⟨wr.heap.size, 0, none⟩) 1 1) [(B, q.length, q.length)] :=
  Kd.R_of_own (yA wr wr.heap.size 36 [(B, q.length, q.length)] (Nat.le_refl _) (by simp)) (fun _ _ => trivial)
 have hr := jo h1 (Fr.of_below hb1 (fun _ => False)) (fun _ _ _ _ h => h)
 obtain ⟨v', W', hrun, hR, hgr, hat⟩ := zR (P := Try.prog) ja hd0 (wr.alloc (.cells #[ja (B, q.length, q.length)] 36)) b 37 37 36 (.slice none 0 0) 24 Try.underlying37 zaa rfl (ys := [(B, q.length, q.length)]) (c := 1) hr (R_C hlit) (by simp only [List.length_cons, List.length_nil]; omega) (by omega) (Nat.le_trans hb hb1.size) (fun _ _ => trivial)
 obtain ⟨B', d', rfl⟩ := Kd.R_slice hR
 rw [List.length_append, h2] at hrun hR
 have hf : Fr (fun k => b ≤ k ∧ v.ownBlock = some k) wr W' := (Fr.of_below hb1 _).trans (Fr.of_grown hgr (fun k hk => .inl ⟨Kd.R_base h1 k hk, hk⟩)) (fun k hk => .inl hk)
 have hno : ∀ k, b ≤ k → (b ≤ k ∧ v.ownBlock = some k) → ∀ cells t, wr.heap[k]? = some (.cells cells t (0, 0)) → t ≠ 5 := fun k _ hk cells t hc => by
  obtain ⟨c2, hc2⟩ := Kd.R_typed h1 k hk.2
  rw [hc] at hc2
  injection hc2 with hc2
  injection hc2 with _ hc2
  rw [hc2]
  decide
 refine ⟨B', d', W', hrun, ⟨hs ++ [(B, q.length, q.length)], hR, by simp [h2], fun i hi => ?_⟩, hf⟩
 rw [List.length_append, List.length_cons, List.length_nil] at hi
 rw [ZD, ZD, h2]
 by_cases e : i < qs.length
 ·rw [if_pos e, if_pos e]
  obtain ⟨B0, e0, hr0⟩ := h3 i e
  exact ⟨B0, e0, jr hr0 hf hno⟩
 rw [if_neg e, if_neg e, if_pos (by omega), if_pos (by omega)]
 exact ⟨B, rfl, jr hB hf hno⟩
def yn (rnd : List F) (en j : Nat) : List F := (rnd.drop (j * en)).take en
def yj (cols en : Nat) (fs rnd : List F) : List (List F) := (List.range cols).map fun j => zj (zB fs (yn rnd en j))
theorem zfU {W : World} {A : Option Addr} {n c en j : Nat} {rnd : List F} (h : Kd.C fk W A n rnd) (hj : j * en + en ≤ n) (hc : n ≤ c) : Kd.C fk W (zaF A c (j * en)) en (yn rnd en j) := by
 have := zot (0 : F) c (j * en) (j * en + en) h (by omega) hj hc
 rw [Nat.add_sub_cancel_left] at this
 exact this
theorem zmu (w : World) (g N T K : Nat) (E Rm kind : Int) (cols : Nat) (A X : Option Addr) (n c nf cf' : Nat) (hT : T ≤ 1000) (hK : K ≤ 1000) (hTK : 1 ≤ T + K) (hcl : cols ≤ 1099511627776) (hn : n ≠ zD T K kind * cols) :
 Calls Try.prog 93 #[.pointer (some ⟨g, 0, none⟩), zv N T K E Rm, .int .i64 kind, .int .i64 cols, .slice A n c, .slice X nf cf'] w fun e w' => e = .returned (.tuple #[.slice none 0 0, .bool false]) ∧ Fr (fun _ => False) w w' := by
 have HN := za.mk (fun W => zaj W N T K E Rm kind cols hT hK hTK hcl)
 obtain ⟨m, hm⟩ : ∃ m, m = zD T K kind * cols := ⟨_, rfl⟩
 rw [← hm] at HN hn
 have hne : ((n : Int) != (m : Int)) = true := by simp; omega
 clear hm
 have hu48 := Try.underlying48
 unfold zv at *
 go_enter Try.func93, Try.ntmps93
 go_wp2_with (go_at_call 49; refine (HN.out _).mono ?_; rintro e W1 ⟨rfl, hb1⟩; replace hb1 := za.mk hb1)
 go_ret2
 exact ⟨rfl, ((((Fr.refl _ w).alloc _).alloc _).alloc _).below_ hb1.out⟩
theorem zhO {S : Nat → Prop} {W W1 : World} {b : Nat} {ok : Nat → Prop} {g N : Nat} {rows : List (List F)} (h : yP W b ok g N rows) (hf : Fr S W W1) (hS : ∀ k, S k → k < b ∧ k ≠ g) : yP W1 b ok g N rows := by
 obtain ⟨hs, h1, h2, h3, h4⟩ := h
 exact ⟨hs, jo h1 hf (fun k hk _ _ h => (hS k h).2 hk), h2, fun i hi => ⟨(h3 i hi).1, jo (h3 i hi).2 hf (fun k _ hk _ h => by have := (hS k h).1; omega)⟩, h4⟩
def zgW (f : Nat → List F) (w2 : World) (o : Nat) (pre : List Nat) (W : World) : Prop := ∃ v, W.heap[o]? = some (.cells #[v] 37 (0, 0)) ∧ zcP W (w2.heap.size + 2) v (pre.map f) ∧ Fr (fun j => j = o) w2 W
theorem zfz (f : Nat → List F) (w2 : World) (o : Nat) (ho : o < w2.heap.size) : Abd w2.heap.size (zgW f w2 o) := by
 rintro pre W W' ⟨v, hv, hr, hf⟩ hk
 refine ⟨v, hk.blk hv (fun h => by omega), zbT hr hk ?_, hf.trans hk (fun k h => .inr h.1)⟩
 rintro k _ ⟨_, o', ho', hc⟩ cells t hc'
 rw [hc'] at ho'
 injection ho' with ho'
 subst ho'
 simp [Obj.isCells] at hc
set_option maxRecDepth 100000 in
set_option maxHeartbeats 3200000 in
theorem zkl (w : World) (g N T K : Nat) (E Rm kind : Int) (cols : Nat) (A X : Option Addr) (n c nf cf' : Nat) (rnd fs : List F) (hF : Fld w g) (hr : Kd.C fk w A n rnd) (hf : Kd.C fk w X nf fs) (hc : n ≤ c) (hN : N ≤ 1000) (hT : T ≤ 1000) (hK : K ≤ 1000) (hTK : 1 ≤ T + K) (hcl : cols ≤ 100000) (hn : n = zD T K kind * cols) (hnf : nf ≤ 1000000) :
 Calls Try.prog 93 #[.pointer (some ⟨g, 0, none⟩), zv N T K E Rm, .int .i64 kind, .int .i64 cols, .slice A n c, .slice X nf cf'] w fun e w' => ∃ b, e = .returned (.tuple #[.slice (some ⟨b, 0, none⟩) N N, .bool true]) ∧ w.heap.size ≤ b ∧ yP w' w.heap.size (fun _ => True) b N (yH N (yj cols (zD T K kind) fs rnd)) ∧ Fr (fun _ => False) w w' := by
 have HN := za.mk (fun W => zaj W N T K E Rm kind cols hT hK hTK (by omega))
 have henl := jH T K kind hT hK
 obtain ⟨en, hen⟩ : ∃ en, en = zD T K kind := ⟨_, rfl⟩
 rw [← hen] at HN hn henl ⊢
 have hnl : n ≤ 200000000 := by rw [hn]; have := Nat.mul_le_mul henl hcl; omega
 rw [← hn] at HN
 have HPC := za.mk (fun W => zdJ W N T K E Rm kind cols A n c)
 have HR := za.mk hr
 have HX := za.mk hf
 have HF := za.mk hF
 have HEN := za.mk hen
 have HNN := za.mk hn
 have hu48 := Try.underlying48
 unfold zv at *
 have hne : ((n : Int) != (n : Int)) = false := by simp
 obtain ⟨w0, hw0, hz0, a0, a1, a2, hb0⟩ := zor w (Obj.cells #[Value.pointer (some { block := g, off := 0 })] 23) (Obj.cells #[Value.int IntKind.i64 ↑N, Value.int IntKind.i64 ↑T, Value.int IntKind.i64 ↑K, Value.int IntKind.i64 E, Value.int IntKind.i64 Rm] 48) (Obj.cells #[Value.slice X nf cf'] 36)
 have HA0 := za.mk a0
 have HA1 := za.mk a1
 have HA2 := za.mk a2
 have HB0 := za.mk hb0
 have HZ0 := za.mk hz0
 have HW0 := za.mk hw0
 have HG : za (∀ W, Below w0.heap.size w0 W → W.cell? ⟨w.heap.size + 1, 0, none⟩ = some (.int .i64 N) ∧ W.cell? ⟨w.heap.size + 1, 1, none⟩ = some (.int .i64 T) ∧ W.cell? ⟨w.heap.size + 1, 2, none⟩ = some (.int .i64 K) ∧ W.cell? ⟨w.heap.size + 1, 3, none⟩ = some (.int .i64 E) ∧ W.cell? ⟨w.heap.size + 1, 4, none⟩ = some (.int .i64 Rm)) :=
  ⟨fun W hW => by
    have h1 := zl a1 hW
    exact ⟨zh h1 rfl, zh h1 rfl, zh h1 rfl, zh h1 rfl, zh h1 rfl⟩⟩
 have HENL := za.mk henl
 clear hr hf hF hen hn a0 a1 a2 hb0 hz0 hw0 henl
 refine (callsIn_wide (n := 3)).1 (callsIn_of_wp_marks Try.func93 rfl trivial ?_ rfl)
 simp only [Try.ntmps93, List.size_toArray, List.length_cons, List.length_nil, Nat.reduceAdd, Nat.reduceSub, Array.replicate_succ, Array.replicate_zero, List.push_toArray, List.append_toArray, List.nil_append, List.cons_append]
 gi_wp2_with (first | (refine ⟨trivial, ?_⟩; gi_at_call 49; refine (callsIn_wide.2 (HN.out _)).mono ?_; rintro e W1 ⟨rfl, hb1⟩; rw [← HW0.out] at hb1; obtain ⟨u0, u1, u2, u3, u4⟩ := HG.out W1 hb1; obtain ⟨v0, v1, v2, v3, v4⟩ := HG.out (W1.alloc (.cells #[.slice none 0 0] 37)) (yh hb1 hb1.size (zc (Below.refl _ W1) _)); replace hb1 := za.mk hb1) | (refine ⟨trivial, ?_⟩; gi_at_call 84; refine (callsIn_wide.2 (HPC.out _)).mono ?_; rintro e W' ⟨rfl, rfl⟩))
 obtain ⟨wA, hwA, hzA, a3, hbA⟩ := zU W1 (Obj.cells #[Value.slice none 0 0] 37)
 obtain ⟨w2, hw2, hz2, a4, a5, a6, a7, hb2⟩ := zgO wA (Obj.cells #[Value.int IntKind.i64 ↑N, Value.int IntKind.i64 ↑T, Value.int IntKind.i64 ↑K, Value.int IntKind.i64 E, Value.int IntKind.i64 Rm] 48) (Obj.cells #[Value.int IntKind.i64 kind] 3) (Obj.cells #[Value.int IntKind.i64 ↑cols] 3) (Obj.cells #[Value.slice A n c] 36)
 rw [← hwA, ← hw2]
 obtain ⟨s, hs⟩ : ∃ s, s = w.heap.size := ⟨_, rfl⟩
 obtain ⟨o, ho⟩ : ∃ o, o = W1.heap.size := ⟨_, rfl⟩
 have hz1 : wA.heap.size = o + 1 := by omega
 have hb02 : Below w0.heap.size w0 w2 := hb1.out.trans ((hbA.trans (hb2.mono hbA.size)).mono hb1.out.size)
 have hbw2 : Below w.heap.size w w2 := HB0.out.trans (hb02.mono HB0.out.size)
 have b0 := zl HA0.out hb02
 have b2 := zl HA2.out hb02
 have b3 := zl a3 hb2
 have hos : s + 1 + 1 < o := by have := hb1.out.size; have := HZ0.out; omega
 have hgs : g < s := by have := zgd HF.out; omega
 have hz4 : w2.heap.size = o + 1 + 1 + 1 + 1 + 1 := by omega
 rw [hz1] at a4 a5 a6 a7
 rw [← ho] at b3 ⊢
 rw [← hs] at b0 b2 ⊢
 have HBW := za.mk hbw2
 have HB02 := za.mk hb02
 have HO02 : za (w0.heap.size ≤ o) := ⟨by have := hb1.out.size; omega⟩
 have HS := za.mk hs
 clear hwA hw2 hzA hz2 hs ho hz1 u0 u1 u2 u3 u4 v0 v1 v2 v3 v4 hbA hb2 hb02 hbw2 a3
 refine zaH (P := Try.prog) (gf := 120) (lb := #[.pointer (some ⟨o + 1, 0, none⟩), .pointer (some ⟨o + 1 + 1, 0, none⟩), .pointer (some ⟨o + 1 + 1 + 1, 0, none⟩), .pointer (some ⟨o + 1 + 1 + 1 + 1, 0, none⟩)]) rfl (fun _ _ => rfl) (encs := fun (j : Nat) => #[.int .i64 (j : Int), Zg A c en j]) (Rel := fun pre j _ => j = pre.length ∧ j < cols) (S := fun j => j = o) (Full := fun xs => xs = List.range cols)
  (zdE _ w2 (o + 1) (o + 1 + 1) (o + 1 + 1 + 1) (o + 1 + 1 + 1 + 1) N T K E Rm kind cols A n c en HEN.out.symm hT hK hTK (by rw [HNN.out]; exact Nat.le_refl _) hc (by omega) (by omega) a4 a5 a6 a7 (by omega) (by omega) (by omega) (by omega)) (fun _ => rfl) (fun j hj => by omega)
  (zgW (fun j => zj (zB fs (yn rnd en j))) w2 o) (zfz _ _ _ (by omega)) (fun pre x W W' h _ => h) ⟨_, b3, zho _ _, Fr.refl _ _⟩
  (fun j => { tmps := #[Value.pointer (some { block := g, off := 0 }), Value.agg #[Value.int IntKind.i64 ↑N, Value.int IntKind.i64 ↑T, Value.int IntKind.i64 ↑K, Value.int IntKind.i64 E, Value.int IntKind.i64 Rm], Value.int IntKind.i64 kind, Value.int IntKind.i64 ↑cols, Value.slice A n c, Value.slice X nf cf', Value.pointer (some { block := s, off := 0 }), Value.pointer (some { block := s + 1, off := 0 }), undef, undef, undef, Value.pointer (some { block := s + 1 + 1, off := 0 }), Value.slice none 0 0, Value.bool false,
        Value.pointer (some { block := o, off := 0 }), undef, Zg A c en j, Value.slice A n c, Value.int IntKind.i64 ↑n, Value.agg #[Value.int IntKind.i64 ↑N, Value.int IntKind.i64 ↑T, Value.int IntKind.i64 ↑K, Value.int IntKind.i64 E, Value.int IntKind.i64 Rm], Value.int IntKind.i64 kind, Value.int IntKind.i64 ↑cols, Value.int IntKind.i64 ↑n, Value.bool false, Value.agg #[Value.int IntKind.i64 ↑N, Value.int IntKind.i64 ↑T, Value.int IntKind.i64 ↑K, Value.int IntKind.i64 E, Value.int IntKind.i64 Rm], Value.int IntKind.i64 kind, Value.int IntKind.i64 ↑cols, Value.slice A n c,
        Value.func (Fn.func 120) #[] #[Value.pointer (some { block := o + 1, off := 0 }), Value.pointer (some { block := o + 1 + 1, off := 0 }), Value.pointer (some { block := o + 1 + 1 + 1, off := 0 }), Value.pointer (some { block := o + 1 + 1 + 1 + 1, off := 0 })], .int .i64 (j : Int), Zg A c en j, undef, undef, undef, undef, undef, undef, undef, undef, undef, undef, undef], defers := [] }) ?_ ?_ ?_
 ·intro l pre j W K hr hK
  clear hr
  rw [zlw]
  gi_wp2
  exact hK
 ·rintro l pre j W hsz ⟨v, hv, hp, hf⟩ ⟨hj, hlt⟩
  obtain ⟨Bv, dv, rfl⟩ := JJ hp
  rw [List.length_map, ← hj] at hv
  have hp' := hp
  rw [List.length_map, ← hj] at hp'
  have c0 : W.cell? ⟨s, 0, none⟩ = some (.pointer (some ⟨g, 0, none⟩)) := zh (hf.blk b0 (by omega)) rfl
  have c2 : W.cell? ⟨s + 1 + 1, 0, none⟩ = some (.slice X nf cf') := zh (hf.blk b2 (by omega)) rfl
  have c3 : W.cell? ⟨o, 0, none⟩ = some (.slice Bv j dv) := zh hv rfl
  have hbW : Below w.heap.size w W := HBW.out.trans (hf.below HBW.out.size (fun k hk => by have := HS.out; omega))
  have hjn : j * en + en ≤ n := by
   have h1 := Nat.mul_le_mul_left en (show j + 1 ≤ cols from hlt)
   rw [Nat.mul_add, Nat.mul_one] at h1
   rw [Nat.mul_comm j en, HNN.out]
   omega
  obtain ⟨q, hq⟩ : ∃ q, q = zj (zB fs (yn rnd en j)) := ⟨_, rfl⟩
  have HMU := za.mk (zbM W.drew g X (zaF A c (j * en)) nf en cf' (c - j * en) fs (yn rnd en j) ((HF.out.fr (Fr.of_below hbW (fun _ => False)) (fun h => h)).fr ((Fr.refl (fun _ => False) W).drew) (fun h => h)) (Kd.C_below (Kd.C_below HX.out hbW) (yf (Below.refl _ W))) (zfU (Kd.C_below (Kd.C_below HR.out hbW) (yf (Below.refl _ W))) hjn hc) (by omega))
  rw [← hq] at HMU
  have HPU : za (∀ D W3, RF W3 W.drew.heap.size D q → Fr (fun _ => False) W.drew W3 → W3.cell? ⟨o, 0, none⟩ = some (.slice Bv j dv) ∧ (W3.alloc (.cells #[.slice D q.length q.length] 36)).cell? ⟨o, 0, none⟩ = some (.slice Bv j dv) ∧
   ∃ B' d' W4, (Builtin.append_ #[37, 37] 37 #[.slice Bv j dv, .slice (some ⟨W3.heap.size, 0, none⟩) 1 1]).run Try.prog (W3.alloc (.cells #[.slice D q.length q.length] 36)) = .ok (.slice B' (j + 1) d') W4 ∧ W4.cell? ⟨o, 0, none⟩ = some (.slice Bv j dv) ∧ W4.frozen? ⟨o, 0, none⟩ = false ∧
     ∀ v', v' = W4.setCell ⟨o, 0, none⟩ (.slice B' (j + 1) d') → Fr (fun k => k = o ∨ w2.heap.size + 2 ≤ k) W v' ∧ zgW (fun j => zj (zB fs (yn rnd en j))) w2 o (pre ++ [j]) v') := ⟨fun D W3 hD hf3 => by
   have hfW3 : Fr (fun _ => False) W W3 := ((Fr.refl (fun _ => False) W).drew).trans' hf3
   have hv3 := hfW3.blk hv (fun h => h)
   have hvA := zt hv3 (Obj.cells #[.slice D q.length q.length] 36)
   have hp3 := zbT hp' hfW3 (zdw _ _)
   have hWs : w2.heap.size + 2 ≤ W3.heap.size := Nat.le_trans hsz hfW3.size
   obtain ⟨B', d', W4, hrun, hp4, hf4⟩ := zfo W3 (w2.heap.size + 2) (.slice Bv j dv) _ hp3 hWs D q (yr hD hsz) j (by rw [List.length_map, hj]) (by omega)
   have hv4 := hf4.blk hv3 (fun h => by omega)
   refine ⟨zh hv3 rfl, zh hvA rfl, B', d', W4, hrun, zh hv4 rfl, yV hv4, ?_⟩
   rintro v' rfl
   have hf5 : Fr (fun k => k = o) W4 (W4.setCell ⟨o, 0, none⟩ (.slice B' (j + 1) d')) := (Fr.refl (fun k => k = o) W4).set_ (p := ⟨o, 0, none⟩) (.inl rfl) _
   have hfa : Fr (fun k => k = o ∨ w2.heap.size + 2 ≤ k) W (W4.setCell ⟨o, 0, none⟩ (.slice B' (j + 1) d')) := ((hfW3.mono (fun _ h => h.elim)).trans' (hf4.mono (fun k hk => .inr hk.1))).trans' (hf5.mono (fun k hk => .inl hk))
   refine ⟨hfa, _, zab hv4 0 _, ?_, hf.trans hfa (fun k hk => by omega)⟩
   rw [List.map_append, List.map_singleton, ← hq]
   refine zbT hp4 hf5 ?_
   rintro k _ rfl cells t hc
   rw [hv4] at hc
   injection hc with hc
   injection hc with _ hc
   rw [← hc]
   decide⟩
  have HJ := za.mk hj
  have HB0' := za.mk b0
  clear hj hq hv hp hp' hf hbW hjn b0 b2 b3 a4 a5 a6 a7 hsz
  unfold Zg
  have mixed : Try.prog.follows .mixedOrders = true := by kernel_rfl
  gi_wp2
  refine jy l mixed rfl (by kernel_rfl) ?_
  repeat' (first
   | exact AllReadyIn.nil
   | refine wpAnyIn_done (by decide +kernel) ?_ _
   | (refine wpAnyIn_take (i := 3) (v := ?_) rfl rfl (by kernel_rfl) (by decide +kernel) (by decide +kernel) (fun _ _ _ h => h) ⟨Or.inl ⟨by rfl, ?_⟩, fun _ => rfl⟩ ?_; rotate_left 1; focus (intro w; go_simp; (try with_reducible rfl); done))
   | refine wpAnyIn_ready (rs := [0, 1, 2]) (by decide +kernel) (by simp) ?_
   | refine wpAnyIn_ready (rs := [0, 1]) (by decide +kernel) (by simp) ?_
   | refine wpAnyIn_ready (rs := [0, 2]) (by decide +kernel) (by simp) ?_
   | refine wpAnyIn_ready (rs := [1, 2]) (by decide +kernel) (by simp) ?_
   | refine wpAnyIn_ready (rs := [0]) (by decide +kernel) (by simp) ?_
   | refine wpAnyIn_ready (rs := [1]) (by decide +kernel) (by simp) ?_
   | refine wpAnyIn_ready (rs := [2]) (by decide +kernel) (by simp) ?_
   | refine wpAnyIn_ready (rs := [0, 4]) (by decide +kernel) (by simp) ?_
   | refine wpAnyIn_ready (rs := [4]) (by decide +kernel) (by simp) ?_
   | refine wpAnyIn_ready (rs := [0, 5]) (by decide +kernel) (by simp) ?_
   | refine wpAnyIn_ready (rs := [5]) (by decide +kernel) (by simp) ?_
   | refine wpAnyIn_ready (rs := [6]) (by decide +kernel) (by simp) ?_
   | refine wpAnyIn_ready (rs := [7]) (by decide +kernel) (by simp) ?_
   | refine AllReadyIn.cons rfl (fun K hK => ?_) ?_
   | (rw [if_pos (by rfl)]; go_simp; refine ⟨trivial, ?_⟩; gi_at_call 87; refine (callsIn_wide.2 HMU.out).mono ?_; rintro e W3 ⟨D, rfl, hD, hf3⟩; obtain ⟨q0, q1, B', d', W4, hrun, q6, q7, hfin⟩ := HPU.out D W3 hD hf3; replace hrun := za.mk hrun; replace hfin := za.mk hfin; clear hD hf3; go_simp; refine hK _ _ ?_; clear hK K)
   | (rw [if_pos (by rfl)]; refine zbj _ _ _ _ rfl rfl rfl hrun.out ?_; refine hK _ _ ?_; clear hK K)
   | (go_simp; refine hK _ _ ?_; clear hK K))
  all_goals (gi_wp2; exact hfin.out _ rfl)
 rintro zs W hzs ⟨v, hv, hp, hf⟩ hKD
 subst hzs
 obtain ⟨Bv, dv, rfl⟩ := JJ hp
 have hdl : ((List.range cols).map fun j => zj (zB fs (yn rnd en j))) = yj cols en fs rnd := rfl
 rw [hdl] at hv hp
 have hdn : (yj cols en fs rnd).length = cols := by simp [yj]
 have hql : ∀ q ∈ yj cols en fs rnd, q.length ≤ 1099511627776 := fun q hq => by
  obtain ⟨j, _, rfl⟩ := List.mem_map.1 hq
  have h1 := Kd.C_len HX.out
  have h2 : (zj (zB fs (yn rnd en j))).length ≤ nf + en := yR (fun i hi => yZ fs (yn rnd en j) (nf + 1) en (fun k hk => zJ _ _ (by omega)) (fun k hk => zJ _ _ (by simp [yn]; omega)) i (by omega) (by omega))
  have h3 := HENL.out
  omega
 obtain ⟨qs, hqs⟩ : ∃ qs, qs = yj cols en fs rnd := ⟨_, rfl⟩
 rw [← hqs] at hv hp hdn hql
 have HQS := za.mk hqs
 clear hqs hdl
 rw [hdn] at hv hp
 have c0 : W.cell? ⟨s, 0, none⟩ = some (.pointer (some ⟨g, 0, none⟩)) := zh (hf.blk b0 (by omega)) rfl
 have c3 : W.cell? ⟨o, 0, none⟩ = some (.slice Bv cols dv) := zh hv rfl
 have hbW : Below w.heap.size w W := HBW.out.trans (hf.below HBW.out.size (fun k hk => by have := HS.out; omega))
 obtain ⟨u0, u1, u2, u3, u4⟩ := HG.out W (HB02.out.trans (hf.below HB02.out.size (fun k hk => by have := HO02.out; omega)))
 have hsw := HS.out
 rw [← hsw] at u0 u1 u2 u3 u4
 have HSH := za.mk (zdI W g N T K E Rm Bv cols dv qs (HF.out.fr (Fr.of_below hbW (fun _ => False)) (fun h => h)) (zjf hp) hN hcl hql)
 unfold zv at HSH
 obtain ⟨Dd, hDd⟩ : ∃ D, D = w2.heap.size := ⟨_, rfl⟩
 rw [← hDd] at hKD ⊢
 have HKD := za.mk hKD
 have HBWW := za.mk hbW
 have HDD : za (Dd < W.heap.size ∧ w.heap.size ≤ Dd) := ⟨by have := yB hKD; have := HBW.out.size; omega⟩
 clear hsw hDd hKD hp hv hf hbW b0 b2 b3 a4 a5 a6 a7 hql hdn hz4
 gi_wp2_with (refine ⟨trivial, ?_⟩; gi_at_call 88; refine (callsIn_wide.2 HSH.out).mono ?_; rintro e W3 ⟨b, rfl, hb, hrows, hf3⟩; replace hrows := za.mk hrows; replace hf3 := za.mk hf3; replace hb := za.mk hb)
 refine ⟨by simp, .inl ⟨_, _, rfl, run_takeDeferred (hf3.out.blk HKD.out (fun h => h)), ?_⟩⟩
 have hpf := JM W3 Dd (.deferred none)
 refine ⟨_, results_tmp2 rfl _ _ _, b, rfl, ?_, ?_, ?_⟩
 ·have := HBWW.out.size; have := hb.out; omega
 ·rw [← HQS.out]
  exact ZZ (zhO hrows.out hpf (fun k hk => by have := HDD.out; have := hb.out; omega)) HBWW.out.size
 exact ((Fr.of_below HBWW.out _).trans' hf3.out).trans hpf (fun k hk => .inr (by have := HDD.out; omega))
end Go.Proofs.Ytpeiejkcoadhfaa
