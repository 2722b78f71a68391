/- What the view's laws take, Vu20: PzH, PzU, PzV, PzI. -/
import Derived.Test.YtpeiejkcoadhfaaVu12
import Derived.Test.YtpeiejkcoadhfaaVu19
set_option linter.all false
namespace Go.Proofs.Ytpeiejkcoadhfaa
open Go.RowKit Go.Shelf Go.Proofs.YtpeiejkcoadhfaaW.PrintWords Go.Proofs.YtpeiejkcoadhfaaW.PrintMore
open Go.BigFrame
abbrev Hd : Type := Option Addr × Nat × Nat
def ja (h : Hd) : Value := .slice h.1 h.2.1 h.2.2
abbrev kh : Kd Hd := Kd.scalar ja (fun _ => rfl)
def hd0 : Hd := (none, 0, 0)
def PL (W : World) (A : Option Addr) (n : Nat) (qs : List (List F)) : Prop :=
 ∃ hs : List Hd, Kd.C kh W A n hs ∧ qs.length = n ∧ ∀ i, i < n → (hs.getD i hd0).2.1 = (qs.getD i []).length ∧ (hs.getD i hd0).2.1 ≤ (hs.getD i hd0).2.2 ∧ Kd.C fk W (hs.getD i hd0).1 (qs.getD i []).length (qs.getD i [])
theorem zG {w W : World} {A : Option Addr} {n : Nat} {qs : List (List F)} (h : PL w A n qs) (hb : Below w.heap.size w W) : PL W A n qs := by
 obtain ⟨hs, h1, h2, h3⟩ := h
 exact ⟨hs, Kd.C_below h1 hb, h2, fun i hi => ⟨(h3 i hi).1, (h3 i hi).2.1, Kd.C_below (h3 i hi).2.2 hb⟩⟩
theorem zde {w : World} {A : Option Addr} {n : Nat} {p : List Hd} (h : Kd.C kh w A n p) (k : Nat) (hk : k < n) : ∃ ad, A = some ad ∧ w.cell? (ad.add k) = some (ja (p.getD k hd0)) := by
 obtain ⟨ad, e, hc⟩ := (Kd.reads_of_C (enc := ja) (d := hd0) (h1 := fun _ => rfl) h).2.2 (by omega)
 exact ⟨ad, e, hc k hk⟩
theorem jV {w : World} {A : Option Addr} {n : Nat} {qs : List (List F)} (h : PL w A n qs) (k : Nat) (hk : k < n) : ∃ ad B c, A = some ad ∧ w.cell? (ad.add k) = some (.slice B (qs.getD k []).length c) ∧ (qs.getD k []).length ≤ c ∧ Kd.C fk w B (qs.getD k []).length (qs.getD k []) := by
 obtain ⟨hs, h1, h2, h3⟩ := h
 obtain ⟨ad, e, hc⟩ := zde h1 k hk
 obtain ⟨e1, e2, e3⟩ := h3 k hk
 refine ⟨ad, (hs.getD k hd0).1, (hs.getD k hd0).2.2, e, ?_, by omega, e3⟩
 rw [hc, ← e1]
 rfl
def yP (W : World) (b : Nat) (ok : Nat → Prop) (g N : Nat) (rows : List (List F)) : Prop :=
 ∃ hs : List Hd, Kd.R kh 36 W g (fun k => k = g) (.slice (some ⟨g, 0, none⟩) N N) hs ∧ rows.length = N ∧ (∀ i, i < N → (hs.getD i hd0).2.1 = (rows.getD i []).length ∧ Kd.R fk 5 W b ok (ja (hs.getD i hd0)) (rows.getD i [])) ∧
   ∀ i j, i < N → j < N → i ≠ j → ∀ k, OB (hs.getD i hd0).1 k → ¬ OB (hs.getD j hd0).1 k
theorem zdG {α : Type} (n i : Nat) (a d : α) (h : i < n) : (List.replicate n a).getD i d = a := by
 rw [List.getD_eq_getElem?_getD, List.getElem?_replicate, if_pos h]; rfl
theorem zaa : (Try.prog.info? 36).map (fun i => (i.zero, i.size, i.bytes)) = some (some (.slice none 0 0), 1, 24) := by kernel_rfl
theorem zel (w : World) (b : Nat) (ok : Nat → Prop) (N : Nat) (hN : N ≤ 1000000) : yP (w.alloc (.cells (Array.replicate N (.slice none 0 0)) 36)) b ok w.heap.size N (List.replicate N []) := by
 refine ⟨List.replicate N hd0, ?_, by simp, fun i hi => ?_, fun i j hi hj _ k hk => ?_⟩
 ·refine Kd.R_of_own ⟨by rw [zO, Nat.mul_one], .inr ⟨w.heap.size, N, Array.replicate N (.slice none 0 0), by simp, Nat.le_refl _, yw _ _, by simp, by simp only [maxLen]; omega, by simp, ?_⟩⟩ (fun j hj => ?_)
  ·simp [encs, ja, hd0]
  simpa [Value.ownBlock] using hj.symm
 ·rw [zdG _ _ _ _ hi, zdG _ _ _ _ hi]
  exact ⟨rfl, Kd.R_nil _ _ _ _ _⟩
 rw [zdG _ _ _ _ hi] at hk
 obtain ⟨a, ha, _⟩ := hk
 simp [hd0] at ha
theorem Jd {α : Type} (l : List α) (h i : Nat) (x d : α) (hh : h < l.length) : (l.set h x).getD i d = if i = h then x else l.getD i d := by
 rw [List.getD_eq_getElem?_getD, List.getD_eq_getElem?_getD, List.getElem?_set]
 by_cases e : h = i
 ·subst e
  rw [if_pos rfl, if_pos hh, if_pos rfl]; rfl
 rw [if_neg e, if_neg (fun h' => e h'.symm)]
theorem zgt {W W1 : World} {b : Nat} {ok : Nat → Prop} {g N : Nat} {rows : List (List F)} (h : yP W b ok g N rows) (hf : Fr (fun _ => False) W W1) : yP W1 b ok g N rows := by
 obtain ⟨hs, h1, h2, h3, h4⟩ := h
 exact ⟨hs, jo h1 hf (fun _ _ _ _ h => h), h2, fun i hi => ⟨(h3 i hi).1, jo (h3 i hi).2 hf (fun _ _ _ _ h => h)⟩, h4⟩
theorem zfn {W : World} {b : Nat} {ok ok' : Nat → Prop} {g N : Nat} {rows : List (List F)} (h : yP W b ok g N rows) (hk : ∀ k, ok k → b ≤ k → k < W.heap.size → ok' k) : yP W b ok' g N rows := by
 obtain ⟨hs, h1, h2, h3, h4⟩ := h
 exact ⟨hs, h1, h2, fun i hi => ⟨(h3 i hi).1, Kd.R_mono (Kd.R_bound (h3 i hi).2) (fun k hk' => hk k hk'.1 hk'.2.1 hk'.2.2.1)⟩, h4⟩
theorem ZZ {W : World} {b b' : Nat} {ok : Nat → Prop} {g N : Nat} {rows : List (List F)} (h : yP W b ok g N rows) (hb : b' ≤ b) : yP W b' ok g N rows := by
 obtain ⟨hs, h1, h2, h3, h4⟩ := h
 exact ⟨hs, h1, h2, fun i hi => ⟨(h3 i hi).1, Kd.R_lower (h3 i hi).2 hb⟩, h4⟩
theorem zno {W : World} {b : Nat} {ok : Nat → Prop} {g N : Nat} {rows : List (List F)} (h : yP W b ok g N rows) : PL W (some ⟨g, 0, none⟩) N rows := by
 obtain ⟨hs, h1, h2, h3, h4⟩ := h
 refine ⟨hs, R_C h1, h2, fun i hi => ?_⟩
 obtain ⟨e, h5⟩ := h3 i hi
 have h6 := Kd.R_reads' (A := (hs.getD i hd0).1) (n := (hs.getD i hd0).2.1) (c := (hs.getD i hd0).2.2) h5
 exact ⟨e, h6.2.1, h6.2.2⟩
theorem zcs (wr : World) (b : Nat) (ok : Nat → Prop) (g N : Nat) (rows : List (List F)) (H : yP wr b ok g N rows) (hb : b ≤ wr.heap.size) (hok : ∀ k, wr.heap.size ≤ k → ok k) (h : Nat) (hh : h < N) (y : F) (m : Nat) (hm : (rows.getD h []).length = m) (hml : m ≤ 1000000) :
 ∃ A c, wr.cell? ⟨g, h, none⟩ = some (.slice A m c) ∧ ∃ B d W', (Builtin.append_ #[36, 36] 36 #[.slice A m c, .slice (some ⟨wr.heap.size, 0, none⟩) 1 1]).run Try.prog (wr.alloc (.cells #[.int .u8 (y.v : Int)] 5)) = .ok (.slice B (m + 1) d) W' ∧
   W'.cell? ⟨g, h, none⟩ = some (.slice A m c) ∧ W'.frozen? ⟨g, h, none⟩ = false ∧ yP (W'.setCell ⟨g, h, none⟩ (.slice B (m + 1) d)) b ok g N (rows.set h (rows.getD h [] ++ [y])) ∧ Fr (fun k => k = g ∨ (b ≤ k ∧ ok k)) wr (W'.setCell ⟨g, h, none⟩ (.slice B (m + 1) d)) := by
 obtain ⟨hs, h1, h2, h3, h4⟩ := H
 obtain ⟨e1, e2⟩ := h3 h hh
 obtain ⟨_, hg, _, _, _, hx, hz, hset⟩ := jJ hd0 h1 h hh
 injection hg with hg
 injection hg with hg
 subst hg
 obtain ⟨hw, hhw⟩ : ∃ hw, hw = hs.getD h hd0 := ⟨_, rfl⟩
 rw [← hhw] at e1 e2 hx
 obtain ⟨A, n, c⟩ := hw
 simp only at e1
 obtain rfl : n = m := by omega
 have hb1 : Below wr.heap.size wr (wr.alloc (.cells #[zZ y] 5)) := zc (Below.refl _ _) _
 have hlit : Kd.R fk 5 (wr.alloc (.cells #[zZ y] 5)) wr.heap.size (fun _ => True) (.slice (some ⟨wr.heap.size, 0, none⟩) 1 1) [y] :=
  Kd.R_of_own (yA wr wr.heap.size 5 [y] (Nat.le_refl _) (by simp)) (fun _ _ => trivial)
 have hr : Kd.R fk 5 (wr.alloc (.cells #[zZ y] 5)) b ok (.slice A n c) (rows.getD h []) := jo e2 (Fr.of_below hb1 (fun _ => False)) (fun _ _ _ _ h => h)
 obtain ⟨v', W', hrun, hR, hgr, hat⟩ := zR (P := Try.prog) zZ 0 (wr.alloc (.cells #[zZ y] 5)) b 36 36 5 (.int .u8 0) 1 Try.underlying36 yJ rfl (ys := [y]) (c := 1) hr (R_C hlit) (by simp only [List.length_cons, List.length_nil]; omega) (by omega) (Nat.le_trans hb hb1.size) (fun k hk => hok k (Nat.le_trans hb1.size hk))
 obtain ⟨B, d, rfl⟩ := Kd.R_slice hR
 rw [List.length_append, hm] at hrun hR
 refine ⟨A, c, hx, B, d, W', hrun, ?_⟩
 have hf1 : Fr (fun k => OB A k) wr W' := (Fr.of_below hb1 _).trans (Fr.of_grown hgr (fun k hk => .inl (JP hk))) (fun k hk => .inl hk)
 have typ : ∀ (W : World) (B : Option Addr) (n c : Nat) (l : List F) (hs' : List Hd), Kd.R fk 5 W b ok (.slice B n c) l → Kd.R kh 36 W g (fun k => k = g) (.slice (some ⟨g, 0, none⟩) N N) hs' → ∀ k, OB B k → ¬ k = g := fun W B n c l hs' hr hk k hk1 e => by
  obtain ⟨c1, hc1⟩ := Kd.R_typed hr k (zV hk1)
  obtain ⟨c2, hc2⟩ := Kd.R_typed hk g (by simp [Value.ownBlock])
  rw [e] at hc1
  rw [hc1] at hc2
  simp at hc2
 have hAne := typ wr A n c _ hs e2 h1
 have h1' : Kd.R kh 36 W' g (fun k => k = g) (.slice (some ⟨g, 0, none⟩) N N) hs := jo h1 hf1 (fun k hk _ _ hob => hAne k hob hk)
 obtain ⟨_, hg', _, _, _, hx', hz', hset'⟩ := jJ hd0 h1' h hh
 injection hg' with hg'
 injection hg' with hg'
 subst hg'
 rw [← hhw] at hx'
 have hB' : ∀ k, OB B k → OB A k ∨ wr.heap.size ≤ k := fun k hk => by
  rcases hat with e | ⟨b', e, hb'⟩
  ·exact .inl (JP (n := n) (c := c) (by rw [← e]; exact zV hk))
  rw [zV hk] at e
  injection e with e
  have := hb1.size
  exact .inr (by omega)
 have hf2 : Fr (fun k => k = g) W' (W'.setCell ⟨g, h, none⟩ (.slice B (n + 1) d)) := (Fr.refl (fun k => k = g) W').set_ (p := ⟨g, h, none⟩) (.inl rfl) _
 have hhl : hs.length = N := (Kd.Q_reads' (Kd.Q_of_R h1)).1.symm
 have hlt : ∀ i, i < N → ∀ k, OB (hs.getD i hd0).1 k → k < wr.heap.size := fun i hi k hk => Kd.R_lt (h3 i hi).2 k (zV hk)
 have hA4 : ∀ i, i < N → i ≠ h → ∀ k, OB (hs.getD i hd0).1 k → ¬ OB B k := fun i hi hne k hk hB => by
  rcases hB' k hB with h5 | h5
  ·have := h4 i h hi hh hne k hk
   rw [← hhw] at this
   exact this h5
  have := hlt i hi k hk; omega
 refine ⟨hx', hz', ⟨hs.set h (B, n + 1, d), hset' (B, n + 1, d), by rw [List.length_set]; exact h2, fun i hi => ?_, fun i j hi hj hij k hk => ?_⟩, (hf1.mono (fun k hk => .inr ⟨Kd.R_base e2 k (zV hk), e2.1 k (zV hk)⟩)).trans' (hf2.mono (fun k hk => .inl hk))⟩
 ·rw [Jd _ _ _ _ _ (by omega), Jd _ _ _ _ _ (by omega)]
  by_cases e : i = h
  ·rw [if_pos e, if_pos e]
   refine ⟨by rw [List.length_append, hm]; rfl, ?_⟩
   exact zdf hR hf2 (typ W' B _ _ _ hs hR h1')
  rw [if_neg e, if_neg e]
  refine ⟨(h3 i hi).1, ?_⟩
  have h5 : Kd.R fk 5 W' b ok (.slice (hs.getD i hd0).1 (hs.getD i hd0).2.1 (hs.getD i hd0).2.2) (rows.getD i []) := zdf (h3 i hi).2 hf1 (fun k hk hA => by
   have := h4 i h hi hh e k hk
   rw [← hhw] at this
   exact this hA)
  exact zdf h5 hf2 (typ W' _ _ _ _ hs h5 h1')
 rw [Jd _ _ _ _ _ (by omega)] at hk ⊢
 by_cases e1' : i = h
 ·rw [if_pos e1'] at hk
  rw [if_neg (by omega)]
  exact fun hj' => hA4 j hj (by omega) k hj' hk
 rw [if_neg e1'] at hk
 by_cases e2' : j = h
 ·rw [if_pos e2']
  exact hA4 i hi e1' k hk
 rw [if_neg e2']
 exact h4 i j hi hj hij k hk
theorem zmn {P : Program} (t e : TypeId) (z : Value) (bytes : Nat) (ht : P.underlying t = some (.slice e)) (hinfo : (P.info? e).map (fun i => (i.zero, i.size, i.bytes)) = some (some z, 1, bytes)) (hz : z.cells = #[z]) (hb : bytes ≤ 1024) (k : Nat) (hk : k ≤ 274877906944) (W : World) :
 (Instr.makeSlice t (.int .i64 (k : Int)) (.int .i64 (k : Int))).run P W = .ok (.slice (some ⟨W.heap.size, 0, none⟩) k k) (W.alloc (.cells (Array.replicate k z) e)) := by
 obtain ⟨i0, hi, hz0, hz1, hz2⟩ := info_parts hinfo
 have hr := run_make (P := P) W t e i0 _ ht hi hz0 .i64 .i64 (k : Int) (k : Int) (by omega) (by omega) (by rw [hz2]; have := Nat.mul_le_mul hb hk; rw [← Int.natCast_mul]; omega) (by omega)
 simp only [Int.toNat_natCast] at hr
 rw [hz1] at hr
 have hzc : madeCells (Value.cells z) (k * 1) = Array.replicate k z := by
  rw [hz]
  apply Array.ext
  ·simp [madeCells]
  intro i h1 h2
  simp [madeCells, Nat.mod_one]
 rw [hzc] at hr
 exact hr
def zbV (qs : List (List F)) (k j i : Nat) : List F := (qs.take (if i < j then k + 1 else k)).map fun q => ev q (ptF i)
def yN (N : Nat) (qs : List (List F)) (k j : Nat) : List (List F) := (List.range N).map (zbV qs k j)
def yH (N : Nat) (qs : List (List F)) : List (List F) := (List.range N).map fun i => qs.map fun q => ev q (ptF i)
theorem zy {α : Type} (f : Nat → α) (N i : Nat) (d : α) (h : i < N) : ((List.range N).map f).getD i d = f i := by
 rw [List.getD_eq_getElem?_getD, List.getElem?_map, List.getElem?_range h]; rfl
theorem zex (N : Nat) (qs : List (List F)) (k j i : Nat) (h : i < N) : (yN N qs k j).getD i [] = zbV qs k j i := zy _ _ _ _ h
theorem zfX (N : Nat) (qs : List (List F)) : yN N qs 0 0 = List.replicate N [] := by
 apply List.ext_getElem
 ·simp [yN]
 intro i h1 h2
 simp [yN, zbV]
theorem zhu (N : Nat) (qs : List (List F)) (k : Nat) : yN N qs k N = yN N qs (k + 1) 0 := by
 apply List.ext_getElem
 ·simp [yN]
 intro i h1 h2
 have : i < N := by simpa [yN] using h1
 simp [yN, zbV, this]
theorem zhr (N : Nat) (qs : List (List F)) (k j : Nat) (hk : k < qs.length) (hj : j < N) : (yN N qs k j).set j ((yN N qs k j).getD j [] ++ [ev (qs.getD k []) (ptF j)]) = yN N qs k (j + 1) := by
 rw [zex _ _ _ _ _ hj]
 apply List.ext_getElem
 ·simp [yN]
 intro i h1 h2
 have hi : i < N := by simpa [yN] using h2
 rw [List.getElem_set]
 by_cases e : j = i
 ·subst e
  rw [if_pos rfl]
  simp only [yN, List.getElem_map, List.getElem_range, zbV]
  rw [if_neg (by omega), if_pos (by omega)]
  exact (Zv (fun q => ev q (ptF j)) [] qs k hk).symm
 rw [if_neg e]
 simp only [yN, List.getElem_map, List.getElem_range, zbV]
 congr 2
 by_cases h3 : i < j
 ·rw [if_pos h3, if_pos (by omega)]
 rw [if_neg h3, if_neg (by omega)]
theorem zin (N : Nat) (qs : List (List F)) : yN N qs qs.length 0 = yH N qs := by
 apply List.ext_getElem
 ·simp [yN, yH]
 intro i h1 h2
 simp [yN, zbV, yH]
theorem zkB (qs : List (List F)) (k j : Nat) (hk : k < qs.length) : (zbV qs k j j).length = k := by
 simp only [zbV, List.length_map, List.length_take]
 rw [if_neg (by omega)]
 omega
theorem ZR {V W : World} (h : Below V.drew.heap.size V.drew W) : Below V.heap.size V W := ⟨h.os, h.tape, h.output, h.size, h.block⟩
set_option maxRecDepth 100000 in
set_option maxHeartbeats 3200000 in
theorem zdI (w : World) (g N : Nat) (T K E Rm : Int) (A : Option Addr) (n c : Nat) (qs : List (List F)) (hF : Fld w g) (hP : PL w A n qs) (hN : N ≤ 1000) (hn : n ≤ 100000) (hq : ∀ q ∈ qs, q.length ≤ 1099511627776) :
 Calls Try.prog 88 #[.pointer (some ⟨g, 0, none⟩), zv N T K E Rm, .slice A n c] w fun e w' => ∃ b, e = .returned (.slice (some ⟨b, 0, none⟩) N N) ∧ w.heap.size ≤ b ∧ yP w' w.heap.size (fun _ => True) b N (yH N qs) ∧ Fr (fun _ => False) w w' := by
 have hmk := fun W : World => zmn (P := Try.prog) 37 36 (.slice none 0 0) 24 Try.underlying37 zaa rfl (by omega) N (by omega) W
 have HP := za.mk hP
 have HF := za.mk hF
 have HQ := za.mk hq
 clear hP hF hq
 have hu48 := Try.underlying48
 go_enter Try.func88, Try.ntmps88
 unfold zv
 go_wp2
 obtain ⟨w1, hw1, hz1, a0, hb1⟩ := zU w (Obj.cells #[Value.int IntKind.i64 N, Value.int IntKind.i64 T, Value.int IntKind.i64 K, Value.int IntKind.i64 E, Value.int IntKind.i64 Rm] 48)
 obtain ⟨V, hV, hzV, a1, hbV⟩ := zU w1 (Obj.cells (Array.replicate N (Value.slice none 0 0)) 36)
 have hR0 : ∀ b, yP V b (fun _ => True) w1.heap.size N (List.replicate N []) := fun b => by rw [hV]; exact zel w1 b _ N (by omega)
 rw [← hw1, ← hV]
 obtain ⟨s, hs⟩ : ∃ s, s = w.heap.size := ⟨_, rfl⟩
 rw [hz1] at hR0 hzV
 rw [← hs] at a0 hR0 hzV ⊢
 have a0' := zl a0 hbV
 have HG : za (∀ W, Below V.heap.size V W → W.cell? ⟨s, 0, none⟩ = some (.int .i64 N) ∧ W.cell? ⟨s, 1, none⟩ = some (.int .i64 T) ∧ W.cell? ⟨s, 2, none⟩ = some (.int .i64 K) ∧ W.cell? ⟨s, 3, none⟩ = some (.int .i64 E) ∧ W.cell? ⟨s, 4, none⟩ = some (.int .i64 Rm)) :=
  ⟨fun W hW => by
    have h1 := zl a0' hW
    exact ⟨zh h1 rfl, zh h1 rfl, zh h1 rfl, zh h1 rfl, zh h1 rfl⟩⟩
 have HR0 := za.mk hR0
 have HS := za.mk hs
 have HV : za (Below w.heap.size w V ∧ V.heap.size = s + 2) := ⟨hb1.trans (hbV.mono hb1.size), by omega⟩
 have HA := za.mk (fun W => zne W N T K E Rm hN)
 have HPT := za.mk (fun W (A : Option Addr) c hC => zdH W N T K E Rm A N c (List.range N) hC (by omega))
 unfold zv at HA HPT
 clear hw1 hV hR0 hs a0 a0' hb1 hbV hz1 hzV hmk
 obtain ⟨v0, v1, v2, v3, v4⟩ := HG.out V (Below.refl _ _)
 go_region_with (first | (go_at_call 124; refine (HA.out _).mono ?_; rintro e W1 ⟨B1, d1, rfl, hR1, hb1⟩; replace hb1 := ZR hb1; obtain ⟨u0, u1, u2, u3, u4⟩ := HG.out W1 hb1; replace hR1 := za.mk hR1; replace hb1 := za.mk hb1) | (go_at_call 45; refine (HPT.out _ _ _ (R_C hR1.out)).mono ?_; rintro e W2 ⟨X, dX, rfl, hX, hb2⟩; replace hX := za.mk hX; replace hb2 := za.mk (hb1.out.trans (hb2.mono hb1.out.size))))
 all_goals
  have hrow := zgt (HR0.out W2.heap.size) (Fr.of_below hb2.out (fun _ => False))
  rw [← zfX N qs] at hrow
  have HRW := za.mk hrow
  have HXC := za.mk (R_C hX.out)
  have HBW := za.mk (HV.out.1.trans (hb2.out.mono HV.out.1.size))
  have hsV : s + 2 ≤ W2.heap.size := by have := hb2.out.size; have := HV.out.2; omega
  have HXB : za (∀ j, OB X j → ¬ j = s + 1) := ⟨fun j hj e => by
   have h1 := (jK (Kd.Q_of_R hX.out) j hj).1
   have h2 := hb1.out.size
   have h3 := HV.out.2
   omega⟩
  clear hrow hX hb2 hb1 HR0 HG HA HPT v0 v1 v2 v3 v4 u0 u1 u2 u3 u4 hR1
  have HSV := za.mk hsV
  clear hsV
  go_wp2
  go_loopw [22] (fun v22 wr => ∃ (k : Nat), k ≤ n ∧ v22 = .int .i64 k ∧ za (yP wr W2.heap.size (fun _ => True) (s + 1) N (yN N qs k 0)) ∧ za (Fr (fun j => j = s + 1) W2 wr)) (fun v22 _ => n - (intOf v22).toNat)
  case atStart => exact ⟨0, by omega, rfl, HRW, ⟨Fr.refl _ _⟩⟩
  clear HRW
  obtain ⟨k, hk, rfl, HR, HFr⟩ := hrel
  have hbw : Below w.heap.size w wr := HBW.out.trans (HFr.out.below HBW.out.size (fun j hj => by have := HS.out; omega))
  by_cases hlt : k < n
  ·obtain ⟨ad, Bq, cq, rfl, hcell, hle, hCq⟩ := jV (zG HP.out hbw) k hlt
   have hqn : qs.length = n := by obtain ⟨_, _, h, _⟩ := HP.out; exact h
   obtain ⟨q, hq⟩ : ∃ q, q = qs.getD k [] := ⟨_, rfl⟩
   rw [← hq] at hcell hle hCq
   have hql : q.length ≤ 1099511627776 := by
    refine HQ.out q ?_
    rw [hq, List.getD_eq_getElem?_getD, List.getElem?_eq_getElem (by omega)]
    exact List.getElem_mem _
   have HE := za.mk (zio wr g Bq X q.length cq N dX q _ (HF.out.fr (Fr.of_below hbw (fun _ => False)) (fun h => h)) hCq (jc HXC.out HFr.out (fun j hj _ => HXB.out j hj)) hql hN)
   obtain ⟨nq, hnq⟩ : ∃ nq, nq = q.length := ⟨_, rfl⟩
   rw [← hnq] at hcell hle HE
   have HQK := za.mk hq
   have HQN := za.mk hqn
   clear hq hqn hCq hql hnq
   go_wp2_with (go_at_call 125; refine HE.out.mono ?_; rintro e W3 ⟨Y, dY, rfl, hY, hbY⟩)
   have HY := za.mk hY
   have HB3 := za.mk hbY
   clear hY hbY
   have HR3 : za (yP W3 W2.heap.size (fun i => i < wr.heap.size ∨ W3.heap.size ≤ i) (s + 1) N (yN N qs k 0)) := ⟨zgt (zfn HR.out (fun i _ _ hi => .inl hi)) (Fr.of_below HB3.out (fun _ => False))⟩
   have HZ : za (s + 2 ≤ wr.heap.size ∧ W2.heap.size ≤ W3.heap.size ∧ wr.heap.size ≤ W3.heap.size) := ⟨by
    have h1 := HSV.out
    have h2 := HFr.out.size
    have h3 := HB3.out.size
    omega⟩
   have HF23 : za (Fr (fun i => i = s + 1) W2 W3) := ⟨HFr.out.below_ HB3.out⟩
   have HYB : za (∀ i, OB Y i → wr.heap.size ≤ i) := ⟨fun i hi => (jK (Kd.Q_of_R HY.out) i hi).1⟩
   have HYC := za.mk (R_C HY.out)
   obtain ⟨zo, hzo⟩ : ∃ zo, zo = wr.heap.size := ⟨_, rfl⟩
   rw [← hzo] at HR3 HZ HYB
   clear HE hbw hzo HY HB3 HR HFr
   go_loopw [31] (fun v31 wr => ∃ (j : Nat), j ≤ N ∧ v31 = .int .i64 j ∧ za (yP wr W2.heap.size (fun i => i < zo ∨ W3.heap.size ≤ i) (s + 1) N (yN N qs k j)) ∧ za (Fr (fun i => i = s + 1 ∨ (W2.heap.size ≤ i ∧ i < zo)) W3 wr)) (fun v31 _ => N - (intOf v31).toNat)
   case atStart => exact ⟨0, by omega, rfl, HR3, ⟨Fr.refl _ _⟩⟩
   clear HR3
   obtain ⟨j, hj, rfl, HRt, HFt⟩ := hrel
   by_cases hjm : j < N
   ·have hYt := jc HYC.out HFt.out (fun i hi _ h => by
     have h1 := HYB.out i hi
     have h2 := HZ.out.1
     omega)
    obtain ⟨ay, rfl, hcy⟩ := Jc hYt (Fr.refl (fun _ => False) wr) (fun _ h => h.elim) j hjm
    rw [List.map_map, zy _ _ _ _ hjm] at hcy
    have HST := za.mk (zhr N qs k j (by rw [HQN.out]; exact hlt) hjm)
    rw [← HQK.out] at HST
    have hyv : (ev q ∘ ptF) j = ev q (ptF j) := rfl
    rw [hyv] at hcy
    obtain ⟨y, hy⟩ : ∃ y, y = ev q (ptF j) := ⟨_, rfl⟩
    rw [← hy] at hcy HST
    obtain ⟨A', c', hx, B', d', W', hrun, hx', hz', hR', hF'⟩ := zcs wr W2.heap.size _ (s + 1) N _ HRt.out (by have := HZ.out; have := HFt.out.size; omega) (fun i hi => .inr (Nat.le_trans HFt.out.size hi)) j hjm y k (by rw [zex _ _ _ _ _ hjm]; exact zkB qs k j (by rw [HQN.out]; exact hlt)) (by omega)
    rw [HST.out] at hR'
    have HRUN := za.mk hrun
    have HR' := za.mk hR'
    have HF' : za (Fr (fun i => i = s + 1 ∨ (W2.heap.size ≤ i ∧ i < zo)) W3 (W'.setCell ⟨s + 1, j, none⟩ (.slice B' (k + 1) d'))) := ⟨HFt.out.trans hF' (fun i hi => by
     rcases hi with h1 | ⟨h1, h2 | h2⟩
     ·exact .inl (.inl h1)
     ·exact .inl (.inr ⟨h1, h2⟩)
     exact .inr h2)⟩
    have hjI : (j : Int) < (N : Int) := by omega
    have HYY := za.mk hy
    clear hy hyv hrun hR' hF' hYt
    go_wp2_with (at_builtin; refine zm rfl _ _ _ _ rfl rfl rfl HRUN.out ?_)
    go_roundw
    case rel => exact ⟨j + 1, by omega, by go_num, HR', HF'⟩
    simp [intOf]; omega
   obtain rfl : j = N := by omega
   have hnx := HRt.out
   rw [zhu] at hnx
   have HNX : za (yP wr W2.heap.size (fun _ => True) (s + 1) j (yN j qs (k + 1) 0)) := ⟨zfn hnx (fun _ _ _ _ => trivial)⟩
   have HFN : za (Fr (fun i => i = s + 1) W2 wr) := ⟨HF23.out.trans HFt.out (fun i hi => by
    rcases hi with h1 | h1
    ·exact .inl h1
    exact .inr h1.1)⟩
   clear hnx
   go_wp2
   go_roundw
   case rel => exact ⟨k + 1, by omega, by go_num, HNX, HFN⟩
   simp [intOf]; omega
  obtain rfl : k = n := by omega
  go_wp2
  go_ret
  obtain ⟨_, _, hqn, _⟩ := HP.out
  refine ⟨s + 1, rfl, by have := HS.out; omega, ?_, (Fr.of_below HBW.out _).trans HFr.out (fun j hj => .inr (by have := HS.out; omega))⟩
  have h1 := HR.out
  rw [← hqn, zin] at h1
  exact ZZ h1 HBW.out.size
theorem zjz (w : World) (a b : F) : Calls Try.prog 34 #[.int .u8 (a.v : Int), .int .u8 (b.v : Int)] w fun e w' => e = .returned (.int .u8 ((a * b).v : Int)) ∧ zq w w' :=
 PGfPows.shamrockref01_Mul.calls 17 a.v b.v _ w (zeu 17 a.v b.v (Nat.le_refl _) a.lt b.lt)
theorem zpK (w : World) (a : F) (h : a ≠ 0) : Calls Try.prog 35 #[.int .u8 (a.v : Int)] w fun e w' => e = .returned (.int .u8 (a.inv.v : Int)) ∧ zq w w' :=
 PGfPows.shamrockref01_Inv.calls 400 a.v _ w (zmT 400 a.v (Nat.le_refl _) a.lt (fun e => h (F.ext e)))
set_option maxRecDepth 100000 in
set_option maxHeartbeats 800000 in
theorem zcw (w : World) (A : Option Addr) (n c : Nat) (p : List F) (hC : Kd.C fk w A n p) (hc : n ≤ c) (hl : n ≤ 1099511627776) :
 Calls Try.prog 92 #[.slice A n c] w fun e w' => ∃ B d, e = .returned (.slice B (zj p).length d) ∧ Kd.R fk 5 w' w.heap.size (fun _ => True) (.slice B (zj p).length d) (zj p) ∧ Below w.heap.size w w' := by
 obtain rfl : p.length = n := Kd.C_len hC
 have hle := yD p
 have hz : ∀ j, (zj p).length ≤ j → cf p j = 0 := fun j hj => by rw [← zY p]; exact zJ _ _ hj
 have hnz : 0 < (zj p).length → cf p ((zj p).length - 1) ≠ 0 := fun h => by
  rw [← zY p]
  exact ZX p (by intro e; rw [e] at h; simp at h)
 have ht := zoL (0 : F) (zj p).length hC hle
 rw [zfA] at ht
 obtain ⟨v', w1, hrun, hq, hg, hat⟩ := zR (P := Try.prog) zZ (0 : F) (w.alloc (.cells #[] 5)) w.heap.size 36 36 5 _ 1 Try.underlying36 yJ rfl (ys := zj p) (c := c) (zdv fk 5 w w.heap.size (Nat.le_refl _)) (Kd.C_below ht (zc (Below.refl _ _) _)) (by simp; omega) (by omega) (by simp) (fun _ _ => trivial)
 obtain ⟨A', c', rfl⟩ := Kd.R_slice hq
 rw [List.nil_append] at hrun hq
 have hb : Below w.heap.size w w1 := (zc (Below.refl _ _) _).grown hg (by simp) (fun k hk => by
                                                                                                       have : k = w.heap.size := by simpa [Value.ownBlock] using hk.symm
                                                                                                       omega)
 have HT := za.mk (And.intro hq hb)
 have HR := za.mk hrun
 obtain ⟨i5, hi5, _, _, _⟩ := info_parts yJ
 have kt := zie (P := Try.prog) 36 5 Try.underlying36 hi5 A p.length c (zj p).length hle hc
 have HZ := za.mk hz
 have HNZ := za.mk hnz
 have HC := za.mk hC
 obtain ⟨m, hm⟩ : ∃ m, m = (zj p).length := ⟨_, rfl⟩
 rw [← hm] at HT HR kt HZ HNZ hle
 have HM := za.mk hm
 clear hrun hq hg hat hb hz hnz hC hi5 hm ht
 rw [← HM.out]
 go_enter Try.func92, Try.ntmps92
 go_wp2
 go_loop [3] (fun v3 => ∃ k : Nat, m ≤ k ∧ k ≤ p.length ∧ v3 = .int .i64 (k : Int)) (fun v3 => (intOf v3).toNat)
 case atStart => exact ⟨p.length, hle, Nat.le_refl _, rfl⟩
 obtain ⟨k, hmk, hk, rfl⟩ := hrel
 rcases Nat.eq_zero_or_pos k with h0 | h0
 ·subst h0
  obtain rfl : m = 0 := by omega
  go_wp2_with (at_builtin; refine zm rfl _ _ _ _ rfl rfl rfl HR.out ?_)
  go_ret
  exact ⟨A', c', rfl, HT.out.1, HT.out.2⟩
 obtain ⟨j, hj⟩ : ∃ j, k = j + 1 := ⟨k - 1, by omega⟩
 obtain ⟨ad, rfl, hcell⟩ := Jc HC.out (Fr.refl (fun _ => False) w) (fun _ h => h.elim) j (by omega)
 have hkI : (0 : Int) < (k : Int) := by omega
 have hsub : (k : Int) - 1 = (j : Int) := by omega
 have hkp : (j : Int) < (p.length : Int) := by omega
 obtain ⟨y, hy⟩ : ∃ y, y = p.getD j 0 := ⟨_, rfl⟩
 rw [← hy] at hcell
 by_cases e : m = k
 ·have hne : ((y.v : Int) == 0) = false := by
   have := HNZ.out (by omega)
   rw [e, hj, Nat.add_sub_cancel] at this
   have h2 : y.v ≠ 0 := fun h => this (F.ext (by rw [hy] at h; exact h))
   exact beq_eq_false_iff_ne.mpr (by omega)
  clear hy
  subst e
  clear hj
  go_wp2_with (at_builtin; refine zm rfl _ _ _ _ rfl rfl rfl HR.out ?_)
  go_ret
  exact ⟨A', c', rfl, HT.out.1, HT.out.2⟩
 have hz : y.v = 0 := by rw [hy]; exact congrArg F.v (HZ.out j (by omega))
 rw [hz] at hcell
 clear hy hz
 have HJ := za.mk hj
 clear hj
 go_wp2
 go_round
 case rel => exact ⟨j, by have := HJ.out; omega, by omega, by go_num⟩
 have := HJ.out; simp [intOf]; omega
def pw (x : F) : Nat → F
 | 0 => 1
 | k + 1 => pw x k * x
theorem zjL : ∀ (p : List F) (c x : F), ev (p ++ [c]) x = ev p x + c * pw x p.length
 | [], c, x => by simp [ev, pw, F.zero_mul, F.add_zero, F.mul_one, F.zero_add]
 | a :: p, c, x => by
   rw [List.cons_append, ev, ev, zjL p c x, List.length_cons, pw, F.add_mul, F.mul_assoc, F.add_assoc]
theorem znZ (p : List F) (k : Nat) (x : F) (h : k < p.length) : ev (p.take (k + 1)) x = ev (p.take k) x + p.getD k 0 * pw x k := by
 rw [zK 0 p k h, zjL, List.length_take, Nat.min_eq_left (by omega)]
set_option maxRecDepth 100000 in
set_option maxHeartbeats 800000 in
theorem zfy (w : World) (A : Option Addr) (n c : Nat) (p : List F) (x : F) (hC : Kd.C fk w A n p) (hl : n ≤ 1099511627776) :
 Calls Try.prog 56 #[.slice A n c, .int .u8 (x.v : Int)] w fun e w' => e = .returned (.int .u8 ((ev p x).v : Int)) ∧ zq w w' := by
 obtain rfl : p.length = n := Kd.C_len hC
 have HC := za.mk hC
 clear hC
 go_enter Try.func56, Try.ntmps56
 go_wp2
 go_loopw [5, 6, 7] (fun v5 v6 v7 wr => ∃ k t : Nat, k ≤ p.length ∧ v5 = .int .u8 ((ev (p.take k) x).v : Int) ∧ v6 = .int .u8 ((pw x k).v : Int) ∧ v7 = .int .i64 (k : Int) ∧ wr = w.drewN t) (fun _ _ v7 _ => p.length - (intOf v7).toNat)
 case atStart => exact ⟨0, 0, Nat.zero_le _, rfl, rfl, rfl, rfl⟩
 obtain ⟨k, t, hk, rfl, rfl, rfl, rfl⟩ := hrel
 by_cases hlt : k < p.length
 ·obtain ⟨ad, rfl, hcell⟩ := Jc HC.out (Fr.refl (fun _ => False) w) (fun _ h => h.elim) k hlt
  obtain ⟨a, ha⟩ : ∃ a, a = p.getD k 0 := ⟨_, rfl⟩
  have HE := za.mk (znZ p k x hlt)
  rw [← ha] at hcell HE
  obtain ⟨s, hs⟩ : ∃ s, s = ev (p.take k) x := ⟨_, rfl⟩
  obtain ⟨q, hq⟩ : ∃ q, q = pw x k := ⟨_, rfl⟩
  rw [← hs, ← hq] at HE
  rw [← hs, ← hq]
  have HM1 := za.mk (fun W => zjz W a q)
  have HM2 := za.mk (fun W => zjz W q x)
  have hxr := zeB s (a * q)
  have HP : za (pw x (k + 1) = q * x) := ⟨by rw [hq]; rfl⟩
  generalize a * q = aq at *
  generalize q * x = qx at *
  clear ha hs hq
  go_wp2_with (first | (go_at_call 34; with_reducible refine (HM1.out _).mono ?_; rintro e W1 ⟨rfl, ⟨t1, rfl⟩⟩) | (go_at_call 34; with_reducible refine (HM2.out _).mono ?_; rintro e W2 ⟨rfl, ⟨t2, rfl⟩⟩))
  go_roundw
  case rel => exact ⟨k + 1, _, by omega, by rw [HE.out], by rw [HP.out], by go_num, rfl⟩
  simp [intOf]; omega
 obtain rfl : k = p.length := by omega
 go_wp2
 go_ret
 exact ⟨by rw [List.take_length]; rfl, ⟨_, rfl⟩⟩
theorem zoy (a : F) : bits .xor .u8 0 (a.v : Int) = (a.v : Int) := by
 have h := zeB 0 a
 rw [F.zero_add] at h
 exact h
def zeO (p q : List F) (k : Nat) : List F := (List.range k).map fun i => cf p i + cf q i
theorem zkO (p q : List F) (k : Nat) : zeO p q (k + 1) = zeO p q k ++ [cf p k + cf q k] := by simp [zeO, List.range_succ]
theorem zaw (p q : List F) (k : Nat) : (zeO p q k).length = k := by simp [zeO]
theorem zlC (p q : List F) (k : Nat) (hp : p.length ≤ k) (hq : q.length ≤ k) : zj (zeO p q k) = zj (zW p q) := by
 refine Zb _ _ (fun i => ?_)
 rw [zS]
 by_cases h : i < k
 ·unfold cf
  rw [show (zeO p q k).getD i 0 = cf p i + cf q i from zy _ _ _ _ h]
  rfl
 rw [zJ _ _ (by rw [zaw]; omega), zJ p i (by omega), zJ q i (by omega), F.add_zero]
theorem zfq {α : Type} {enc : α → Value} {h1 : ∀ x, (enc x).oneCell' = true} {e : Nat} {w : World} {base : Nat} {ok : Nat → Prop} {B : Option Addr} {n c : Nat} {xs : List α} (h : (Kd.scalar enc h1).R e w base ok (.slice B n c) xs) : n ≤ c := (Kd.R_reads' h).2.1
set_option maxRecDepth 100000 in
set_option maxHeartbeats 1600000 in
theorem zhI (w : World) (A B : Option Addr) (n m c d : Nat) (p q : List F) (hp : Kd.C fk w A n p) (hq : Kd.C fk w B m q) (hn : n ≤ 1000000) (hm : m ≤ 1000000) :
 Calls Try.prog 90 #[.slice A n c, .slice B m d] w fun e w' => ∃ D cd, e = .returned (.slice D (zj (zW p q)).length cd) ∧ Kd.R fk 5 w' w.heap.size (fun _ => True) (.slice D (zj (zW p q)).length cd) (zj (zW p q)) ∧ Below w.heap.size w w' := by
 obtain rfl : p.length = n := Kd.C_len hp
 obtain rfl : q.length = m := Kd.C_len hq
 have HP := za.mk hp
 have HQ := za.mk hq
 obtain ⟨r, hr⟩ : ∃ r, r = zj (zW p q) := ⟨_, rfl⟩
 have HRR := za.mk hr
 rw [← hr]
 clear hp hq hr
 go_enter Try.func90, Try.ntmps90
 go_wp2
 go_loopw [5, 6] (fun v5 v6 wr => ∃ (k dd : Nat) (D : Option Addr), k ≤ p.length + q.length ∧ v6 = .int .i64 (k : Int) ∧ v5 = .slice D k dd ∧ za (k ≤ p.length ∨ k ≤ q.length) ∧ za (Kd.R fk 5 wr w.heap.size (fun _ => True) (.slice D k dd) (zeO p q k)) ∧ za (Below w.heap.size w wr)) (fun _ v6 _ => p.length + q.length - (intOf v6).toNat)
 case atStart => exact ⟨0, 0, none, by omega, rfl, rfl, ⟨.inl (by omega)⟩, ⟨Kd.R_nil _ _ _ _ _⟩, ⟨Below.refl _ _⟩⟩
 obtain ⟨k, dd, D, hk, rfl, rfl, HK, HR, HB⟩ := hrel
 have hpush : ∀ x, x = cf p k + cf q k → ∃ B' d' W', (Builtin.append_ #[36, 36] 36 #[.slice D k dd, .slice (some ⟨wr.heap.size, 0, none⟩) 1 1]).run Try.prog (wr.alloc (.cells #[zZ x] 5)) = .ok (.slice B' (k + 1) d') W' ∧ Kd.R fk 5 W' w.heap.size (fun _ => True) (.slice B' (k + 1) d') (zeO p q (k + 1)) ∧ Below w.heap.size w W' := fun x hx => by
  obtain ⟨B', d', W', h1, h2, h3⟩ := zii (P := Try.prog) zZ 0 (h1 := fun _ => rfl) wr w 36 5 (.int .u8 0) 1 Try.underlying36 yJ rfl HR.out HB.out x (by rw [zaw]; omega) (by omega)
  rw [zaw] at h1 h2
  rw [hx, ← zkO] at h2
  exact ⟨B', d', W', h1, h2, h3⟩
 by_cases hkp : k < p.length
 ·obtain ⟨ad, rfl, hca⟩ := Jc HP.out (Fr.of_below HB.out (fun _ => False)) (fun _ h => h.elim) k hkp
  obtain ⟨a, ha⟩ : ∃ a, a = p.getD k 0 := ⟨_, rfl⟩
  rw [← ha] at hca
  have hx0 := zoy a
  by_cases hkq : k < q.length
  ·obtain ⟨adB, rfl, hcb⟩ := Jc HQ.out (Fr.of_below HB.out (fun _ => False)) (fun _ h => h.elim) k hkq
   obtain ⟨b, hb⟩ : ∃ b, b = q.getD k 0 := ⟨_, rfl⟩
   rw [← hb] at hcb
   have hx1 := zeB a b
   obtain ⟨B', d', W', hrun, hR', hb'⟩ := hpush (a + b) (by rw [ha, hb]; rfl)
   unfold zZ at hrun
   generalize a + b = ab at *
   have HX := za.mk hrun
   have HR' := za.mk hR'
   have HB' := za.mk hb'
   clear hrun hR' hb' hpush ha hb
   go_wp2_with (at_builtin; refine zm rfl _ _ _ _ rfl rfl rfl HX.out ?_)
   go_roundw
   case rel => exact ⟨k + 1, d', B', by omega, by go_num, rfl, ⟨by omega⟩, HR', HB'⟩
   simp [intOf]; omega
  obtain ⟨B', d', W', hrun, hR', hb'⟩ := hpush a (by rw [zJ q k (by omega), F.add_zero, ha]; rfl)
  unfold zZ at hrun
  have HX := za.mk hrun
  have HR' := za.mk hR'
  have HB' := za.mk hb'
  clear hrun hR' hb' hpush ha
  go_wp2_with (at_builtin; refine zm rfl _ _ _ _ rfl rfl rfl HX.out ?_)
  go_roundw
  case rel => exact ⟨k + 1, d', B', by omega, by go_num, rfl, ⟨by omega⟩, HR', HB'⟩
  simp [intOf]; omega
 by_cases hkq : k < q.length
 ·obtain ⟨adB, rfl, hcb⟩ := Jc HQ.out (Fr.of_below HB.out (fun _ => False)) (fun _ h => h.elim) k hkq
  obtain ⟨b, hb⟩ : ∃ b, b = q.getD k 0 := ⟨_, rfl⟩
  rw [← hb] at hcb
  have hx0 := zoy b
  obtain ⟨B', d', W', hrun, hR', hb'⟩ := hpush b (by rw [zJ p k (by omega), F.zero_add, hb]; rfl)
  unfold zZ at hrun
  have HX := za.mk hrun
  have HR' := za.mk hR'
  have HB' := za.mk hb'
  clear hrun hR' hb' hpush hb
  go_wp2_with (at_builtin; refine zm rfl _ _ _ _ rfl rfl rfl HX.out ?_)
  go_roundw
  case rel => exact ⟨k + 1, d', B', by omega, by go_num, rfl, ⟨by omega⟩, HR', HB'⟩
  simp [intOf]; omega
 have hall := zlC p q k (by omega) (by omega)
 have HT := za.mk (zcw wr D k dd (zeO p q k) (R_C HR.out) (zfq HR.out) (by omega))
 rw [hall, ← HRR.out] at HT
 clear hall hpush
 go_wp2_with (go_at_call 92; with_reducible refine HT.out.mono ?_; rintro e W1 ⟨D1, d1, rfl, hR1, hb1⟩)
 go_ret
 exact ⟨D1, d1, rfl, Kd.R_lower hR1 HB.out.size, HB.out.trans (hb1.mono HB.out.size)⟩
set_option maxRecDepth 100000 in
set_option maxHeartbeats 1600000 in
theorem zbF (w : World) (A B : Option Addr) (n m c d : Nat) (p q : List F) (hp : Kd.C fk w A n p) (hq : Kd.C fk w B m q) (hl : n + m ≤ 1099511627776) :
 Calls Try.prog 91 #[.slice A n c, .slice B m d] w fun e w' => ∃ D cd, e = .returned (.slice D (zj (zB p q)).length cd) ∧ Kd.R fk 5 w' w.heap.size (fun _ => True) (.slice D (zj (zB p q)).length cd) (zj (zB p q)) ∧ Below w.heap.size w w' := by
 have hpn := Kd.C_len hp
 have hqn := Kd.C_len hq
 have HP := za.mk hp
 have HQ := za.mk hq
 have HPN := za.mk hpn
 have HQN := za.mk hqn
 have hmk := fun W : World => zdB (P := Try.prog) 36 5 Try.underlying36 yJ (n + m) (by omega) W
 rw [Int.natCast_add] at hmk
 have hR0 := zeG w w.heap.size (fun _ => True) (n + m) (by omega) (Nat.le_refl _) trivial
 have HR0 := za.mk hR0
 have H0 : za (ZO p q (List.replicate (n + m) 0) 0 0) := ⟨by rw [← hpn, ← hqn]; exact zcG p q⟩
 obtain ⟨r, hr⟩ : ∃ r, r = zj (zB p q) := ⟨_, rfl⟩
 have HRR := za.mk hr
 rw [← hr]
 clear hp hq hpn hqn hR0 hr
 go_enter Try.func91, Try.ntmps91
 go_wp2
 go_loopw [6] (fun v6 wr => ∃ (k : Nat) (zs : List F), k ≤ n ∧ v6 = .int .i64 k ∧ za (ZO p q zs k 0) ∧ za (Kd.R fk 5 wr w.heap.size (fun _ => True) (.slice (some ⟨w.heap.size, 0, none⟩) (n + m) (n + m)) zs) ∧ za (Below w.heap.size w wr)) (fun v6 _ => n - (intOf v6).toNat)
 case atStart => exact ⟨0, _, by omega, rfl, H0, HR0, ⟨zc (Below.refl _ _) _⟩⟩
 clear H0 HR0 hmk
 obtain ⟨k, zs, hk, rfl, HZ, HR, HB⟩ := hrel
 obtain ⟨wo, rfl⟩ : ∃ wo : World, wo = wr := ⟨_, rfl⟩
 by_cases hlt : k < n
 ·go_wp2
  go_loopw [7] (fun v7 wr => ∃ (j : Nat) (ys : List F), j ≤ m ∧ v7 = .int .i64 j ∧ za (ZO p q ys k j) ∧ za (Kd.R fk 5 wr w.heap.size (fun _ => True) (.slice (some ⟨w.heap.size, 0, none⟩) (n + m) (n + m)) ys) ∧ za (Below w.heap.size w wr)) (fun v7 _ => m - (intOf v7).toNat)
  case atStart => exact ⟨0, zs, by omega, rfl, HZ, HR, HB⟩
  clear HZ HR HB
  obtain ⟨j, ys, hj, rfl, HY, HR, HB⟩ := hrel
  by_cases hjm : j < m
  ·obtain ⟨adA, rfl, hca⟩ := Jc HP.out (Fr.of_below HB.out (fun _ => False)) (fun _ h => h.elim) k hlt
   obtain ⟨a, ha⟩ : ∃ a, a = p.getD k 0 := ⟨_, rfl⟩
   rw [← ha] at hca
   obtain ⟨adB, rfl, hcb⟩ := Jc HQ.out (Fr.of_below HB.out (fun _ => False)) (fun _ h => h.elim) j hjm
   obtain ⟨b, hb⟩ : ∃ b, b = q.getD j 0 := ⟨_, rfl⟩
   rw [← hb] at hcb
   obtain ⟨gb, e, _, _, _, hx, hfz, hset⟩ := jJ (0 : F) HR.out (k + j) (by omega)
   injection e with e
   injection e with e _ _
   subst e
   obtain ⟨z, hz⟩ : ∃ z, z = ys.getD (k + j) 0 := ⟨_, rfl⟩
   rw [← hz] at hx
   have hst := zej HY.out (by rw [HPN.out]; exact hlt) (by rw [HQN.out]; exact hjm) (z + a * b) (by rw [hz, ha, hb]; rfl)
   have hxr := zeB z (a * b)
   have HS := za.mk (And.intro hst (hset (z + a * b)))
   have HMU := za.mk (fun t => zjz (wr.drewN t) a b)
   unfold zZ at hx
   have hkj : (k : Int) + (j : Int) < (n : Int) + (m : Int) := by omega
   have hkj0 : (0 : Int) ≤ (k : Int) + (j : Int) := by omega
   have hkjn : ((k : Int) + (j : Int)).toNat = k + j := by omega
   have hwr : IntKind.i64.wrap ((k : Int) + (j : Int)) = (k : Int) + (j : Int) := IntWalk.i64_in _ ⟨by omega, by omega⟩
   generalize a * b = ab at HS hxr HMU
   clear hset hst hz hb ha
   go_wp2
   refine yC 21 (by kernel_rfl) (by kernel_rfl) ?_
   simp only [List.take_succ_cons, List.take_zero, List.drop_succ_cons, List.drop_zero]
   repeat (first | go_big_quiet_skip | (go_big_quiet_want; go_big_quiet_op; first | go_big_quiet_on | (apply Exists.intro; refine ⟨fun t => ?_, ?_⟩; (go_at_call 34; exact jW (HMU.out t)); go_big_quiet_on)))
   refine wpQuiet_nil ?_
   rintro _ ⟨t, rfl⟩
   go_wp2
   go_roundw
   case rel => exact ⟨j + 1, _, by omega, by go_num, ⟨HS.out.1⟩, ⟨Kd.R_drewN HS.out.2 t⟩, ⟨yu (HB.out.setCell (p := ⟨w.heap.size, k + j, none⟩) (Nat.le_refl _) _) t⟩⟩
   simp [intOf]; omega
  obtain rfl : j = m := by omega
  have hst : za (ZO p q ys (k + 1) 0) := ⟨zft (HQN.out.symm ▸ HY.out)⟩
  go_wp2
  go_roundw
  case rel => exact ⟨k + 1, ys, by omega, by go_num, hst, HR, HB⟩
  simp [intOf]; omega
 obtain rfl : k = n := by omega
 have he := zfB (HPN.out.symm ▸ HZ.out : ZO p q zs p.length 0)
 have HT := za.mk (zcw wo (some ⟨w.heap.size, 0, none⟩) (k + m) (k + m) zs (R_C HR.out) (Nat.le_refl _) hl)
 rw [he, ← HRR.out] at HT
 clear he
 go_wp2_with (go_at_call 92; with_reducible refine HT.out.mono ?_; rintro e W1 ⟨D1, d1, rfl, hR1, hb1⟩)
 go_ret
 exact ⟨D1, d1, rfl, Kd.R_lower hR1 HB.out.size, HB.out.trans (hb1.mono HB.out.size)⟩
end Go.Proofs.Ytpeiejkcoadhfaa
namespace Go.Proofs.Ytpeiejkcoadhfaa
open Go.RowKit Go.Shelf Go.Proofs.YtpeiejkcoadhfaaW.PrintWords Go.Proofs.YtpeiejkcoadhfaaW.PrintMore
attribute [local go_sem] Oper.semAt_some
def zD (T K : Nat) (kind : Int) : Nat := if kind = 1 ∨ kind = 2 then T else if kind = 3 then T + K - 1 else if kind = 4 then T + K else 0
theorem zmN (N T K : Nat) (E Rm kind : Int) (hT : T ≤ 1000) (hK : K ≤ 1000) (hTK : 1 ≤ T + K) (q : Nat) : PDealPoints.deal_each.f (q + 1) N T K E Rm kind = some ((zD T K kind : Nat) : Int) := by
 have h1 : wrap64 ((T : Int) + (K : Int)) = ((T + K : Nat) : Int) := Jh T K (by omega)
 have h2 : wrap64 (((T + K : Nat) : Int) - 1) = ((T + K - 1 : Nat) : Int) := by rw [ZQ _ (by omega)]; omega
 unfold PDealPoints.deal_each.f PDealPoints.deal_each.j0 zD
 simp only []
 rw [h1, h2]
 by_cases c1 : kind = 1
 ·subst c1; simp
 by_cases c2 : kind = 2
 ·subst c2; simp
 by_cases c3 : kind = 3
 ·subst c3; simp
 by_cases c4 : kind = 4
 ·subst c4; simp
 simp [c1, c2, c3, c4]
theorem zmp (w : World) (N T K : Nat) (E Rm kind : Int) (hT : T ≤ 1000) (hK : K ≤ 1000) (hTK : 1 ≤ T + K) : Calls Try.prog 82 #[zv N T K E Rm, .int .i64 kind] w fun e w' => e = .returned (.int .i64 ((zD T K kind : Nat) : Int)) ∧ Below w.heap.size w w' :=
 PDealPoints.deal_each.calls 1 _ _ _ _ _ _ _ w (zmN N T K E Rm kind hT hK hTK 0)
theorem jH (T K : Nat) (kind : Int) (hT : T ≤ 1000) (hK : K ≤ 1000) : zD T K kind ≤ 2000 := by
 unfold zD; split
 ·omega
 split
 ·omega
 split <;> omega
theorem zaj (w : World) (N T K : Nat) (E Rm kind : Int) (cols : Nat) (hT : T ≤ 1000) (hK : K ≤ 1000) (hTK : 1 ≤ T + K) (hc : cols ≤ 1099511627776) : Calls Try.prog 49 #[zv N T K E Rm, .int .i64 kind, .int .i64 cols] w fun e w' => e = .returned (.int .i64 ((zD T K kind * cols : Nat) : Int)) ∧ Below w.heap.size w w' := by
 refine PDealPoints.deal_Need.calls 1 _ _ _ _ _ _ _ _ w ?_
 unfold PDealPoints.deal_Need.f
 rw [zmN N T K E Rm kind hT hK hTK 0]
 simp only [Option.bind_some]
 have h1 := jH T K kind hT hK
 have h2 := Nat.mul_le_mul h1 hc
 rw [← Int.natCast_mul, zpt _ (by omega) (by omega)]
theorem zdJ (w : World) (N T K E Rm : Int) (kind cols : Int) (A : Option Addr) (n c : Nat) : Calls Try.prog 84 #[zv N T K E Rm, .int .i64 kind, .int .i64 cols, .slice A n c] w fun e w' =>
 e = .returned (.func (.func 120) #[] #[.pointer (some ⟨w.heap.size, 0, none⟩), .pointer (some ⟨w.heap.size + 1, 0, none⟩), .pointer (some ⟨w.heap.size + 1 + 1, 0, none⟩), .pointer (some ⟨w.heap.size + 1 + 1 + 1, 0, none⟩)]) ∧
 w' = (((w.alloc (.cells #[.int .i64 N, .int .i64 T, .int .i64 K, .int .i64 E, .int .i64 Rm] 48)).alloc (.cells #[.int .i64 kind] 3)).alloc (.cells #[.int .i64 cols] 3)).alloc (.cells #[.slice A n c] 36) := by
 have hu48 := Try.underlying48
 unfold zv
 go_enter Try.func84, Try.ntmps84
 go_wp2
 go_ret
 exact ⟨rfl, rfl⟩
def Zg (A : Option Addr) (c en j : Nat) : Value := .slice (zaF A c (j * en)) en (c - j * en)
set_option maxRecDepth 100000 in
set_option maxHeartbeats 1600000 in
theorem zdE (S : Nat → Prop) (w : World) (b0 b1 b2 b3 : Nat) (N T K : Nat) (E Rm kind : Int) (cols : Nat) (A : Option Addr) (n c en : Nat) (he : zD T K kind = en) (hT : T ≤ 1000) (hK : K ≤ 1000) (hTK : 1 ≤ T + K)
 (hn : en * cols ≤ n) (hc : n ≤ c) (hnl : n ≤ 1099511627776) (hcl : cols ≤ 1099511627776)
 (h0 : w.heap[b0]? = some (.cells #[.int .i64 N, .int .i64 T, .int .i64 K, .int .i64 E, .int .i64 Rm] 48 (0, 0))) (h1 : w.heap[b1]? = some (.cells #[.int .i64 kind] 3 (0, 0))) (h2 : w.heap[b2]? = some (.cells #[.int .i64 cols] 3 (0, 0))) (h3 : w.heap[b3]? = some (.cells #[.slice A n c] 36 (0, 0)))
 (s0 : ¬ S b0) (s1 : ¬ S b1) (s2 : ¬ S b2) (s3 : ¬ S b3) :
 zmP Try.prog 120 #[.pointer (some ⟨b0, 0, none⟩), .pointer (some ⟨b1, 0, none⟩), .pointer (some ⟨b2, 0, none⟩), .pointer (some ⟨b3, 0, none⟩)] (fun (j : Nat) => #[.int .i64 (j : Int), Zg A c en j]) (fun pre j _ => j = pre.length ∧ j < cols) S (fun xs => xs = List.range cols) w := by
 intro l J W hW hJ hY hJ0
 refine callsIn_of_wp Try.func120 rfl trivial ?_ rfl
 simp only [Try.ntmps120, List.size_toArray, List.length_cons, List.length_nil, Nat.reduceAdd, Nat.reduceSub, Array.replicate_succ, Array.replicate_zero, List.push_toArray, List.append_toArray, List.nil_append, List.cons_append]
 have hnot : ∀ {k : Nat} {o : Obj}, w.heap[k]? = some o → ¬ S k → ¬ (S k ∨ w.heap.size ≤ k) := fun ho hk h => h.elim hk (fun h => by have := yB ho; omega)
 have HC3 : za (∀ {W1 : World}, Fr (fun k => S k ∨ w.heap.size ≤ k) w W1 → W1.cell? ⟨b3, 0, none⟩ = some (.slice A n c)) := ⟨fun hf => zh (hf.blk h3 (hnot h3 s3)) rfl⟩
 have H0 : za (∀ {W1 : World}, Below w.heap.size w W1 → W1.cell? ⟨b0, 0, none⟩ = some (.int .i64 N) ∧ W1.cell? ⟨b0, 1, none⟩ = some (.int .i64 T) ∧ W1.cell? ⟨b0, 2, none⟩ = some (.int .i64 K) ∧ W1.cell? ⟨b0, 3, none⟩ = some (.int .i64 E) ∧ W1.cell? ⟨b0, 4, none⟩ = some (.int .i64 Rm) ∧
  W1.cell? ⟨b1, 0, none⟩ = some (.int .i64 kind) ∧ W1.cell? ⟨b2, 0, none⟩ = some (.int .i64 (cols : Int))) :=
  ⟨fun hb => by
    have g0 := zl h0 hb
    exact ⟨zh g0 rfl, zh g0 rfl, zh g0 rfl, zh g0 rfl, zh g0 rfl, zh (zl h1 hb) rfl, zh (zl h2 hb) rfl⟩⟩
 obtain ⟨v0, v1, v2, v3, v4, v5, v6⟩ := H0.out hW
 have HEA := za.mk (zmp W N T K E Rm kind hT hK hTK)
 rw [he] at HEA
 have HW := za.mk hW
 have HY := za.mk hY
 have HJ := za.mk hJ
 have HJ0 := za.mk hJ0
 unfold zv at HEA
 clear hnot h0 h1 h2 h3 hW hY hJ hJ0 he
 have hu48 := Try.underlying48
 gi_wp2_with (refine ⟨trivial, ?_⟩; gi_at_call 82; refine (callsIn_wide.2 HEA.out).mono ?_; rintro e W1 ⟨rfl, hb1⟩; obtain ⟨_, _, _, _, _, _, v7⟩ := H0.out (HW.out.trans (hb1.mono HW.out.size)); replace hb1 := za.mk hb1)
 have HB1 := za.mk (HW.out.trans (hb1.out.mono HW.out.size))
 have HJ1 := za.mk (HJ.out _ _ _ HJ0.out hb1.out)
 clear v0 v1 v2 v3 v4 v5 v6 v7 H0 HJ0 hb1 HW
 gi_loopw [12] (fun v12 wr => ∃ (j : Nat), j ≤ cols ∧ v12 = .int .i64 j ∧ za (J (List.range j) wr) ∧ za (Fr (fun k => S k ∨ w.heap.size ≤ k) w wr)) (fun v12 _ => cols - (intOf v12).toNat)
 case atStart => exact ⟨0, by omega, rfl, HJ1, ⟨Fr.of_below HB1.out _⟩⟩
 clear HJ1 HB1
 obtain ⟨j, hj, rfl, HJR, HFR⟩ := hrel
 by_cases hlt : j < cols
 ·have c3 := HC3.out HFR.out
  have hm1 : j * en + en ≤ n := by
   have h1 := Nat.mul_le_mul_left en (show j + 1 ≤ cols from hlt)
   rw [Nat.mul_add, Nat.mul_one] at h1
   rw [Nat.mul_comm j en]
   omega
  have w1 : IntKind.i64.wrap ((j : Int) * (en : Int)) = ((j * en : Nat) : Int) := by
   rw [← Int.natCast_mul, IntWalk.i64_in _ ⟨by omega, by omega⟩]
  have w2 : IntKind.i64.wrap (((j : Int) + 1) * (en : Int)) = ((j * en + en : Nat) : Int) := by
   have : ((j : Int) + 1) * (en : Int) = ((j * en + en : Nat) : Int) := by
    rw [Int.add_mul, Int.one_mul]; omega
   rw [this, IntWalk.i64_in _ ⟨by omega, by omega⟩]
  have w3 : IntKind.i64.wrap ((j : Int) + 1) = (j : Int) + 1 := IntWalk.i64_in _ ⟨by omega, by omega⟩
  have hcut : ∀ W : World, (Instr.slice 36 (.slice A n c) (some (.int .i64 ((j * en : Nat) : Int))) (some (.int .i64 ((j * en + en : Nat) : Int))) none).run Try.prog W = .ok (Zg A c en j) W := fun W => by
   obtain ⟨f, hi, _, hs, _⟩ := info_parts yJ
   have := zjQ (P := Try.prog) 36 5 Try.underlying36 hi hs A n c (j * en) (j * en + en) (by omega) hm1 hc W
   rw [Nat.add_sub_cancel_left] at this
   exact this
  obtain ⟨fn, tmps, assign, body, hy, hR⟩ := HY.out (List.range j) j wr HJR.out ⟨by simp, hlt⟩
  have hy' : (Instr.yield l #[.int .i64 (j : Int), Zg A c en j]).run Try.prog wr = .ok (.round l fn tmps assign body) wr := hy
  obtain ⟨V, hV⟩ : ∃ V, V = Zg A c en j := ⟨_, rfl⟩
  rw [← hV] at hy' hcut
  generalize j * en = lo at *
  generalize lo + en = hi at *
  have HV := za.mk hV
  clear hy hV
  gi_wp2
  refine hR.mono ?_
  rintro ee W' ⟨rfl, hj', hf'⟩
  have HF' := za.mk (HFR.out.trans' hf')
  have HJ' := za.mk hj'
  clear hj' hf'
  gi_wp2
  go_roundw
  case rel => exact ⟨j + 1, by omega, by go_num, ⟨by rw [List.range_succ]; exact HJ'.out⟩, HF'⟩
  simp only [intOf]; omega
 gi_wp2
 go_end0
 obtain rfl : j = cols := by omega
 exact ⟨⟨_, rfl⟩, _, rfl, HJR.out⟩
end Go.Proofs.Ytpeiejkcoadhfaa
