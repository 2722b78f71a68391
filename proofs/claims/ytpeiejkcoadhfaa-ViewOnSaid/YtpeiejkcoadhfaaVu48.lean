/- What the view's laws take, Vu48: VwCN, VwCQ, VwCR. -/
import Derived.Test.YtpeiejkcoadhfaaVu33
import Derived.Test.YtpeiejkcoadhfaaVu38
set_option linter.all false
namespace Go.Proofs.Ytpeiejkcoadhfaa
open Go.RowKit Go.Shelf Go.Proofs.YtpeiejkcoadhfaaW.PrintWords Go.Proofs.YtpeiejkcoadhfaaW.PrintMore
open Go.BigFrame
theorem zpD {g k : Nat} (h : OB (some ⟨g, 0, none⟩) k) : k = g := by
 obtain ⟨a, ha, rfl⟩ := h
 injection ha with ha
 subst ha
 rfl
theorem zhY (w : World) (A : Option Addr) (N c : Nat) (rows : List (List F)) (P : Nat → Prop) (hP : PLn w A N rows P) (hN : 0 < N) (hNl : N ≤ 1000000) :
 ∃ g cg W', (Builtin.append_ #[37, 37] 37 #[.slice (some ⟨w.heap.size, 0, none⟩) 0 0, .slice A N c]).run Try.prog (w.alloc (.cells #[] 36)) = .ok (.slice (some ⟨g, 0, none⟩) N cg) W' ∧ jY W' P w.heap.size g N cg rows ∧ w.heap.size ≤ g ∧ N ≤ cg ∧ Below w.heap.size w W' := by
 obtain ⟨hs, h1, h2, _, h3⟩ := hP
 have hl : hs.length = N := Kd.C_len h1
 have hb0 : Below w.heap.size w (w.alloc (.cells #[] 36)) := zc (Below.refl _ _) _
 have hR0 : Kd.R kh 36 (w.alloc (.cells #[] 36)) w.heap.size (fun k => w.heap.size ≤ k) (.slice (some ⟨w.heap.size, 0, none⟩) 0 0) ([] : List Hd) := by
  have h := yA (enc := ja) w w.heap.size 36 [] (Nat.le_refl _) (by simp)
  exact Kd.R_of_own h (fun j hj => by
                                    have : w.heap.size = j := by simpa [Value.ownBlock] using hj
                                    omega)
 obtain ⟨v', W', hrun, hR, hg, hat⟩ := zR (P := Try.prog) ja hd0 (w.alloc (.cells #[] 36)) w.heap.size 37 37 36 (.slice none 0 0) 24 Try.underlying37 zaa rfl (ys := hs) (c := c) hR0 (by rw [hl]; exact Kd.C_below h1 hb0) (by simp only [List.length_nil]; omega) (by omega) hb0.size (fun k hk => Nat.le_trans hb0.size hk)
 obtain ⟨B, d, rfl⟩ := Kd.R_slice hR
 rw [List.nil_append, hl] at hrun hR
 obtain ⟨g, rfl, _, hgl, hgo, _, _, _⟩ := jJ (d0 := hd0) hR 0 hN
 have hf : Fr (fun _ => False) w W' := (Fr.of_below hb0 (fun _ => False)).trans (S' := fun k => w.heap.size ≤ k) (Fr.of_grown hg (fun k hk => by
  rw [show (Value.slice (some ⟨w.heap.size, 0, none⟩) 0 0).ownBlock = some w.heap.size by simp [Value.ownBlock]] at hk
  injection hk with hk
  exact .inl (by omega))) (fun k hk => .inr hk)
 have hbw : Below w.heap.size w W' := hf.f_below
 refine ⟨g, d, W', hrun, ⟨hs, Kd.R_mono (R_tight hR) (fun k hk => zpD hk), h2, fun i hi => ?_⟩, hgo, (Kd.R_reads' hR).2.1, hbw⟩
 obtain ⟨e1, e2, e3, e4⟩ := h3 i hi
 exact ⟨e1, e2, jc e3 hf (fun _ _ _ h => h), fun hp j hj => by have := (e4 hp j hj).1; exact ⟨Nat.lt_of_lt_of_le this hbw.size, by omega, (e4 hp j hj).2⟩⟩
theorem znN {W W1 : World} {S P P' : Nat → Prop} {b g N c : Nat} {rows : List (List F)} (h : jY W P b g N c rows) (hf : Fr S W W1) (hSP : ∀ k, S k → P k) (hg : ¬ S g) (ho : ∀ k, P' k → P k ∨ W.heap.size ≤ k) : jY W1 P' b g N c rows := by
 obtain ⟨hs, h1, h2, h3⟩ := h
 refine ⟨hs, jo h1 hf (fun k hk _ _ hs' => hg (by rw [← hk]; exact hs')), h2, fun i hi => ?_⟩
 obtain ⟨e1, e2, e3, e4⟩ := h3 i hi
 refine ⟨e1, e2, jc e3 hf (fun j hj hp hs' => (e4 hp j hj).2.2 (hSP j hs')), fun hp j hj => ?_⟩
 obtain ⟨k1, k2, k3⟩ := e4 hp j hj
 refine ⟨Nat.lt_of_lt_of_le k1 hf.size, k2, fun h' => ?_⟩
 rcases ho j h' with h | h
 ·exact k3 h
 omega
theorem zbU {W : World} {P : Nat → Prop} {b g N c : Nat} {rows : List (List F)} (h : jY W P b g N c rows) : g < W.heap.size ∧ b ≤ g ∧ ∃ cs, W.heap[g]? = some (.cells cs 36 (0, 0)) := by
 obtain ⟨hs, h1, h2, h3⟩ := h
 have hown : (Value.slice (some ⟨g, 0, none⟩) N c).ownBlock = some g := by simp [Value.ownBlock]
 exact ⟨Kd.R_lt h1 g hown, Kd.R_base h1 g hown, Kd.R_typed h1 g hown⟩
structure LS2 (W5 W : World) (N cols g2 : Nat) (rc : Array Value) (Y : Option Addr) (q : Ev) (Z : Option Addr) (q2 : Ev) (A : Option Addr) (na ca : Nat) (ds : List Ev) (O : Option Addr) (no co : Nat) (out : List F) : Prop where
 row : Kd.R fk 5 W W5.heap.size (fun _ => True) (.slice O no co) out
 sh : PLn W Y N (zE N cols q) (fun k => OB O k)
 su : PLn W Z N (zE N cols q2) (fun k => OB O k)
 al : JL W W5.heap.size A na ca (ds.map (zE N cols)) (fun k => OB O k)
 rb : W.heap[g2]? = some (.cells rc 90 (0, 0))
 bl : Below W5.heap.size W5 W
section
variable {W5 W : World} {N cols g2 : Nat} {rc : Array Value} {Y : Option Addr} {q : Ev} {Z : Option Addr} {q2 : Ev} {A : Option Addr} {na ca : Nat} {ds : List Ev} {O : Option Addr} {no co : Nat} {out : List F}
theorem LS2.below (h : LS2 W5 W N cols g2 rc Y q Z q2 A na ca ds O no co out) {W' : World} (hb : Below W.heap.size W W') : LS2 W5 W' N cols g2 rc Y q Z q2 A na ca ds O no co out := by
 have hf : Fr (fun _ => False) W W' := Fr.of_below hb _
 exact ⟨jo h.row hf (fun _ _ _ _ h => h), yy h.sh hf, yy h.su hf, JB h.al hf, hf.blk h.rb (fun h => h), h.bl.trans (hb.mono h.bl.size)⟩
theorem LS2.push (h : LS2 W5 W N cols g2 rc Y q Z q2 A na ca ds O no co out) {B : Option Addr} {n c : Nat} {row : List F} (hr : Kd.C fk W B n row) (hn : no + n ≤ 140737488355328) :
 ∃ O' co' W', (Builtin.append_ #[36, 36] 36 #[.slice O no co, .slice B n c]).run Try.prog W = .ok (.slice O' (no + n) co') W' ∧ za (LS2 W5 W' N cols g2 rc Y q Z q2 A na ca ds O' (no + n) co' (out ++ row)) := by
 obtain ⟨O', co', W', hrun, hR, hb, hf, ho⟩ := zcc (c := c) h.row h.bl hr hn
 have hty : ∀ k, OB O k → ∃ cells, W.heap[k]? = some (.cells cells 5 (0, 0)) := fun k hk => Kd.R_typed h.row k (zV hk)
 refine ⟨O', co', W', hrun, ⟨hR, ZK h.sh hf ho, ZK h.su hf ho, zfW h.al hf (fun _ h => h) ho (fun k _ hk cells hc => ?_), hf.blk h.rb (fun hk => ?_), hb⟩⟩
 ·obtain ⟨c2, hc2⟩ := hty k hk
  rw [hc] at hc2
  injection hc2 with hc2
  injection hc2 with _ hc2
  cases hc2
 obtain ⟨c2, hc2⟩ := hty _ hk
 rw [h.rb] at hc2
 injection hc2 with hc2
 injection hc2 with _ hc2
 cases hc2
end
theorem zkh {w W : World} {A : Option Addr} {n c : Nat} {dss : List (List (List F))} {P : Nat → Prop} (h : JL W w.heap.size A n c dss P) (hb : Below w.heap.size w W) (hPA : ∀ k, OB A k → P k) (Y : Option Addr) (N cy : Nat) (rows : List (List F)) (hY : PLn W Y N rows P) (hN : N ≤ cy) (hn : n ≤ 1000000) :
 ∃ A' c' W', (Builtin.append_ #[127, 127] 127 #[.slice A n c, .slice (some ⟨W.heap.size, 0, none⟩) 1 1]).run Try.prog (W.alloc (.cells #[.slice Y N cy] 37)) = .ok (.slice A' (n + 1) c') W' ∧ Below w.heap.size w W' ∧ Fr (fun k => OB A k) W W' ∧ (∀ k, OB A' k → OB A k ∨ W.heap.size ≤ k) ∧ ∀ P' : Nat → Prop, (∀ k, P' k → P k ∨ W.heap.size ≤ k) → JL W' w.heap.size A' (n + 1) c' (dss ++ [rows]) P' := by
 obtain ⟨hs, h1, h2, h3⟩ := h
 have hl : hs.length = n := (Kd.Q_reads' (Kd.Q_of_R h1)).1.symm
 obtain rfl : rows.length = N := by obtain ⟨_, _, h, _⟩ := hY; exact h
 obtain ⟨B, d, W', hrun, hR, hb', hf, ho⟩ := zbK (P := Try.prog) ja hd0 (h1 := fun _ => rfl) W w 127 37 (.slice none 0 0) 24 Try.underlying127 zhZ rfl h1 hb (Y, rows.length, cy) (by omega) (by omega)
 rw [hl] at hrun hR
 have hfP : Fr P W W' := hf.mono hPA
 refine ⟨B, d, W', hrun, hb', hf, ho, fun P' hP' => ⟨hs ++ [(Y, rows.length, cy)], hR, by rw [List.length_append, h2]; rfl, fun i hi => ?_⟩⟩
 rcases Nat.lt_or_ge i n with e | e
 ·have e1 : (hs ++ [(Y, rows.length, cy)]).getD i hd0 = hs.getD i hd0 := by rw [List.getD_eq_getElem?_getD, List.getElem?_append_left (by omega), ← List.getD_eq_getElem?_getD]
  have e2 : (dss ++ [rows]).getD i [] = dss.getD i [] := by rw [List.getD_eq_getElem?_getD, List.getElem?_append_left (by omega), ← List.getD_eq_getElem?_getD]
  rw [e1, e2]
  exact ⟨(h3 i e).1, (h3 i e).2.1, ZK (h3 i e).2.2 hfP hP'⟩
 obtain rfl : i = n := by omega
 have e1 : (hs ++ [(Y, rows.length, cy)]).getD i hd0 = (Y, rows.length, cy) := by rw [← hl]; exact ji hs [] _ hd0
 have e2 : (dss ++ [rows]).getD i [] = rows := by rw [← h2]; exact ji dss [] rows []
 rw [e1, e2]
 exact ⟨rfl, hN, ZK hY hfP hP'⟩
theorem zfv (h : Nat) : ∀ (ds : List Nat) (ts : List (List F)) (k : Nat), k < ds.length → k < ts.length → yI h (ds.take (k + 1)) (ts.take (k + 1)) = yI h (ds.take k) (ts.take k) ++ (if ds.getD k 0 = h then ts.getD k [] else [])
 | d :: ds, t :: ts, 0, _, _ => by simp [yI]
 | d :: ds, t :: ts, k + 1, h1, h2 => by
   have ih := zfv h ds ts k (by simpa using h1) (by simpa using h2)
   rw [List.take_succ_cons, List.take_succ_cons, yI, ih, List.take_succ_cons, List.take_succ_cons, yI, List.append_assoc]
   rfl
 | [], _, _, h1, _ => by simp at h1
 | _ :: _, [], _, _, h2 => by simp at h2
end Go.Proofs.Ytpeiejkcoadhfaa
namespace Go.Proofs.Ytpeiejkcoadhfaa
open Go.RowKit Go.Shelf Go.Proofs.YtpeiejkcoadhfaaW.PrintWords Go.Proofs.YtpeiejkcoadhfaaW.PrintMore
open Go.BigFrame
structure DJ (V W : World) (N g3 cg : Nat) (O : Option Addr) (rows : List (List F)) (Aa : Option Addr) (j c : Nat) (dss : List (List (List F))) : Prop where
 su : jY W (fun k => OB O k ∨ OB Aa k) V.heap.size g3 N cg rows
 al : JL W V.heap.size Aa j c dss (fun k => (OB O k ∨ OB Aa k) ∨ k = g3)
 bl : Below V.heap.size V W
def PJ (O Aa : Option Addr) (g3 : Nat) (k : Nat) : Prop := (OB O k ∨ OB Aa k) ∨ k = g3
section
variable {V W W' : World} {N g3 cg : Nat} {O : Option Addr} {rows : List (List F)} {Aa : Option Addr} {j c : Nat} {dss : List (List (List F))}
theorem DJ.ty (h : DJ V W N g3 cg O rows Aa j c dss) : ¬ OB Aa g3 := fun hk => by
 obtain ⟨hs, h1, _⟩ := h.al
 obtain ⟨c1, hc1⟩ := Kd.R_typed h1 g3 (zV hk)
 obtain ⟨_, _, c2, hc2⟩ := zbU h.su
 rw [hc1] at hc2
 injection hc2 with hc2
 injection hc2 with _ hc2
 cases hc2
theorem DJ.fr (h : DJ V W N g3 cg O rows Aa j c dss) (hf : Fr (fun _ => False) W W') : DJ V W' N g3 cg O rows Aa j c dss :=
 ⟨zdy h.su hf, JB h.al hf, h.bl.trans (hf.f_below.mono h.bl.size)⟩
theorem DJ.pj (h : DJ V W N g3 cg O rows Aa j c dss) (hO : ∀ k, OB O k → k < V.heap.size) : ∀ k, PJ O Aa g3 k → k < W.heap.size := by
 rintro k ((h1 | h1) | rfl)
 ·exact Nat.lt_of_lt_of_le (hO k h1) h.bl.size
 ·exact (zmL h.al k h1).1
 exact (zbU h.su).1
theorem DJ.push (h : DJ V W N g3 cg O rows Aa j c dss) (Y : Option Addr) (n cy : Nat) (r : List (List F)) (hY : PLn W Y n r (PJ O Aa g3)) (hN : n ≤ cy) (hj : j ≤ 1000000) :
 ∃ A' c' W', (Builtin.append_ #[127, 127] 127 #[.slice Aa j c, .slice (some ⟨W.heap.size, 0, none⟩) 1 1]).run Try.prog (W.alloc (.cells #[.slice Y n cy] 37)) = .ok (.slice A' (j + 1) c') W' ∧ DJ V W' N g3 cg O rows A' (j + 1) c' (dss ++ [r]) ∧ PLn W' Y n r (PJ O A' g3) := by
 obtain ⟨A', c', W', hrun, hb, hf, ho, hal⟩ := zkh h.al h.bl (fun k hk => .inl (.inr hk)) Y n cy r hY hN hj
 have hP' : ∀ k, ((OB O k ∨ OB A' k) ∨ k = g3) → ((OB O k ∨ OB Aa k) ∨ k = g3) ∨ W.heap.size ≤ k := by
  rintro k ((h | h) | h)
  ·exact .inl (.inl (.inl h))
  ·rcases ho k h with h | h
   ·exact .inl (.inl (.inr h))
   exact .inr h
  exact .inl (.inr h)
 refine ⟨A', c', W', hrun, ⟨znN h.su hf (fun k hk => .inr hk) h.ty ?_, hal _ hP', hb⟩, ZK hY (hf.mono (fun k hk => .inl (.inr hk))) hP'⟩
 rintro k (h | h)
 ·exact .inl (.inl h)
 rcases ho k h with h | h
 ·exact .inl (.inr h)
 exact .inr h
theorem DJ.set (h : DJ V W N g3 cg O rows Aa j c dss) (i : Nat) (hi : i < N) {D : Option Addr} {n cd : Nat} {row : List F} (hn : row.length = n) (hc : n ≤ cd) (hC : Kd.C fk W D n row) (hA : 0 < n → ∀ j, OB D j → j < W.heap.size ∧ ¬ PJ O Aa g3 j) {Y : Option Addr} {m : Nat} {r : List (List F)} (hY : PLn W Y m r (PJ O Aa g3)) :
 DJ V (W.setCell ⟨g3, i, none⟩ (.slice D n cd)) N g3 cg O (rows.set i row) Aa j c dss ∧ PLn (W.setCell ⟨g3, i, none⟩ (.slice D n cd)) Y m r (PJ O Aa g3) := by
 have hf : Fr (fun k => k = g3) W (W.setCell ⟨g3, i, none⟩ (.slice D n cd)) := (Fr.refl (fun k => k = g3) W).set_ (p := ⟨g3, i, none⟩) (.inl rfl) _
 obtain ⟨_, hg, c2, hc2⟩ := zbU h.su
 refine ⟨⟨zgQ h.su i hi hn hc hC (fun hp j hj => ⟨(hA hp j hj).1, fun e => (hA hp j hj).2 (.inr e), fun e => (hA hp j hj).2 (.inl e)⟩), zfW h.al hf (fun k hk => .inr hk) (fun k hk => .inl hk) (fun k _ hk cells hcs => ?_), h.bl.trans (hf.below h.bl.size (fun k hk => by omega))⟩, ZK hY (hf.mono (fun k hk => .inr hk)) (fun k hk => .inl hk)⟩
 subst hk
 rw [hc2] at hcs
 injection hcs with hcs
 injection hcs with _ hcs
 cases hcs
theorem DJ.sums (h : DJ V W N g3 cg O rows Aa j c dss) (hO : ∀ k, OB O k → k < V.heap.size) : PLn W (some ⟨g3, 0, none⟩) N rows (fun k => OB O k) := by
 obtain ⟨_, hg, _⟩ := zbU h.su
 refine yM (zgG h.su ?_) (fun k _ hk => .inl hk)
 rintro (h1 | h1)
 ·have := hO g3 h1
  omega
 exact h.ty h1
end
end Go.Proofs.Ytpeiejkcoadhfaa
namespace Go.Proofs.Ytpeiejkcoadhfaa
open Go.RowKit Go.Shelf Go.Proofs.YtpeiejkcoadhfaaW.PrintWords Go.Proofs.YtpeiejkcoadhfaaW.PrintMore
open Go.BigFrame
theorem zaV {W1 : World} {B : Option Addr} {n : Nat} {p : List F} (h : Kd.C fk W1 B n p) (d : Nat) : ∀ W, Fr (fun _ => False) W1 W → (convert 36 9 (.slice B n d)).run Try.prog W = .ok (.string (strOfNums (bs p))) W := fun _ hW =>
 Kd.C_string (P := Try.prog) (c := d) Try.underlying36 Try.underlying5 Try.underlying9 (Jz.2 (Kd.C_below h hW.f_below))
end Go.Proofs.Ytpeiejkcoadhfaa
