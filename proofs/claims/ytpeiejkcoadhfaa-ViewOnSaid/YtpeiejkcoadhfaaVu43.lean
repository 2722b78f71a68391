/- What the view's laws take, Vu43: VwCB, VwCF, VwCG, VwCE, VwCH. -/
import Derived.Test.YtpeiejkcoadhfaaVu24
import Derived.Test.YtpeiejkcoadhfaaVu33
import Derived.Test.YtpeiejkcoadhfaaVu38
import Derived.Test.YtpeiejkcoadhfaaVu39
import Derived.Test.YtpeiejkcoadhfaaVu41
import Derived.Test.YtpeiejkcoadhfaaVu42
set_option linter.all false
namespace Go.Proofs.Ytpeiejkcoadhfaa
open Go.RowKit Go.Shelf Go.Proofs.YtpeiejkcoadhfaaW.PrintWords Go.Proofs.YtpeiejkcoadhfaaW.PrintMore
open Go.BigFrame
def yQ (W : World) (b : Nat) (v : Value) (qs : List (List F)) : Prop :=
 ∃ hs : List Hd, Kd.R kh 36 W b (fun _ => True) v hs ∧ hs.length = qs.length ∧ ∀ i, i < qs.length → ∃ B c, hs.getD i hd0 = (B, (qs.getD i []).length, c) ∧ (qs.getD i []).length ≤ c ∧ RF W b B (qs.getD i [])
theorem ziw (W : World) (b : Nat) : yQ W b (.slice none 0 0) [] := ⟨[], Kd.R_nil _ _ _ _ _, rfl, fun i hi => absurd hi (by simp)⟩
theorem zjM {S : Nat → Prop} {W W1 : World} {b : Nat} {v : Value} {qs : List (List F)} (h : yQ W b v qs) (hf : Fr S W W1) (hS : zhA S b W) : yQ W1 b v qs := by
 obtain ⟨hs, h1, h2, h3⟩ := h
 obtain ⟨A, c, rfl⟩ := Kd.R_slice h1
 refine ⟨hs, zdf h1 hf (fun k hk hs' => ?_), h2, fun i hi => ?_⟩
 ·obtain ⟨cells, hc⟩ := Kd.R_typed h1 k (zV hk)
  exact (hS k (jK (Kd.Q_of_R h1) k hk).1 hs' cells 36 hc).2 rfl
 obtain ⟨B, c, e, e2, hr⟩ := h3 i hi
 exact ⟨B, c, e, e2, jr hr hf (fun k hk hs' cells t hc => (hS k hk hs' cells t hc).1)⟩
theorem JG {W W1 : World} {b : Nat} {v : Value} {qs : List (List F)} (h : yQ W b v qs) (hf : Fr (fun _ => False) W W1) : yQ W1 b v qs := zjM h hf (zdw _ _)
theorem zlr {W : World} {b b' : Nat} {v : Value} {qs : List (List F)} (h : yQ W b v qs) (hb : b' ≤ b) : yQ W b' v qs := by
 obtain ⟨hs, h1, h2, h3⟩ := h
 refine ⟨hs, Kd.R_lower h1 hb, h2, fun i hi => ?_⟩
 obtain ⟨B, c, e, e2, hr⟩ := h3 i hi
 exact ⟨B, c, e, e2, yr hr hb⟩
theorem zcX {W : World} {b c : Nat} {A : Option Addr} {n : Nat} {qs : List (List F)} (h : yQ W b (.slice A n c) qs) : PL W A n qs := by
 obtain ⟨hs, h1, h2, h3⟩ := h
 have h4 := Kd.R_reads' h1
 have hn : n = qs.length := by rw [← h2]; exact h4.1
 refine ⟨hs, R_C h1, hn.symm, fun i hi => ?_⟩
 obtain ⟨B, c, e, e2, hr⟩ := h3 i (by omega)
 rw [e]
 exact ⟨rfl, e2, hr.1⟩
theorem zdZ {W : World} {b c : Nat} {A : Option Addr} {n : Nat} {qs : List (List F)} (h : yQ W b (.slice A n c) qs) : n = qs.length ∧ n ≤ c := by
 obtain ⟨hs, h1, h2, h3⟩ := h
 have h4 := Kd.R_reads' h1
 exact ⟨by rw [← h2]; exact h4.1, h4.2.1⟩
theorem zds {W w : World} {A : Option Addr} {n c : Nat} {qs : List (List F)} (H : yQ W w.heap.size (.slice A n c) qs) (hb : Below w.heap.size w W) (B : Option Addr) (q : List F) (cq : Nat) (hB : RF W w.heap.size B q) (hc : q.length ≤ cq) (hn : n ≤ 1000000) :
 ∃ A' c' W', (Builtin.append_ #[37, 37] 37 #[.slice A n c, .slice (some ⟨W.heap.size, 0, none⟩) 1 1]).run Try.prog (W.alloc (.cells #[.slice B q.length cq] 36)) = .ok (.slice A' (n + 1) c') W' ∧ yQ W' w.heap.size (.slice A' (n + 1) c') (qs ++ [q]) ∧ Below w.heap.size w W' ∧ Fr (fun k => OB A k) W W' ∧ ∀ k, OB A' k → OB A k ∨ W.heap.size ≤ k := by
 have hnl := (zdZ H).1
 obtain ⟨hs, h1, h2, h3⟩ := H
 have hl : hs.length = n := by rw [h2]; exact hnl.symm
 obtain ⟨A', c', W', hrun, hR, hb', hf, ho⟩ := zbK (P := Try.prog) ja hd0 (h1 := fun _ => rfl) W w 37 36 (.slice none 0 0) 24 Try.underlying37 zaa rfl h1 hb (B, q.length, cq) (by omega) (by omega)
 rw [hl] at hrun hR
 have hno : ∀ k, w.heap.size ≤ k → OB A k → ∀ cells t, W.heap[k]? = some (.cells cells t (0, 0)) → t ≠ 5 := fun k _ hk cells t hc => by
  obtain ⟨c2, hc2⟩ := Kd.R_typed h1 k (zV hk)
  rw [hc] at hc2
  injection hc2 with hc2
  injection hc2 with _ hc2
  rw [hc2]
  decide
 refine ⟨A', c', W', hrun, ⟨hs ++ [(B, q.length, cq)], hR, by simp [h2], fun i hi => ?_⟩, hb', hf, ho⟩
 rw [List.length_append, List.length_cons, List.length_nil] at hi
 rw [ZD, ZD, h2]
 by_cases e : i < qs.length
 ·rw [if_pos e, if_pos e]
  obtain ⟨B0, c0, e0, e2, hr0⟩ := h3 i e
  exact ⟨B0, c0, e0, e2, jr hr0 hf hno⟩
 rw [if_neg e, if_neg e, if_pos (by omega), if_pos (by omega)]
 exact ⟨B, cq, rfl, hc, jr hB hf hno⟩
def zoJ (S : Nat → Prop) (b : Nat) (W : World) : Prop := ∀ k, b ≤ k → S k → ∀ cells t, W.heap[k]? = some (.cells cells t (0, 0)) → t ≠ 5 ∧ t ≠ 36 ∧ t ≠ 37
def ByJ (W : World) (b : Nat) (v : Value) (qss : List (List (List F))) : Prop :=
 ∃ hs : List Hd, Kd.R kh 37 W b (fun _ => True) v hs ∧ hs.length = qss.length ∧ ∀ i, i < qss.length → ∃ B c, hs.getD i hd0 = (B, (qss.getD i []).length, c) ∧ yQ W b (.slice B (qss.getD i []).length c) (qss.getD i [])
theorem zoF (W : World) (b : Nat) : ByJ W b (.slice none 0 0) [] := ⟨[], Kd.R_nil _ _ _ _ _, rfl, fun i hi => absurd hi (by simp)⟩
theorem zol {S : Nat → Prop} {W W1 : World} {b : Nat} {v : Value} {qss : List (List (List F))} (h : ByJ W b v qss) (hf : Fr S W W1) (hS : zoJ S b W) : ByJ W1 b v qss := by
 obtain ⟨hs, h1, h2, h3⟩ := h
 obtain ⟨A, c, rfl⟩ := Kd.R_slice h1
 refine ⟨hs, zdf h1 hf (fun k hk hs' => ?_), h2, fun i hi => ?_⟩
 ·obtain ⟨cells, hc⟩ := Kd.R_typed h1 k (zV hk)
  exact (hS k (jK (Kd.Q_of_R h1) k hk).1 hs' cells 37 hc).2.2 rfl
 obtain ⟨B, c, e, hr⟩ := h3 i hi
 exact ⟨B, c, e, zjM hr hf (fun k hk hs' cells t hc => ⟨(hS k hk hs' cells t hc).1, (hS k hk hs' cells t hc).2.1⟩)⟩
theorem zhB {W W1 : World} {b : Nat} {v : Value} {qss : List (List (List F))} (h : ByJ W b v qss) (hf : Fr (fun _ => False) W W1) : ByJ W1 b v qss := zol h hf (fun _ _ h => h.elim)
theorem zpw {S : Nat → Prop} {W W1 : World} {b : Nat} {v : Value} {qss : List (List (List F))} (h : ByJ W b v qss) (hf : Fr S W W1) (hS : ∀ k, S k → k < b) : ByJ W1 b v qss := zol h hf (fun k hk hs => by have := hS k hs; omega)
theorem zmW {W : World} {b c : Nat} {A : Option Addr} {n : Nat} {qss : List (List (List F))} (h : ByJ W b (.slice A n c) qss) : n = qss.length ∧ n ≤ c := by
 obtain ⟨hs, h1, h2, h3⟩ := h
 have h4 := Kd.R_reads' h1
 exact ⟨by rw [← h2]; exact h4.1, h4.2.1⟩
theorem zhw {W : World} {b c : Nat} {A : Option Addr} {n : Nat} {qss : List (List (List F))} (h : ByJ W b (.slice A n c) qss) (k : Nat) (hk : k < n) : ∃ ad B cb, A = some ad ∧ W.cell? (ad.add k) = some (.slice B (qss.getD k []).length cb) ∧ yQ W b (.slice B (qss.getD k []).length cb) (qss.getD k []) := by
 have hn := (zmW h).1
 obtain ⟨hs, h1, h2, h3⟩ := h
 obtain ⟨ad, e, hc⟩ := zde (R_C h1) k hk
 obtain ⟨B, cb, e1, e2⟩ := h3 k (by omega)
 refine ⟨ad, B, cb, e, ?_, e2⟩
 rw [hc, e1]
 rfl
theorem zln {W : World} {A : Option Addr} {n : Nat} {qs : List (List F)} (h : PL W A n qs) : PLn W A n qs (fun k => W.heap.size ≤ k) := by
 obtain ⟨hs, h1, h2, h3⟩ := h
 refine ⟨hs, h1, h2, fun hn j hj => ?_, fun i hi => ⟨(h3 i hi).1, (h3 i hi).2.1, (h3 i hi).2.2, fun hl j hj => ?_⟩⟩
 ·obtain ⟨ad, e, hc⟩ := zde h1 0 hn
  obtain ⟨ad', e', rfl⟩ := hj
  rw [e] at e'
  injection e' with e'
  subst e'
  have := World.block_lt_of_cell? W _ hc
  rw [yi] at this
  omega
 have := zpk (h3 i hi).2.2 hl j hj
 omega
theorem zoP {W : World} {b c : Nat} {A : Option Addr} {n : Nat} {qs : List (List F)} (h : yQ W b (.slice A n c) qs) : PLn W A n qs (fun k => k < b) := by
 obtain ⟨hs, h1, h2, h3⟩ := h
 have h4 := Kd.R_reads' h1
 have hn : n = qs.length := by rw [← h2]; exact h4.1
 refine ⟨hs, R_C h1, hn.symm, fun hn j hj => ⟨Kd.R_lt h1 j (zV hj), by have := Kd.R_base h1 j (zV hj); omega⟩, fun i hi => ?_⟩
 obtain ⟨B, c, e, e2, hr⟩ := h3 i (by omega)
 rw [e]
 refine ⟨rfl, e2, hr.1, fun hl j hj => ⟨zpk hr.1 hl j hj, by have := (hr.2 hl j hj).1; omega⟩⟩
end Go.Proofs.Ytpeiejkcoadhfaa
namespace Go.Proofs.Ytpeiejkcoadhfaa
open Go.RowKit Go.Shelf Go.Proofs.YtpeiejkcoadhfaaW.PrintWords Go.Proofs.YtpeiejkcoadhfaaW.PrintMore
open Go.BigFrame
attribute [local go_sem] Oper.semAt_some
def yx (g : Nat) (N T K E Rm cols : Int) (v : Value) : Obj := .cells #[.pointer (some ⟨g, 0, none⟩), .int .i64 N, .int .i64 T, .int .i64 K, .int .i64 E, .int .i64 Rm, .int .i64 cols, v] 134 (0, 0)
theorem zdn {w W : World} {A : Option Addr} {n c : Nat} {xs : List F} (h : Kd.R fk 5 W w.heap.size (fun _ => True) (.slice A n c) xs) (hb : Below w.heap.size w W) (m : Nat) (hn : n + m ≤ 140737488355328) :
 ∃ B d W', (Builtin.append_ #[36, 3] 36 #[.slice A n c, .int .i64 (m : Int)]).run Try.prog W = .ok (.slice B (n + m) d) W' ∧ Kd.R fk 5 W' w.heap.size (fun _ => True) (.slice B (n + m) d) (xs ++ List.replicate m 0) ∧ Below w.heap.size w W' := by
 have hl : n = xs.length := (Kd.Q_reads' (Kd.Q_of_R h)).1
 obtain ⟨v', W', hrun, hR, hg, _⟩ := zeI W w.heap.size h m (by omega) hb.size (fun _ _ => trivial)
 obtain ⟨B, d, rfl⟩ := Kd.R_slice hR
 rw [List.length_append, List.length_replicate, ← hl] at hrun hR
 exact ⟨B, d, W', hrun, hR, hb.grown hg hb.size (fun i hi => Kd.R_base h i hi)⟩
set_option maxRecDepth 100000 in
set_option maxHeartbeats 6400000 in
theorem zdY (w : World) (s g N T K : Nat) (E Rm cols : Int) (v : Value) (hT : w.heap[s]? = some (yx g N T K E Rm cols v)) (hF : Fld w g) (A : Option Addr) (c : Nat) (d : List F) (hd : Kd.C fk w A K d) (B : Option Addr) (m c2 : Nat) (hs : List Nat) (hh : Kd.C kn w B m hs)
 (hN : N ≤ 255) (hK : K ≤ 255) (hNK : N + K ≤ 255) (hn : hs.Nodup) (hl : ∀ h ∈ hs, h < N) (hm : m ≤ 255) :
 Calls Try.prog 109 #[.pointer (some ⟨s, 0, none⟩), .slice A K c, .slice B m c2] w fun e w' => ∃ D, e = .returned (.slice D (Zm N K d hs).length (Zm N K d hs).length) ∧ RF w' w.heap.size D (Zm N K d hs) ∧ Fr (fun _ => False) w w' := by
 have hdl : d.length = K := Kd.C_len hd
 have hhl : hs.length = m := Kd.C_len hh
 have hu := zdF hNK hn hl
 have HSEC := za.mk (fun W => Zz W N K (T : Int) E Rm (by omega) (by omega))
 have HPTS : za (∀ W, Below w.heap.size w W → Calls Try.prog 45 #[zv N T K E Rm, .slice B m c2] W fun e w' => ∃ X dx, e = .returned (.slice X m dx) ∧ Kd.R fk 5 w' W.heap.size (fun _ => True) (.slice X m dx) (hs.map ptF) ∧ Below W.heap.size W w') := ⟨fun W hW => zdH W N T K E Rm B m c2 hs (Kd.C_below hh hW) (by omega)⟩
 have HCL : za (∀ W, Below w.heap.size w W → Calls Try.prog 95 #[.slice A K c] W fun e w' => ∃ A' c', e = .returned (.slice A' K c') ∧ Kd.R fk 5 w' W.heap.size (fun _ => True) (.slice A' K c') d ∧ Below W.heap.size W w') := ⟨fun W hW => ZV W A K c d (Kd.C_below hd hW) (by omega)⟩
 have HTH : za (∀ W (X Y : Option Addr) (cx cy : Nat), Below w.heap.size w W → Kd.C fk W X (K + m) (zN N K ++ hs.map ptF) → Kd.C fk W Y (K + m) (d ++ List.replicate m 0) → Calls Try.prog 85 #[.pointer (some ⟨g, 0, none⟩), .slice X (K + m) cx, .slice Y (K + m) cy] W fun e w' => ∃ D, e = .returned (.tuple #[.slice D (Zm N K d hs).length (Zm N K d hs).length, .bool true]) ∧ RF w' W.heap.size D (Zm N K d hs) ∧ Fr (fun _ => False) W w') := ⟨fun W X Y cx cy hW hX hY => by
  refine (zcV W g X Y (K + m) cx cy _ _ (hF.fr (Fr.of_below hW (fun _ => False)) (fun h => h)) hX hY (by omega) hu).mono ?_
  rintro e w' ⟨D, q, rfl, h1, h2, h3⟩
  have e1 : Zm N K d hs = q := by
   unfold Zm
   rw [hhl]
   exact zas hu h2
  rw [e1]
  exact ⟨D, rfl, h1, h3⟩⟩
 obtain ⟨q, hq⟩ : ∃ q, q = Zm N K d hs := ⟨_, rfl⟩
 rw [← hq] at HTH ⊢
 obtain ⟨lq, hlq⟩ : ∃ lq, lq = q.length := ⟨_, rfl⟩
 rw [← hlq] at HTH ⊢
 obtain ⟨sl, hsl⟩ : ∃ sl, sl = zN N K := ⟨_, rfl⟩
 rw [← hsl] at HTH HSEC
 obtain ⟨pl, hpl⟩ : ∃ pl, pl = hs.map ptF := ⟨_, rfl⟩
 rw [← hpl] at HTH HPTS
 have HK : za (∀ W, Below w.heap.size w W → W.cell? ⟨s, 0, none⟩ = some (.pointer (some ⟨g, 0, none⟩)) ∧ W.cell? ⟨s, 1, none⟩ = some (.int .i64 N) ∧ W.cell? ⟨s, 2, none⟩ = some (.int .i64 T) ∧ W.cell? ⟨s, 3, none⟩ = some (.int .i64 K) ∧ W.cell? ⟨s, 4, none⟩ = some (.int .i64 E) ∧ W.cell? ⟨s, 5, none⟩ = some (.int .i64 Rm)) := ⟨fun W hW => by
  have h := zl hT hW
  unfold yx at h
  exact ⟨zh h rfl, zh h rfl, zh h rfl, zh h rfl, zh h rfl, zh h rfl⟩⟩
 obtain ⟨SK, hSK⟩ : ∃ SK : World → Prop, SK = fun W => W.cell? ⟨s, 0, none⟩ = some (.pointer (some ⟨g, 0, none⟩)) ∧ W.cell? ⟨s, 1, none⟩ = some (.int .i64 N) ∧ W.cell? ⟨s, 2, none⟩ = some (.int .i64 T) ∧ W.cell? ⟨s, 3, none⟩ = some (.int .i64 K) ∧ W.cell? ⟨s, 4, none⟩ = some (.int .i64 E) ∧ W.cell? ⟨s, 5, none⟩ = some (.int .i64 Rm) := ⟨_, rfl⟩
 have HA1 : za (∀ W2 P1 d1, Kd.R fk 5 W2 w.drew.heap.size (fun _ => True) (.slice P1 K d1) sl → Below w.drew.heap.size w.drew W2 → za (Kd.R fk 5 W2 w.heap.size (fun _ => True) (.slice P1 K d1) sl) ∧ za (Below w.heap.size w W2)) := ⟨fun W2 P1 d1 h1 h2 => ⟨⟨h1⟩, ⟨ZR h2⟩⟩⟩
 have HA2 : za (∀ W2 W3 P1 d1 P2 d2, Below w.heap.size w W2 → Kd.R fk 5 W2 w.heap.size (fun _ => True) (.slice P1 K d1) sl → Below W2.heap.size W2 W3 → Kd.R fk 5 W3 W2.heap.size (fun _ => True) (.slice P2 m d2) pl → ∃ X cx W4, (Builtin.append_ #[36, 36] 36 #[.slice P1 K d1, .slice P2 m d2]).run Try.prog W3 = .ok (.slice X (K + m) cx) W4 ∧ za (Kd.C fk W4 X (K + m) (sl ++ pl)) ∧ za (Below w.heap.size w W3) ∧ za (Below w.heap.size w W4)) := ⟨fun W2 W3 P1 d1 P2 d2 h1 h2 h3 h4 => by
  have hb3 := h1.trans (h3.mono h1.size)
  obtain ⟨X, cx, W4, hrun, hR, hb4, _, _⟩ := zcc (c := d2) (jo h2 (Fr.of_below h3 (fun _ => False)) (fun _ _ _ _ h => h)) hb3 (R_C h4) (by omega)
  exact ⟨X, cx, W4, hrun, ⟨R_C hR⟩, ⟨hb3⟩, ⟨hb4⟩⟩⟩
 have HA3 : za (∀ W4 W5 Q1 e1, Below w.heap.size w W4 → Below W4.heap.size W4 W5 → Kd.R fk 5 W5 W4.heap.size (fun _ => True) (.slice Q1 K e1) d → ∃ Y cy W6, (Builtin.append_ #[36, 3] 36 #[.slice Q1 K e1, .int .i64 (m : Int)]).run Try.prog W5 = .ok (.slice Y (K + m) cy) W6 ∧ za (Kd.C fk W6 Y (K + m) (d ++ List.replicate m 0)) ∧ za (Below w.heap.size w W5) ∧ za (Below w.heap.size w W6) ∧ za (Fr (fun _ => False) W4 W6)) := ⟨fun W4 W5 Q1 e1 h1 h2 h3 => by
  obtain ⟨Y, cy, W6, hrun, hR, hb6⟩ := zdn h3 h2 m (by omega)
  exact ⟨Y, cy, W6, hrun, ⟨R_C hR⟩, ⟨h1.trans (h2.mono h1.size)⟩, ⟨h1.trans (hb6.mono h1.size)⟩, ⟨Fr.of_below hb6 _⟩⟩⟩
 have hu134 := Try.underlying134
 have hu48 := Try.underlying48
 unfold zv at HSEC HPTS
 clear hT hF hd hh hn hl hdl hhl hu hq hlq hsl hpl hSK
 go_enter Try.func109, Try.ntmps109
 go_wp2
 have k0 := za.mk (HK.out w.drew (Below.refl _ _).drew)
 refine wp_region_held_drew (S := (fun W => W.cell? ⟨s, 0, none⟩ = some (.pointer (some ⟨g, 0, none⟩)) ∧ W.cell? ⟨s, 1, none⟩ = some (.int .i64 N) ∧ W.cell? ⟨s, 2, none⟩ = some (.int .i64 T) ∧ W.cell? ⟨s, 3, none⟩ = some (.int .i64 K) ∧ W.cell? ⟨s, 4, none⟩ = some (.int .i64 E) ∧ W.cell? ⟨s, 5, none⟩ = some (.int .i64 Rm))) (by kernel_rfl) (k0.out) (fun hS => ?_)
 refine zk 0 10 hS ?_
 refine zk 1 11 hS ?_
 refine zk 2 12 hS ?_
 refine zk 3 13 hS ?_
 refine zk 5 15 hS ?_
 refine zk 6 16 hS ?_
 refine zk 7 17 hS ?_
 refine zk 8 18 hS ?_
 refine zk 9 19 hS ?_
 refine wpAnyH_ready (rs := [4]) (by kernel_rfl) (by simp) ?_
 refine AllReadyH.cons rfl (fun K hK => ?_) AllReadyH.nil
 rw [if_pos (by rfl)]
 go_simp
 go_at_call 47; with_reducible refine (HSEC.out _).mono ?_; rintro e W2 ⟨P1, d1, rfl, hR1, hb1⟩; obtain ⟨HR1, HB2⟩ := HA1.out W2 P1 d1 hR1 hb1; have k1 := za.mk (HK.out W2 HB2.out); clear hR1 hb1
 refine hK.out _ _ (by first | with_reducible exact k3.out | with_reducible exact k2.out | with_reducible exact k1.out) (fun hS2 => ?_)
 clear hK K hS
 have hS := hS2
 clear hS2
 try simp only [Act.put, List.setIfInBounds_toArray, List.set_cons_zero, List.set_cons_succ]
 refine wpAnyH_ready (rs := [10]) (by kernel_rfl) (by simp) ?_
 refine AllReadyH.cons rfl (fun K hK => ?_) AllReadyH.nil
 rw [if_pos (by rfl)]
 go_simp
 go_at_call 45; with_reducible refine (HPTS.out _ HB2.out).mono ?_; rintro e W3 ⟨P2, d2, rfl, hR2, hb2⟩; obtain ⟨X, cx, W4, hrun, HX, HB3, HB4⟩ := HA2.out W2 W3 P1 d1 P2 d2 HB2.out HR1.out hb2 hR2; have k2 := za.mk (HK.out W3 HB3.out); have k3 := za.mk (HK.out W4 HB4.out); clear hR2 hb2
 refine hK.out _ _ (by first | with_reducible exact k3.out | with_reducible exact k2.out | with_reducible exact k1.out) (fun hS2 => ?_)
 clear hK K hS
 have hS := hS2
 clear hS2
 try simp only [Act.put, List.setIfInBounds_toArray, List.set_cons_zero, List.set_cons_succ]
 refine wpAnyH_ready (rs := [11]) (by kernel_rfl) (by simp) ?_
 refine AllReadyH.cons rfl (fun K hK => ?_) AllReadyH.nil
 refine yF rfl _ _ _ _ rfl rfl rfl hrun ?_
 refine hK.out _ _ (by first | with_reducible exact k3.out | with_reducible exact k2.out | with_reducible exact k1.out) (fun hS2 => ?_)
 clear hK K hS
 have hS := hS2
 clear hS2
 try simp only [Act.put, List.setIfInBounds_toArray, List.set_cons_zero, List.set_cons_succ, List.getElem_toArray, List.getElem_cons_zero, List.getElem_cons_succ]
 refine zk 12 7 hS ?_
 refine wpAnyH_done (by kernel_rfl) ?_ _
 clear hrun k0 k1 k2 k3 hS HR1 HB2 HB3
 go_wp2
 have HB4d : za (Below w.heap.size w W4.drew) := ⟨HB4.out.drew⟩
 have k0 := za.mk (HK.out W4.drew HB4d.out)
 refine wp_region_held_drew (S := (fun W => W.cell? ⟨s, 0, none⟩ = some (.pointer (some ⟨g, 0, none⟩)) ∧ W.cell? ⟨s, 1, none⟩ = some (.int .i64 N) ∧ W.cell? ⟨s, 2, none⟩ = some (.int .i64 T) ∧ W.cell? ⟨s, 3, none⟩ = some (.int .i64 K) ∧ W.cell? ⟨s, 4, none⟩ = some (.int .i64 E) ∧ W.cell? ⟨s, 5, none⟩ = some (.int .i64 Rm))) (by kernel_rfl) (k0.out) (fun hS => ?_)
 refine zk 0 23 hS ?_
 refine zk 1 24 hS ?_
 refine zk 2 25 hS ?_
 refine zk 3 26 hS ?_
 refine zk 4 27 hS ?_
 refine zk 5 28 hS ?_
 refine zk 7 30 hS ?_
 refine zk 8 31 hS ?_
 refine wpAnyH_ready (rs := [6]) (by kernel_rfl) (by simp) ?_
 refine AllReadyH.cons rfl (fun K hK => ?_) AllReadyH.nil
 rw [if_pos (by rfl)]
 go_simp
 go_at_call 95; with_reducible refine (HCL.out _ HB4d.out).mono ?_; rintro e W5 ⟨Q1, e1, rfl, hR5, hb5⟩; obtain ⟨Y, cy, W6, hrun, HY, HB5, HB6, HF6⟩ := HA3.out W4.drew W5 Q1 e1 HB4d.out hb5 hR5; have HX6 := za.mk (jc HX.out (((Fr.refl (fun _ => False) W4).drew).trans' HF6.out) (fun _ _ _ h => h)); have k1 := za.mk (HK.out W5 HB5.out); have k2 := za.mk (HK.out W6 HB6.out); clear hR5 hb5
 refine hK.out _ _ (by first | with_reducible exact k3.out | with_reducible exact k2.out | with_reducible exact k1.out) (fun hS2 => ?_)
 clear hK K hS
 have hS := hS2
 clear hS2
 try simp only [Act.put, List.setIfInBounds_toArray, List.set_cons_zero, List.set_cons_succ]
 refine wpAnyH_ready (rs := [9]) (by kernel_rfl) (by simp) ?_
 refine AllReadyH.cons rfl (fun K hK => ?_) AllReadyH.nil
 refine yF rfl _ _ _ _ rfl rfl rfl hrun ?_
 refine hK.out _ _ (by first | with_reducible exact k3.out | with_reducible exact k2.out | with_reducible exact k1.out) (fun hS2 => ?_)
 clear hK K hS
 have hS := hS2
 clear hS2
 try simp only [Act.put, List.setIfInBounds_toArray, List.set_cons_zero, List.set_cons_succ, List.getElem_toArray, List.getElem_cons_zero, List.getElem_cons_succ]
 refine wpAnyH_ready (rs := [10]) (by kernel_rfl) (by simp) ?_
 refine AllReadyH.cons rfl (fun K hK => ?_) AllReadyH.nil
 rw [if_pos (by rfl)]
 go_simp
 go_at_call 85; with_reducible refine (HTH.out _ _ _ _ _ HB6.out HX6.out HY.out).mono ?_; rintro e W7 ⟨D, rfl, hD, hf7⟩; have HD := za.mk hD; have HF7 := za.mk hf7; have k3 := za.mk (HK.out W7 (HB6.out.trans (hf7.f_below.mono HB6.out.size))); clear hD hf7
 refine hK.out _ _ (by first | with_reducible exact k3.out | with_reducible exact k2.out | with_reducible exact k1.out) (fun hS2 => ?_)
 clear hK K hS
 have hS := hS2
 clear hS2
 try simp only [Act.put, List.setIfInBounds_toArray, List.set_cons_zero, List.set_cons_succ]
 refine zk 11 22 hS ?_
 refine zk 12 34 hS ?_
 refine zk 13 35 hS ?_
 refine zk 14 8 hS ?_
 refine zk 15 9 hS ?_
 refine wpAnyH_done (by kernel_rfl) ?_ _
 clear hrun k0 k1 k2 k3 hS
 go_wp2
 go_ret
 exact ⟨D, rfl, yr HD.out HB6.out.size, (Fr.of_below HB6.out _).trans' HF7.out⟩
end Go.Proofs.Ytpeiejkcoadhfaa
namespace Go.Proofs.Ytpeiejkcoadhfaa
open Go.RowKit Go.Shelf Go.Proofs.YtpeiejkcoadhfaaW.PrintWords Go.Proofs.YtpeiejkcoadhfaaW.PrintMore
open Go.BigFrame
theorem znK {a b c : Nat} (h : a = c * b) (hb : 0 < b) : (a : Int) / (b : Int) = (c : Int) := by
 rw [h, Int.natCast_mul]
 exact Int.mul_ediv_cancel _ (by omega)
set_option maxRecDepth 100000 in
set_option maxHeartbeats 6400000 in
theorem zhx (w : World) (s g : Nat) (N T K E Rm : Int) (cols : Nat) (v : Value) (hT : w.heap[s]? = some (yx g N T K E Rm cols v)) (hF : Fld w g) (A : Option Addr) (n ca : Nat) (tape : List F) (hA : Kd.C fk w A n tape) (X : Option Addr) (cx : Nat) (polys : List (List F)) (hP : PL w X cols polys)
 (Y : Option Addr) (my cy : Nat) (fac : List F) (hY : Kd.C fk w Y my fac) (hmy : my ≤ cy) (hml : my ≤ 1000000) (low : Nat) (hlow : (zj fac).length = low + 1) (each : Nat) (hn : n = each * cols) (hcl : cols ≤ 256) (hel : each ≤ 100000) (hpl : ∀ i, i < cols → (polys.getD i []).length ≤ 1000000)
 (hdeg : ∀ i, i < cols → (zj (Zn (polys.getD i []) fac)).length ≤ each) :
 Calls Try.prog 111 #[.pointer (some ⟨s, 0, none⟩), .slice A n ca, .slice X cols cx, .slice Y my cy] w fun e w' => ∃ O co, e = .returned (.slice O n co) ∧ Kd.R fk 5 w' w.heap.size (fun _ => True) (.slice O n co) (jx tape each (fun i => Zn (polys.getD i []) fac)) ∧ Below w.heap.size w w' := by
 have htl : tape.length = n := Kd.C_len hA
 have hnl : n ≤ 25600000 := by
  rw [hn]
  exact Nat.le_trans (Nat.mul_le_mul hel hcl) (by decide)
 have HCL := za.mk (ZV w A n ca tape hA (by omega))
 obtain ⟨us, hus⟩ : ∃ us : Nat → List F, us = fun i => zj (Zn (polys.getD i []) fac) := ⟨_, rfl⟩
 have HADD : za (jx tape each (fun i => Zn (polys.getD i []) fac) = jx tape each us) := ⟨by rw [hus]; exact (zkZ _ _ _).symm⟩
 rw [HADD.out]
 have HUS : za (∀ i, us i = zj (Zn (polys.getD i []) fac)) := ⟨fun i => by rw [hus]⟩
 have HDEG : za (∀ i, i < cols → (us i).length ≤ each) := ⟨fun i hi => by rw [hus]; exact hdeg i hi⟩
 have HT := za.mk hT
 have HF := za.mk hF
 have HP := za.mk hP
 have HY := za.mk hY
 have HPL := za.mk hpl
 have HLOW := za.mk hlow
 have HTL := za.mk htl
 have HN := za.mk hn
 obtain ⟨res, hres⟩ : ∃ res, res = jx tape each us := ⟨_, rfl⟩
 have HRES := za.mk hres
 rw [← hres]
 have HK : za (∀ W, Below w.heap.size w W → W.cell? ⟨s, 0, none⟩ = some (.pointer (some ⟨g, 0, none⟩)) ∧ W.cell? ⟨s, 6, none⟩ = some (.int .i64 cols)) := ⟨fun W hW => by
  have h := zl hT hW
  unfold yx at h
  exact ⟨zh h rfl, zh h rfl⟩⟩
 have hu134 := Try.underlying134
 clear hT hF hA hP hY hlow hpl hdeg hus hres HADD htl
 by_cases hc0 : cols = 0
 ·subst hc0
  have hn0 : n = 0 := by rw [hn]; simp
  subst hn0
  clear hn
  go_enter Try.func111, Try.ntmps111
  go_wp2_with (go_at_call 95; with_reducible refine HCL.out.mono ?_; rintro e w1 ⟨O, co, rfl, hR, hb1⟩; have HR := za.mk hR; have HB1 := za.mk hb1; obtain ⟨x1, x2⟩ := HK.out w1 hb1; clear hR hb1)
  go_ret
  refine ⟨O, co, rfl, ?_, HB1.out⟩
  have e1 : tape = [] := List.eq_nil_of_length_eq_zero HTL.out
  rw [HRES.out, e1, zmh, ← e1]
  exact HR.out
 have hcp : 0 < cols := by omega
 have hq := znK hn hcp
 have hcz : ((cols : Int) == 0) = false := by simp; omega
 clear hn
 go_enter Try.func111, Try.ntmps111
 go_wp2_with (go_at_call 95; with_reducible refine HCL.out.mono ?_; rintro e w1 ⟨O, co, rfl, hR, hb1⟩; have HR := za.mk hR; have HB1 := za.mk hb1; obtain ⟨x1, x2⟩ := HK.out w1 hb1; clear hR hb1)
 have HR0 : za (Kd.R fk 5 w1 w.heap.size (fun _ => True) (.slice O n co) (Zh tape each us (0 * each))) := ⟨by rw [Nat.zero_mul, ziI]; exact HR.out⟩
 clear x1 x2 HR hq hcz
 go_loopw [35] (fun v35 wr => ∃ (c : Nat), c ≤ cols ∧ v35 = .int .i64 c ∧ za (Kd.R fk 5 wr w.heap.size (fun _ => True) (.slice O n co) (Zh tape each us (c * each))) ∧ za (Below w.heap.size w wr)) (fun v35 _ => cols - (intOf v35).toNat)
 case atStart => exact ⟨0, by omega, rfl, HR0, HB1⟩
 clear HR0 HB1
 obtain ⟨c, hc, rfl, HR, HB⟩ := hrel
 by_cases hlt : c < cols
 ·obtain ⟨adX, Q, lc, rfl, hxq, hlq, hCq⟩ := jV (zG HP.out HB.out) c hlt
  have hpl := HPL.out c hlt
  have huc := HUS.out c
  have hud := HDEG.out c hlt
  obtain ⟨p, hp⟩ : ∃ p, p = polys.getD c [] := ⟨_, rfl⟩
  rw [← hp] at hxq hlq hCq hpl huc
  obtain ⟨u, hu⟩ : ∃ u, u = us c := ⟨_, rfl⟩
  rw [← hu] at huc hud
  have hYw := Kd.C_below HY.out HB.out
  have HDIV : za (Calls Try.prog 130 #[.pointer (some ⟨g, 0, none⟩), .slice Q p.length lc, .slice Y my cy] wr fun e w' => ∃ X1 Y1 ly, e = .returned (.tuple #[.slice X1 u.length u.length, .slice Y1 ly ly, .bool true]) ∧ RF w' wr.heap.size X1 u ∧ Fr (fun _ => False) wr w') := ⟨by
   refine (zhE wr g Q Y p.length my lc cy p fac low (HF.out.fr (Fr.of_below HB.out (fun _ => False)) (fun h => h)) hCq hYw hmy hpl hml HLOW.out).mono ?_
   rintro e w' ⟨X1, Y1, q, r, rfl, h1, h2, h3, h4, h5⟩
   have e1 : u = zj q := by
    rw [huc]
    exact zkb ⟨r, h3, by rw [HLOW.out]; omega⟩
   rw [e1]
   exact ⟨X1, Y1, _, rfl, h1, h5⟩⟩
  obtain ⟨lp, hlp⟩ : ∃ lp, lp = p.length := ⟨_, rfl⟩
  obtain ⟨lu, hlu⟩ : ∃ lu, lu = u.length := ⟨_, rfl⟩
  rw [← hlp] at HDIV hxq
  rw [← hlu] at HDIV hud
  have HLU := za.mk hlu
  have HU := za.mk hu
  obtain ⟨x1, x2⟩ := HK.out wr HB.out
  have hcI : (c : Int) < (cols : Int) := by omega
  clear hCq hYw hlq hpl huc hp hlp hlu hu
  go_wp2_with (go_at_call 130; with_reducible refine HDIV.out.mono ?_; rintro e w2 ⟨X1, Y1, ly, rfl, hX1, hf2⟩; have HX1 := za.mk hX1; have HF2 := za.mk hf2; clear hX1 hf2)
  have HR1 : za (Kd.R fk 5 w2 w.heap.size (fun _ => True) (.slice O n co) (Zh tape each us (c * each + 0))) := ⟨jo HR.out HF2.out (fun _ _ _ _ h => h)⟩
  have HB2 : za (Below w.heap.size w w2) := ⟨HB.out.trans (HF2.out.f_below.mono HB.out.size)⟩
  have HOB : za (∀ j, OB O j → j < wr.heap.size ∧ w.heap.size ≤ j) := ⟨fun j hj => ⟨Kd.R_lt HR.out j (zV hj), Kd.R_base HR.out j (zV hj)⟩⟩
  have HXB : za (0 < lu → ∀ j, OB X1 j → ¬ OB O j) := ⟨fun h j hj ho => by
   have h1 := (HX1.out.2 (by rw [← HLU.out]; exact h) j hj).1
   have h2 := (HOB.out j ho).1
   omega⟩
  clear HR HB x1 x2 HDIV
  go_loopw [53] (fun v53 wq => ∃ (k : Nat), k ≤ lu ∧ v53 = .int .i64 k ∧ za (Kd.R fk 5 wq w.heap.size (fun _ => True) (.slice O n co) (Zh tape each us (c * each + k))) ∧ za (Fr (fun j => OB O j) w2 wq)) (fun v53 _ => lu - (intOf v53).toNat)
  case atStart => exact ⟨0, by omega, rfl, HR1, ⟨Fr.refl _ _⟩⟩
  clear HR1
  obtain ⟨k, hk, rfl, HRk, HFk⟩ := hrel
  by_cases hku : k < lu
  ·have hXk := jc HX1.out.1 HFk.out (fun j hj _ ho => HXB.out (by omega) j hj ho)
   rw [← HLU.out] at hXk
   obtain ⟨aX, rfl, hcx⟩ := Jc hXk (Fr.refl (fun _ => False) wr) (fun _ h => h.elim) k hku
   have hm : c * each + k < n := by
    have h1 : (c + 1) * each ≤ cols * each := Nat.mul_le_mul_right _ hlt
    rw [Nat.add_mul, Nat.one_mul] at h1
    have h2 := HN.out
    rw [Nat.mul_comm] at h2
    omega
   have hstep := zir (t := tape) (us := us) (c := c) (k := k) (n := each) (by omega) (by rw [HTL.out]; exact hm)
   have hget := zkm (t := tape) (n := each) (us := us) (m := c * each + k) (by rw [HTL.out]; exact hm)
   rw [← HU.out] at hstep
   obtain ⟨cm, hcm⟩ : ∃ cm, cm = c * each := ⟨_, rfl⟩
   have hRk := HRk.out
   rw [← hcm] at hm hstep hget hRk
   obtain ⟨m, hmm⟩ : ∃ m, m = cm + k := ⟨_, rfl⟩
   rw [← hmm] at hm hstep hget hRk
   obtain ⟨gO, rfl, hg1, hg2, _, hcell, hfz, hset⟩ := jJ (0 : F) hRk m hm
   rw [hget] at hcell
   obtain ⟨y, hy⟩ : ∃ y, y = tape.getD m 0 := ⟨_, rfl⟩
   obtain ⟨z, hz⟩ : ∃ z, z = u.getD k 0 := ⟨_, rfl⟩
   rw [← hy] at hcell hstep
   rw [← hz] at hcx hstep
   have hs2 := hset (y + z)
   rw [hstep] at hs2
   have hxr := zeB y z
   have HS2 : za (Kd.R fk 5 (wr.setCell ⟨gO, m, none⟩ (zZ (y + z))) w.heap.size (fun _ => True) (.slice (some ⟨gO, 0, none⟩) n co) (Zh tape each us (c * each + (k + 1)))) := ⟨by
    rw [← Nat.add_assoc, ← hcm, ← hmm]
    exact hs2⟩
   have HF3 : za (Fr (fun j => OB (some ⟨gO, 0, none⟩) j) w2 (wr.setCell ⟨gO, m, none⟩ (zZ (y + z)))) := ⟨HFk.out.set_ (p := ⟨gO, m, none⟩) (.inl ⟨_, rfl, rfl⟩) _⟩
   unfold zZ at hcell HS2 HF3
   generalize y + z = yz at *
   have hw1 : IntKind.i64.wrap ((c : Int) * (each : Int)) = (cm : Int) := by
    rw [← Int.natCast_mul, ← hcm]
    exact IntWalk.i64_in _ ⟨by omega, by omega⟩
   have hw2 : IntKind.i64.wrap ((cm : Int) + (k : Int)) = (m : Int) := by
    rw [← Int.natCast_add, ← hmm]
    exact IntWalk.i64_in _ ⟨by omega, by omega⟩
   have hmI : (m : Int) < (n : Int) := by omega
   have hkI : (k : Int) < (lu : Int) := by omega
   clear hset hs2 hstep hget hRk hcm hmm hy hz hXk HRk
   go_wp2
   go_roundw
   case rel => exact ⟨k + 1, by omega, by go_num, HS2, HF3⟩
   simp [intOf]; omega
  obtain rfl : lu = k := by omega
  have HR2 : za (Kd.R fk 5 wr w.heap.size (fun _ => True) (.slice O n co) (Zh tape each us ((c + 1) * each))) := ⟨by
   rw [← zlc (l := lu) hud (fun i hi => by rw [← HU.out]; exact zJ _ _ (by rw [← HLU.out]; exact hi))]
   exact HRk.out⟩
  have HB3 : za (Below w.heap.size w wr) := ⟨HB2.out.trans (HFk.out.below HB2.out.size (fun j hj => (HOB.out j hj).2))⟩
  clear HRk HFk
  go_wp2
  go_roundw
  case rel => exact ⟨c + 1, by omega, by go_num, HR2, HB3⟩
  simp [intOf]; omega
 obtain rfl : cols = c := by omega
 have hres : Zh tape each us (cols * each) = res := by
  rw [HRES.out]
  exact zkA (by rw [HTL.out, HN.out, Nat.mul_comm]; exact Nat.le_refl _)
 have hR := HR.out
 rw [hres] at hR
 have HR2 := za.mk hR
 clear hres hR
 go_wp2
 go_ret
 exact ⟨O, co, rfl, HR2.out, HB.out⟩
end Go.Proofs.Ytpeiejkcoadhfaa
namespace Go.Proofs.Ytpeiejkcoadhfaa
open Go.RowKit Go.Shelf Go.Proofs.YtpeiejkcoadhfaaW.PrintWords Go.Proofs.YtpeiejkcoadhfaaW.PrintMore
open Go.BigFrame
attribute [local go_sem] Oper.semAt_some
def JF (ps qs : List (List F)) (k : Nat) : List (List F) := (List.range k).map fun i => zj (zW (ps.getD i []) (qs.getD i []))
theorem zik (ps qs : List (List F)) (k : Nat) : JF ps qs (k + 1) = JF ps qs k ++ [zj (zW (ps.getD k []) (qs.getD k []))] := by simp [JF, List.range_succ]
set_option maxRecDepth 100000 in
set_option maxHeartbeats 3200000 in
theorem zgX (w : World) (A : Option Addr) (n c : Nat) (ps : List (List F)) (B : Option Addr) (d : Nat) (qs : List (List F)) (hA : PL w A n ps) (hB : PL w B n qs) (hn : n ≤ 1000) (hp : ∀ i, i < n → (ps.getD i []).length ≤ 1000000) (hq : ∀ i, i < n → (qs.getD i []).length ≤ 1000000) :
 Calls Try.prog 112 #[.slice A n c, .slice B n d] w fun e w' => ∃ D cd, e = .returned (.slice D n cd) ∧ yQ w' w.heap.size (.slice D n cd) (JF ps qs n) ∧ Below w.heap.size w w' := by
 have HA := za.mk hA
 have HB := za.mk hB
 have HP := za.mk hp
 have HQ := za.mk hq
 obtain ⟨sT, hsT⟩ : ∃ sT : Nat → List (List F), sT = fun k => JF ps qs k := ⟨_, rfl⟩
 have HS0 : za (sT 0 = []) := ⟨by rw [hsT]; rfl⟩
 have HSS : za (∀ k, sT (k + 1) = sT k ++ [zj (zW (ps.getD k []) (qs.getD k []))]) := ⟨fun k => by rw [hsT]; exact zik ps qs k⟩
 have HSE : za (JF ps qs n = sT n) := ⟨by rw [hsT]⟩
 rw [HSE.out]
 clear hA hB hp hq hsT HSE
 go_enter Try.func112, Try.ntmps112
 go_wp2
 go_loopw [5, 9] (fun v5 v9 wr => ∃ (k cp : Nat) (D : Option Addr), k ≤ n ∧ v9 = .int .i64 k ∧ v5 = .slice D k cp ∧ za (yQ wr w.heap.size (.slice D k cp) (sT k)) ∧ za (Below w.heap.size w wr)) (fun _ v9 _ => n - (intOf v9).toNat)
 case atStart => exact ⟨0, 0, none, by omega, rfl, rfl, ⟨by rw [HS0.out]; exact ziw _ _⟩, ⟨Below.refl _ _⟩⟩
 obtain ⟨k, cp, D, hk, rfl, rfl, HJ, HBW⟩ := hrel
 by_cases hlt : k < n
 ·obtain ⟨adA, A1, c1, rfl, hx1, hl1, hC1⟩ := jV HA.out k hlt
  obtain ⟨adB, B1, d1, rfl, hx2, hl2, hC2⟩ := jV HB.out k hlt
  have hlp := HP.out k hlt
  have hlq := HQ.out k hlt
  have hsk := HSS.out k
  obtain ⟨p, hpp⟩ : ∃ p, p = ps.getD k [] := ⟨_, rfl⟩
  obtain ⟨q, hqq⟩ : ∃ q, q = qs.getD k [] := ⟨_, rfl⟩
  rw [← hpp] at hx1 hl1 hC1 hlp hsk
  rw [← hqq] at hx2 hl2 hC2 hlq hsk
  have HADD := za.mk (zfS wr.drew A1 B1 p.length q.length c1 d1 p q (Kd.C_below hC1 HBW.out.drew) (Kd.C_below hC2 HBW.out.drew) (by omega) (by omega))
  obtain ⟨r, hr⟩ : ∃ r, r = zj (zW p q) := ⟨_, rfl⟩
  rw [← hr] at HADD hsk
  obtain ⟨lp, hlp2⟩ : ∃ lp, lp = p.length := ⟨_, rfl⟩
  obtain ⟨lq, hlq2⟩ : ∃ lq, lq = q.length := ⟨_, rfl⟩
  obtain ⟨lr, hlr⟩ : ∃ lr, lr = r.length := ⟨_, rfl⟩
  rw [← hlp2] at HADD hx1
  rw [← hlq2] at HADD hx2
  rw [← hlr] at HADD
  have HK : za (∀ W, Below w.heap.size w W → W.cell? (adA.add k) = some (.slice A1 lp c1) ∧ W.cell? (adB.add k) = some (.slice B1 lq d1)) := ⟨fun W hW => ⟨(Fr.of_below hW (fun _ => False)).cell hx1 (fun h => h), (Fr.of_below hW (fun _ => False)).cell hx2 (fun h => h)⟩⟩
  have HSTEP : za (∀ W2 X, RF W2 wr.drew.heap.size X r → Fr (fun _ => False) wr.drew W2 → ∃ D2 c2 W3, (Builtin.append_ #[37, 37] 37 #[.slice D k cp, .slice (some ⟨W2.heap.size, 0, none⟩) 1 1]).run Try.prog (W2.alloc (.cells #[.slice X lr lr] 36)) = .ok (.slice D2 (k + 1) c2) W3 ∧ za (yQ W3 w.heap.size (.slice D2 (k + 1) c2) (sT (k + 1))) ∧ za (Below w.heap.size w W3) ∧
   za (W2.cell? (adA.add k) = some (.slice A1 lp c1) ∧ W2.cell? (adB.add k) = some (.slice B1 lq d1)) ∧ za ((W2.alloc (.cells #[.slice X lr lr] 36)).cell? (adA.add k) = some (.slice A1 lp c1) ∧ (W2.alloc (.cells #[.slice X lr lr] 36)).cell? (adB.add k) = some (.slice B1 lq d1)) ∧ za (W3.cell? (adA.add k) = some (.slice A1 lp c1) ∧ W3.cell? (adB.add k) = some (.slice B1 lq d1))) := ⟨fun W2 X hX hf => by
   have hbw2 : Below wr.heap.size wr W2 := ZR hf.f_below
   have hb2 : Below w.heap.size w W2 := HBW.out.trans (hbw2.mono HBW.out.size)
   have hJ2 := JG HJ.out (Fr.of_below hbw2 (fun _ => False))
   obtain ⟨D2, c2, W3, hrun, hJ3, hb3, hf3⟩ := zds hJ2 hb2 X r r.length (yr hX HBW.out.size) (Nat.le_refl _) (by omega)
   rw [← hlr] at hrun
   exact ⟨D2, c2, W3, hrun, ⟨by rw [hsk]; exact hJ3⟩, ⟨hb3⟩, ⟨HK.out _ hb2⟩, ⟨HK.out _ (zc hb2 _)⟩, ⟨HK.out _ hb3⟩⟩⟩
  have hkI : (k : Int) < (n : Int) := by omega
  clear hl1 hC1 hl2 hC2 hlp hlq hsk hpp hqq hr hlp2 hlq2 hlr
  obtain ⟨y1, y2⟩ := HK.out wr HBW.out
  go_wp2
  clear y1 y2
  have k0 := za.mk (HK.out wr.drew HBW.out.drew)
  refine wp_region_held_drew (S := (fun W => W.cell? (adA.add k) = some (.slice A1 lp c1) ∧ W.cell? (adB.add k) = some (.slice B1 lq d1))) (by kernel_rfl) (k0.out) (fun hS => ?_)
  refine zk 0 12 hS ?_
  refine zk 1 13 hS ?_
  refine zk 2 14 hS ?_
  refine zk 3 15 hS ?_
  refine zk 4 16 hS ?_
  refine zk 5 17 hS ?_
  refine zk 6 18 hS ?_
  refine zk 7 19 hS ?_
  refine zk 8 20 hS ?_
  refine wpAnyH_ready (rs := [9]) (by kernel_rfl) (by simp) ?_
  refine AllReadyH.cons rfl (fun K hK => ?_) AllReadyH.nil
  rw [if_pos (by rfl)]
  go_simp
  go_at_call 86; with_reducible refine HADD.out.mono ?_; rintro e W2 ⟨X, rfl, hX, hf2⟩; obtain ⟨D2, c2, W3, hrun, HJ3, HB3, k1, k2, k3⟩ := HSTEP.out W2 X hX hf2; clear hX hf2
  refine hK.out _ _ (by first | with_reducible exact k3.out | with_reducible exact k2.out | with_reducible exact k1.out) (fun hS2 => ?_)
  clear hK K hS
  have hS := hS2
  clear hS2
  try simp only [Act.put, List.setIfInBounds_toArray, List.set_cons_zero, List.set_cons_succ]
  refine wpAnyH_ready (rs := [10]) (by kernel_rfl) (by simp) ?_
  refine AllReadyH.cons rfl (fun K hK => ?_) AllReadyH.nil
  rw [if_pos (by rfl)]
  go_simp
  refine hK.out _ _ (by first | with_reducible exact k3.out | with_reducible exact k2.out | with_reducible exact k1.out) (fun hS2 => ?_)
  clear hK K hS
  have hS := hS2
  clear hS2
  try simp only [Act.put, List.setIfInBounds_toArray, List.set_cons_zero, List.set_cons_succ]
  refine wpAnyH_ready (rs := [11]) (by kernel_rfl) (by simp) ?_
  refine AllReadyH.cons rfl (fun K hK => ?_) AllReadyH.nil
  refine yF rfl _ _ _ _ rfl rfl rfl hrun ?_
  refine hK.out _ _ (by first | with_reducible exact k3.out | with_reducible exact k2.out | with_reducible exact k1.out) (fun hS2 => ?_)
  clear hK K hS
  have hS := hS2
  clear hS2
  try simp only [Act.put, List.setIfInBounds_toArray, List.set_cons_zero, List.set_cons_succ, List.getElem_toArray, List.getElem_cons_zero, List.getElem_cons_succ]
  refine zk 12 5 hS ?_
  refine wpAnyH_done (by kernel_rfl) ?_ _
  clear hrun k0 k1 k2 k3 hS HADD HSTEP
  go_wp2
  go_roundw
  case rel => exact ⟨k + 1, c2, D2, by omega, by go_num, rfl, HJ3, HB3⟩
  simp [intOf]; omega
 obtain rfl : n = k := by omega
 go_wp2
 go_ret
 exact ⟨D, cp, rfl, HJ.out, HBW.out⟩
end Go.Proofs.Ytpeiejkcoadhfaa
namespace Go.Proofs.Ytpeiejkcoadhfaa
open Go.RowKit Go.Shelf Go.Proofs.YtpeiejkcoadhfaaW.PrintWords Go.Proofs.YtpeiejkcoadhfaaW.PrintMore
open Go.BigFrame
attribute [local go_sem] Oper.semAt_some
section
variable (w Wp : World) (s g N T K : Nat) (E Rm : Int) (cols : Nat) (A : Option Addr) (ne cb b : Nat) (qss : List (List (List F))) (hT : w.heap[s]? = some (yx g N T K E Rm cols (.slice A ne cb))) (hB : ByJ Wp b (.slice A ne cb) qss) (hbp : Below Wp.heap.size Wp w) (D S : Option Addr) (nd cd ns cs : Nat)
include hT hB hbp
set_option maxRecDepth 100000 in
set_option maxHeartbeats 3200000 in
theorem znq (e : Nat) (he : e < ne) (target : Int) :
 Calls Try.prog 113 #[.pointer (some ⟨s, 0, none⟩), .agg #[.int .i64 4, .int .i64 target, .slice D nd cd, .slice S ns cs], .int .i64 (e : Int)] w fun x w' => ∃ X cx Y, x = .returned (.tuple #[.slice X (qss.getD e []).length cx, .slice Y 1 1]) ∧ PLn w' X (qss.getD e []).length (qss.getD e []) (fun k => Wp.heap.size ≤ k) ∧ RF w' w.heap.size Y [1] ∧ Below w.heap.size w w' := by
 obtain ⟨V, hV, hzV, a0, hbV⟩ := zU w (.cells #[.int .i64 4, .int .i64 target, .slice D nd cd, .slice S ns cs] 90)
 have HV := za.mk hV
 have HBV := za.mk hbV
 have HBP := za.mk hbp
 have HZV := za.mk hzV
 have HT := za.mk hT
 have HB := za.mk hB
 obtain ⟨ad, X, cx, rfl, hx, hj⟩ := zhw hB e he
 have HJ := za.mk hj
 obtain ⟨bx, hbx⟩ : ∃ bx, bx = w.heap.size := ⟨_, rfl⟩
 have HBX := za.mk hbx
 obtain ⟨lx, hlx⟩ : ∃ lx, lx = (qss.getD e []).length := ⟨_, rfl⟩
 rw [← hlx] at hx HJ ⊢
 have HK : za (∀ W, Below V.heap.size V W → W.cell? ⟨s, 7, none⟩ = some (.slice (some ad) ne cb) ∧ W.cell? (ad.add e) = some (.slice X lx cx)) := ⟨fun W hW => by
  have h := zl (zl hT hbV) hW
  unfold yx at h
  exact ⟨zh h rfl, (Fr.of_below (hbV.trans (hW.mono hbV.size)) (fun _ => False)).cell ((Fr.of_below hbp (fun _ => False)).cell hx (fun h => h)) (fun h => h)⟩⟩
 have hu134 := Try.underlying134
 have hu90 := Try.underlying90
 have heI : (e : Int) < (ne : Int) := by omega
 clear hT hB hbp hj hzV a0 hbV hbx hlx hx hV
 have y := HK.out V (Below.refl _ _)
 rw [HV.out] at y
 obtain ⟨y1, y2⟩ := y
 go_enter Try.func113, Try.ntmps113
 go_wp2
 rw [← HV.out]
 go_ret2
 have hb1 : Below w.heap.size w (V.alloc (.cells #[.int .u8 1] 5)) := zc HBV.out _
 refine ⟨X, cx, _, rfl, yy (zln (zcX HJ.out)) (Fr.of_below (HBP.out.trans (hb1.mono HBP.out.size)) _), ?_, hb1⟩
 have h := jN (Zr V w.heap.size (fun _ => True) [1] (by decide) (by rw [HZV.out]; omega) trivial)
 rw [HZV.out] at h
 exact h
set_option maxRecDepth 100000 in
set_option maxHeartbeats 3200000 in
theorem znp (e : Nat) (he : e < ne) (target : Nat) (sn : List Int) (hS : Kd.C kz w S ns sn) (hns : ns ≤ 9223372036854775807) (hin : (target : Int) ∈ sn) :
 Calls Try.prog 113 #[.pointer (some ⟨s, 0, none⟩), .agg #[.int .i64 3, .int .i64 (target : Int), .slice D nd cd, .slice S ns cs], .int .i64 (e : Int)] w fun x w' => ∃ X cx Y, x = .returned (.tuple #[.slice X (qss.getD e []).length cx, .slice Y 2 2]) ∧ PLn w' X (qss.getD e []).length (qss.getD e []) (fun k => Wp.heap.size ≤ k) ∧ RF w' w.heap.size Y (lin (ptF target)) ∧ Below w.heap.size w w' := by
 obtain ⟨V, hV, hzV, a0, hbV⟩ := zU w (.cells #[.int .i64 3, .int .i64 (target : Int), .slice D nd cd, .slice S ns cs] 90)
 have HV := za.mk hV
 have HBV := za.mk hbV
 have HBP := za.mk hbp
 have HZV := za.mk hzV
 have hcon := jC V S ns cs sn (target : Int) (Kd.C_below hS hbV) hns
 rw [decide_eq_true hin] at hcon
 have HCON := za.mk hcon
 have HPT := za.mk (fun W => zaO W target)
 obtain ⟨pt, hpt⟩ : ∃ pt, pt = ptF target := ⟨_, rfl⟩
 rw [← hpt] at HPT ⊢
 obtain ⟨ad, X, cx, rfl, hx, hj⟩ := zhw hB e he
 have HJ := za.mk hj
 obtain ⟨lx, hlx⟩ : ∃ lx, lx = (qss.getD e []).length := ⟨_, rfl⟩
 rw [← hlx] at hx HJ ⊢
 have HK : za (∀ W, Below V.heap.size V W → W.cell? ⟨s, 7, none⟩ = some (.slice (some ad) ne cb) ∧ W.cell? (ad.add e) = some (.slice X lx cx) ∧ W.cell? ⟨w.heap.size, 1, none⟩ = some (.int .i64 (target : Int)) ∧ W.cell? ⟨w.heap.size, 3, none⟩ = some (.slice S ns cs)) := ⟨fun W hW => by
  have h := zl (zl hT hbV) hW
  have h2 := zl a0 hW
  unfold yx at h
  exact ⟨zh h rfl, (Fr.of_below (hbV.trans (hW.mono hbV.size)) (fun _ => False)).cell ((Fr.of_below hbp (fun _ => False)).cell hx (fun h => h)) (fun h => h), zh h2 rfl, zh h2 rfl⟩⟩
 have hu134 := Try.underlying134
 have hu90 := Try.underlying90
 have heI : (e : Int) < (ne : Int) := by omega
 have y := HK.out V (Below.refl _ _)
 rw [HV.out] at y HCON
 obtain ⟨y1, y2, y3, y4⟩ := y
 clear hT hB hbp hj hzV a0 hbV hlx hx hV hcon hpt hS hin
 go_enter Try.func113, Try.ntmps113
 have HPD : za (∀ W W', Below V.heap.size V W → zq W W' → Below V.heap.size V W') := ⟨fun W W' h hd => by obtain ⟨k, rfl⟩ := hd; exact yu h k⟩
 have HPD0 : za (∀ W', zq (w.alloc (.cells #[.int .i64 3, .int .i64 (target : Int), .slice D nd cd, .slice S ns cs] 90)) W' → Below V.heap.size V W') := ⟨fun W' hd => HPD.out V W' (Below.refl _ _) (by rw [HV.out]; exact hd)⟩
 go_wp2_with (go_at_call 114; with_reducible refine HCON.out.mono ?_; rintro x w1 ⟨rfl, hd1⟩; have HB1 := za.mk (HPD0.out w1 hd1); obtain ⟨y1, y2, y3, y4⟩ := HK.out w1 HB1.out; clear hd1)
 have HB2 : za (Below V.heap.size V w1.drew) := ⟨HB1.out.drew⟩
 have k0 := za.mk (HK.out _ HB2.out)
 clear y1 y2 y3 y4
 refine wp_region_held_drew (S := (fun W => W.cell? ⟨s, 7, none⟩ = some (.slice (some ad) ne cb) ∧ W.cell? (ad.add e) = some (.slice X lx cx) ∧ W.cell? ⟨w.heap.size, 1, none⟩ = some (.int .i64 (target : Int)) ∧ W.cell? ⟨w.heap.size, 3, none⟩ = some (.slice S ns cs))) (by kernel_rfl) (k0.out) (fun hS => ?_)
 refine zk 0 45 hS ?_
 refine zk 1 46 hS ?_
 refine zk 2 47 hS ?_
 refine zk 3 48 hS ?_
 refine zk 4 49 hS ?_
 refine zk 5 50 hS ?_
 refine zk 6 51 hS ?_
 refine zk 7 52 hS ?_
 refine zk 8 53 hS ?_
 refine wpAnyH_ready (rs := [9]) (by kernel_rfl) (by simp) ?_
 refine AllReadyH.cons rfl (fun K hK => ?_) AllReadyH.nil
 rw [if_pos (by rfl)]
 go_simp
 go_at_call 81; with_reducible refine (HPT.out _).mono ?_; rintro x w2 ⟨rfl, hd2⟩; have HB3 := za.mk (HPD.out _ _ HB2.out hd2); have k3 := za.mk (HK.out _ HB3.out); have k4 := za.mk (HK.out _ (zc HB3.out (.cells #[.int .u8 (pt.v : Int), .int .u8 1] 5))); clear hd2
 refine hK.out _ _ (by first | with_reducible exact k4.out | with_reducible exact k3.out) (fun hS2 => ?_)
 clear hK K hS
 have hS := hS2
 clear hS2
 try simp only [Act.put, List.setIfInBounds_toArray, List.set_cons_zero, List.set_cons_succ]
 refine zk 11 6 hS ?_
 refine wpAnyH_ready (rs := [10]) (by kernel_rfl) (by simp) ?_
 refine AllReadyH.cons rfl (fun K hK => ?_) AllReadyH.nil
 rw [if_pos (by rfl)]
 go_simp
 refine hK.out _ _ (by first | with_reducible exact k4.out | with_reducible exact k3.out) (fun hS2 => ?_)
 clear hK K hS
 have hS := hS2
 clear hS2
 try simp only [Act.put, List.setIfInBounds_toArray, List.set_cons_zero, List.set_cons_succ]
 refine zk 12 7 hS ?_
 refine wpAnyH_done (by kernel_rfl) ?_ _
 clear hS k0 k3 k4
 go_wp2
 go_ret2
 have hb2 := zc HB3.out (.cells #[.int .u8 (pt.v : Int), .int .u8 1] 5)
 have hb1 := HBV.out.trans (hb2.mono HBV.out.size)
 refine ⟨X, cx, _, rfl, yy (zln (zcX HJ.out)) (Fr.of_below (HBP.out.trans (hb1.mono HBP.out.size)) _), ?_, hb1⟩
 exact jN (Zr w2 w.heap.size (fun _ => True) [pt, 1] (by simp) (Nat.le_trans HBV.out.size HB3.out.size) trivial)
set_option maxRecDepth 100000 in
set_option maxHeartbeats 3200000 in
theorem znf (e : Nat) (he : e + 1 < ne) (hne : ne ≤ 1000000) (target : Int) (hF : Fld w g) (hN : N ≤ 255) (hK : K ≤ 255) (hcl : cols ≤ 256) (h1 : (qss.getD e []).length = cols) (h2 : (qss.getD (e + 1) []).length = cols) (hp : ∀ i, i < cols → ((qss.getD e []).getD i []).length ≤ 1000000) (hq : ∀ i, i < cols → ((qss.getD (e + 1) []).getD i []).length ≤ 1000000) :
 Calls Try.prog 113 #[.pointer (some ⟨s, 0, none⟩), .agg #[.int .i64 2, .int .i64 target, .slice D nd cd, .slice S ns cs], .int .i64 (e : Int)] w fun x w' => ∃ X cx Y, x = .returned (.tuple #[.slice X cols cx, .slice Y (K + 1) (K + 1)]) ∧ PLn w' X cols (JF (qss.getD e []) (qss.getD (e + 1) []) cols) (fun k => k < w.heap.size) ∧ RF w' w.heap.size Y (zw (zN N K)) ∧ Below w.heap.size w w' := by
 obtain ⟨V, hV, hzV, a0, hbV⟩ := zU w (.cells #[.int .i64 2, .int .i64 target, .slice D nd cd, .slice S ns cs] 90)
 have HV := za.mk hV
 have HBV := za.mk hbV
 have HBP := za.mk hbp
 obtain ⟨ad, X1, c1, e1, hx1, hj1⟩ := zhw hB e (by omega)
 obtain ⟨ad2, X2, c2, e2, hx2, hj2⟩ := zhw hB (e + 1) he
 rw [e1] at e2
 injection e2 with e2
 subst e2
 subst e1
 rw [h1] at hx1 hj1
 rw [h2] at hx2 hj2
 have HSUM : za (∀ W, Below V.heap.size V W → Calls Try.prog 112 #[.slice X1 cols c1, .slice X2 cols c2] W fun x w' => ∃ D cd, x = .returned (.slice D cols cd) ∧ yQ w' W.heap.size (.slice D cols cd) (JF (qss.getD e []) (qss.getD (e + 1) []) cols) ∧ Below W.heap.size W w') := ⟨fun W hW => by
  have hb := hbV.trans (hW.mono hbV.size)
  exact zgX W X1 cols c1 _ X2 c2 _ (zG (zcX hj1) (hbp.trans (hb.mono hbp.size))) (zG (zcX hj2) (hbp.trans (hb.mono hbp.size))) (by omega) hp hq⟩
 obtain ⟨sl, hsl⟩ : ∃ sl, sl = zN N K := ⟨_, rfl⟩
 have HSEC := za.mk (fun W => Zz W N K (T : Int) E Rm (by omega) (by omega))
 rw [← hsl] at HSEC ⊢
 have HRT : za (∀ W (Y : Option Addr) d, Below V.heap.size V W → Kd.C fk W Y K sl → Calls Try.prog 83 #[.pointer (some ⟨g, 0, none⟩), .slice Y K d] W fun x w' => ∃ D, x = .returned (.slice D (K + 1) (K + 1)) ∧ RF w' W.heap.size D (zw sl) ∧ Fr (fun _ => False) W w') := ⟨fun W Y d hW hC => JC W g Y K d sl (hF.fr (Fr.of_below (hbV.trans (hW.mono hbV.size)) (fun _ => False)) (fun h => h)) hC (by omega)⟩
 obtain ⟨sm, hsm⟩ : ∃ sm, sm = JF (qss.getD e []) (qss.getD (e + 1) []) cols := ⟨_, rfl⟩
 rw [← hsm] at HSUM ⊢
 obtain ⟨rt, hrt⟩ : ∃ rt, rt = zw sl := ⟨_, rfl⟩
 rw [← hrt] at HRT ⊢
 obtain ⟨f, hf⟩ : ∃ f, f = e + 1 := ⟨_, rfl⟩
 rw [← hf] at hx2
 have HK : za (∀ W, Below V.heap.size V W → W.cell? ⟨s, 7, none⟩ = some (.slice (some ad) ne cb) ∧ W.cell? (ad.add e) = some (.slice X1 cols c1) ∧ W.cell? (ad.add f) = some (.slice X2 cols c2) ∧ W.cell? ⟨s, 0, none⟩ = some (.pointer (some ⟨g, 0, none⟩)) ∧ W.cell? ⟨s, 1, none⟩ = some (.int .i64 N) ∧ W.cell? ⟨s, 2, none⟩ = some (.int .i64 T) ∧ W.cell? ⟨s, 3, none⟩ = some (.int .i64 K) ∧ W.cell? ⟨s, 4, none⟩ = some (.int .i64 E) ∧ W.cell? ⟨s, 5, none⟩ = some (.int .i64 Rm)) := ⟨fun W hW => by
  have h := zl (zl hT hbV) hW
  have hf := Fr.of_below (hbV.trans (hW.mono hbV.size)) (fun _ => False)
  unfold yx at h
  exact ⟨zh h rfl, hf.cell ((Fr.of_below hbp (fun _ => False)).cell hx1 (fun h => h)) (fun h => h), hf.cell ((Fr.of_below hbp (fun _ => False)).cell hx2 (fun h => h)) (fun h => h), zh h rfl, zh h rfl, zh h rfl, zh h rfl, zh h rfl, zh h rfl⟩⟩
 have HBT : za (∀ W W', Below V.heap.size V W → Below W.heap.size W W' → Below V.heap.size V W') := ⟨fun W W' h h' => h.trans (h'.mono h.size)⟩
 have hu134 := Try.underlying134
 have hu90 := Try.underlying90
 have heI : (e : Int) < (ne : Int) := by omega
 have heI2 : (e : Int) + 1 < (ne : Int) := by omega
 have heI3 : (0 : Int) ≤ (e : Int) + 1 := by omega
 have heI4 : ((e : Int) + 1).toNat = f := by omega
 have hw1 : IntKind.i64.wrap ((e : Int) + 1) = (e : Int) + 1 := IntWalk.i64_in _ ⟨by omega, by omega⟩
 unfold zv at HSEC
 clear hT hB hbp hj1 hj2 hzV a0 hbV hx1 hx2 hV hF hp hq h1 h2 hsl hsm hrt hf
 go_enter Try.func113, Try.ntmps113
 go_wp2
 rw [← HV.out]
 have HB0 : za (Below V.heap.size V V.drew) := ⟨(Below.refl _ _).drew⟩
 have k0 := za.mk (HK.out _ HB0.out)
 refine wp_region_held_drew (S := (fun W => W.cell? ⟨s, 7, none⟩ = some (.slice (some ad) ne cb) ∧ W.cell? (ad.add e) = some (.slice X1 cols c1) ∧ W.cell? (ad.add f) = some (.slice X2 cols c2) ∧ W.cell? ⟨s, 0, none⟩ = some (.pointer (some ⟨g, 0, none⟩)) ∧ W.cell? ⟨s, 1, none⟩ = some (.int .i64 N) ∧ W.cell? ⟨s, 2, none⟩ = some (.int .i64 T) ∧ W.cell? ⟨s, 3, none⟩ = some (.int .i64 K) ∧ W.cell? ⟨s, 4, none⟩ = some (.int .i64 E) ∧ W.cell? ⟨s, 5, none⟩ = some (.int .i64 Rm))) (by kernel_rfl) (k0.out) (fun hS => ?_)
 refine zk 0 12 hS ?_
 refine zk 1 13 hS ?_
 refine zk 2 14 hS ?_
 refine zk 3 15 hS ?_
 refine zk 4 16 hS ?_
 refine zk 5 17 hS ?_
 refine zk 6 18 hS ?_
 refine zk 7 19 hS ?_
 refine zk 8 20 hS ?_
 refine zk 9 21 hS ?_
 refine zk 10 22 hS ?_
 refine zk 11 23 hS ?_
 refine zk 12 24 hS ?_
 refine zk 13 25 hS ?_
 refine zk 14 26 hS ?_
 refine zk 16 28 hS ?_
 refine zk 17 29 hS ?_
 refine zk 18 30 hS ?_
 refine zk 19 31 hS ?_
 refine zk 20 32 hS ?_
 refine zk 21 33 hS ?_
 refine zk 22 34 hS ?_
 refine zk 23 35 hS ?_
 refine wpAnyH_ready (rs := [15]) (by kernel_rfl) (by simp) ?_
 refine AllReadyH.cons rfl (fun K hK => ?_) AllReadyH.nil
 rw [if_pos (by rfl)]
 go_simp
 go_at_call 112; with_reducible refine (HSUM.out _ HB0.out).mono ?_; rintro x w1 ⟨X, cx, rfl, hJ, hb1⟩; have HJ := za.mk hJ; have HB1 := za.mk (HBT.out _ _ HB0.out hb1); have k1 := za.mk (HK.out _ HB1.out); clear hJ hb1
 refine hK.out _ _ (by first | with_reducible exact k3.out | with_reducible exact k2.out | with_reducible exact k1.out) (fun hS2 => ?_)
 clear hK K hS
 have hS := hS2
 clear hS2
 try simp only [Act.put, List.setIfInBounds_toArray, List.set_cons_zero, List.set_cons_succ]
 refine wpAnyH_ready (rs := [24]) (by kernel_rfl) (by simp) ?_
 refine AllReadyH.cons rfl (fun K hK => ?_) AllReadyH.nil
 rw [if_pos (by rfl)]
 go_simp
 go_at_call 47; with_reducible refine (HSEC.out _).mono ?_; rintro x w2 ⟨Y, dy, rfl, hR, hb2⟩; have HR := za.mk (R_C hR); have HB12 := za.mk hb2; have HB2 := za.mk (HBT.out _ _ HB1.out hb2); have k2 := za.mk (HK.out _ HB2.out); clear hR hb2
 refine hK.out _ _ (by first | with_reducible exact k3.out | with_reducible exact k2.out | with_reducible exact k1.out) (fun hS2 => ?_)
 clear hK K hS
 have hS := hS2
 clear hS2
 try simp only [Act.put, List.setIfInBounds_toArray, List.set_cons_zero, List.set_cons_succ]
 refine wpAnyH_ready (rs := [25]) (by kernel_rfl) (by simp) ?_
 refine AllReadyH.cons rfl (fun K hK => ?_) AllReadyH.nil
 rw [if_pos (by rfl)]
 go_simp
 go_at_call 83; with_reducible refine (HRT.out _ _ _ HB2.out HR.out).mono ?_; rintro x w3 ⟨Z, rfl, hZ, hf3⟩; have HZ := za.mk hZ; have HB23 := za.mk hf3.f_below; have HB3 := za.mk (HBT.out _ _ HB2.out hf3.f_below); have k3 := za.mk (HK.out _ HB3.out); clear hZ hf3
 refine hK.out _ _ (by first | with_reducible exact k3.out | with_reducible exact k2.out | with_reducible exact k1.out) (fun hS2 => ?_)
 clear hK K hS
 have hS := hS2
 clear hS2
 try simp only [Act.put, List.setIfInBounds_toArray, List.set_cons_zero, List.set_cons_succ]
 refine zk 26 6 hS ?_
 refine zk 27 7 hS ?_
 refine wpAnyH_done (by kernel_rfl) ?_ _
 clear hS k0 k1 k2 k3
 go_wp2
 go_ret2
 exact ⟨X, cx, Z, rfl, yM (yy (yy (zoP HJ.out) (Fr.of_below HB12.out _)) (Fr.of_below HB23.out _)) (fun k _ hk => Nat.lt_of_lt_of_le hk HBV.out.size), yr HZ.out (Nat.le_trans HBV.out.size HB2.out.size), HBV.out.trans (HB3.out.mono HBV.out.size)⟩
set_option maxRecDepth 100000 in
set_option maxHeartbeats 3200000 in
theorem zmV (e : Nat) (target : Nat) (sn : List Int) (hS : Kd.C kz w S ns sn) (hns : ns ≤ 9223372036854775807) (hin : (target : Int) ∉ sn) :
 Calls Try.prog 113 #[.pointer (some ⟨s, 0, none⟩), .agg #[.int .i64 3, .int .i64 (target : Int), .slice D nd cd, .slice S ns cs], .int .i64 (e : Int)] w fun x w' => x = .returned (.tuple #[.slice none 0 0, .slice none 0 0]) ∧ Below w.heap.size w w' := by
 obtain ⟨V, hV, hzV, a0, hbV⟩ := zU w (.cells #[.int .i64 3, .int .i64 (target : Int), .slice D nd cd, .slice S ns cs] 90)
 have HV := za.mk hV
 have HBV := za.mk hbV
 have HBP := za.mk hbp
 have hcon := jC V S ns cs sn (target : Int) (Kd.C_below hS hbV) hns
 rw [decide_eq_false hin] at hcon
 have HCON := za.mk hcon
 have hu134 := Try.underlying134
 have hu90 := Try.underlying90
 have HPD0 : za (∀ W', zq (w.alloc (.cells #[.int .i64 3, .int .i64 (target : Int), .slice D nd cd, .slice S ns cs] 90)) W' → Below w.heap.size w W') := ⟨fun W' hd => by
  obtain ⟨k, rfl⟩ := hd
  rw [← hV]
  exact yu hbV k⟩
 rw [HV.out] at HCON
 clear hT hB hbp hzV a0 hbV hV hcon hS hin
 go_enter Try.func113, Try.ntmps113
 go_wp2_with (go_at_call 114; with_reducible refine HCON.out.mono ?_; rintro x w1 ⟨rfl, hd1⟩; have HB1 := za.mk (HPD0.out w1 hd1); clear hd1)
 go_ret2
 exact ⟨rfl, HB1.out⟩
set_option maxRecDepth 100000 in
set_option maxHeartbeats 3200000 in
theorem znd (e : Nat) (target : Int) :
 Calls Try.prog 113 #[.pointer (some ⟨s, 0, none⟩), .agg #[.int .i64 0, .int .i64 target, .slice D nd cd, .slice S ns cs], .int .i64 (e : Int)] w fun x w' => x = .returned (.tuple #[.slice none 0 0, .slice none 0 0]) ∧ Below w.heap.size w w' := by
 have hu134 := Try.underlying134
 have hu90 := Try.underlying90
 clear hT hB hbp
 go_enter Try.func113, Try.ntmps113
 go_wp2
 go_ret2
 exact ⟨rfl, zc (Below.refl _ _) _⟩
end
end Go.Proofs.Ytpeiejkcoadhfaa
