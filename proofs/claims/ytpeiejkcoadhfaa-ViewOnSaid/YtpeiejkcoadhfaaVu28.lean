/- What the view's laws take, Vu28: PzY. -/
import Derived.Test.YtpeiejkcoadhfaaVu21
import Derived.Test.YtpeiejkcoadhfaaVu23
set_option linter.all false
namespace Go.Proofs.Ytpeiejkcoadhfaa
open Go.RowKit Go.Shelf Go.Proofs.YtpeiejkcoadhfaaW.PrintWords Go.Proofs.YtpeiejkcoadhfaaW.PrintMore
open Go.BigFrame
def ZE (W : World) (b : Nat) (v : Value) (qs : List (List F)) : Prop :=
 ∃ hs : List Hd, Kd.R kh 36 W b (fun _ => True) v hs ∧ hs.length = qs.length ∧ ∀ i, i < qs.length → ∃ B c, hs.getD i hd0 = (B, (qs.getD i []).length, c) ∧ (qs.getD i []).length ≤ c ∧ RF W b B (qs.getD i [])
theorem zkF (W : World) (b : Nat) : ZE W b (.slice none 0 0) [] := ⟨[], Kd.R_nil _ _ _ _ _, rfl, fun i hi => absurd hi (by simp)⟩
theorem zmw {S : Nat → Prop} {W W1 : World} {b : Nat} {v : Value} {qs : List (List F)} (h : ZE W b v qs) (hf : Fr S W W1) (hS : zhA S b W) : ZE W1 b v qs := by
 obtain ⟨hs, h1, h2, h3⟩ := h
 obtain ⟨A, c, rfl⟩ := Kd.R_slice h1
 refine ⟨hs, zdf h1 hf (fun k hk hs' => ?_), h2, fun i hi => ?_⟩
 ·obtain ⟨cells, hc⟩ := Kd.R_typed h1 k (zV hk)
  exact (hS k (jK (Kd.Q_of_R h1) k hk).1 hs' cells 36 hc).2 rfl
 obtain ⟨B, c, e, hc, hr⟩ := h3 i hi
 exact ⟨B, c, e, hc, jr hr hf (fun k hk hs' cells t hc => (hS k hk hs' cells t hc).1)⟩
theorem zcS {W W1 : World} {b : Nat} {v : Value} {qs : List (List F)} (h : ZE W b v qs) (hb : Below W.heap.size W W1) : ZE W1 b v qs := zmw h (Fr.of_below hb (fun _ => False)) (zdw _ _)
theorem zgD {W : World} {b b' : Nat} {v : Value} {qs : List (List F)} (h : ZE W b v qs) (hb : b' ≤ b) : ZE W b' v qs := by
 obtain ⟨hs, h1, h2, h3⟩ := h
 exact ⟨hs, Kd.R_lower h1 hb, h2, fun i hi => by obtain ⟨B, c, e, hc, hr⟩ := h3 i hi; exact ⟨B, c, e, hc, yr hr hb⟩⟩
theorem zhe {W : World} {b c : Nat} {A : Option Addr} {n : Nat} {qs : List (List F)} (h : ZE W b (.slice A n c) qs) : PL W A n qs := by
 obtain ⟨hs, h1, h2, h3⟩ := h
 have h4 := Kd.R_reads' h1
 have hn : n = qs.length := by rw [← h2]; exact h4.1
 refine ⟨hs, R_C h1, hn.symm, fun i hi => ?_⟩
 obtain ⟨B, c, e, hc, hr⟩ := h3 i (by omega)
 rw [e]
 exact ⟨rfl, hc, hr.1⟩
theorem ziG (wr : World) (b : Nat) (v : Value) (qs : List (List F)) (H : ZE wr b v qs) (hb : b ≤ wr.heap.size) (B : Option Addr) (q : List F) (cq : Nat) (hcq : q.length ≤ cq) (hB : RF wr b B q) (m : Nat) (hm : qs.length = m) (hml : m ≤ 1099511627776) :
 ∃ B' d' W', (Builtin.append_ #[37, 37] 37 #[v, .slice (some ⟨wr.heap.size, 0, none⟩) 1 1]).run Try.prog (wr.alloc (.cells #[.slice B q.length cq] 36)) = .ok (.slice B' (m + 1) d') W' ∧ ZE W' b (.slice B' (m + 1) d') (qs ++ [q]) ∧ Fr (fun k => b ≤ k ∧ v.ownBlock = some k) wr W' := by
 subst hm
 obtain ⟨hs, h1, h2, h3⟩ := H
 have hb1 : Below wr.heap.size wr (wr.alloc (.cells #[ja (B, q.length, cq)] 36)) := zc (Below.refl _ _) _
 have hlit : Kd.R kh 36 (wr.alloc (.cells #[ja (B, q.length, cq)] 36)) wr.heap.size (fun _ => True) (.slice (some ⟨wr.heap.size, 0, none⟩) 1 1) [(B, q.length, cq)] :=
  Kd.R_of_own (yA wr wr.heap.size 36 [(B, q.length, cq)] (Nat.le_refl _) (by simp)) (fun _ _ => trivial)
 have hr := jo h1 (Fr.of_below hb1 (fun _ => False)) (fun _ _ _ _ h => h)
 obtain ⟨v', W', hrun, hR, hgr, hat⟩ := zR (P := Try.prog) ja hd0 (wr.alloc (.cells #[ja (B, q.length, cq)] 36)) b 37 37 36 (.slice none 0 0) 24 Try.underlying37 zaa rfl (ys := [(B, q.length, cq)]) (c := 1) hr (R_C hlit) (by simp only [List.length_cons, List.length_nil]; omega) (by omega) (Nat.le_trans hb hb1.size) (fun _ _ => trivial)
 obtain ⟨B', d', rfl⟩ := Kd.R_slice hR
 rw [List.length_append, h2] at hrun hR
 have hf : Fr (fun k => b ≤ k ∧ v.ownBlock = some k) wr W' := (Fr.of_below hb1 _).trans (Fr.of_grown hgr (fun k hk => .inl ⟨Kd.R_base h1 k hk, hk⟩)) (fun k hk => .inl hk)
 have hno : ∀ k, b ≤ k → (b ≤ k ∧ v.ownBlock = some k) → ∀ cells t, wr.heap[k]? = some (.cells cells t (0, 0)) → t ≠ 5 := fun k _ hk cells t hc => by
  obtain ⟨c2, hc2⟩ := Kd.R_typed h1 k hk.2
  rw [hc] at hc2
  injection hc2 with hc2
  injection hc2 with _ hc2
  rw [hc2]
  decide
 refine ⟨B', d', W', hrun, ⟨hs ++ [(B, q.length, cq)], hR, by simp [h2], fun i hi => ?_⟩, hf⟩
 rw [List.length_append, List.length_cons, List.length_nil] at hi
 rw [ZD, ZD, h2]
 by_cases e : i < qs.length
 ·rw [if_pos e, if_pos e]
  obtain ⟨B0, c0, e0, hc0, hr0⟩ := h3 i e
  exact ⟨B0, c0, e0, hc0, jr hr0 hf hno⟩
 rw [if_neg e, if_neg e, if_pos (by omega), if_pos (by omega)]
 exact ⟨B, cq, rfl, hcq, jr hB hf hno⟩
theorem zmU {W : World} {b c : Nat} {A : Option Addr} {n : Nat} {qs : List (List F)} (h : ZE W b (.slice A n c) qs) (k : Nat) (hk : k < n) :
 ∃ g B d, A = some ⟨g, 0, none⟩ ∧ b ≤ g ∧ W.cell? ⟨g, k, none⟩ = some (.slice B (qs.getD k []).length d) ∧ (qs.getD k []).length ≤ d ∧ Kd.C fk W B (qs.getD k []).length (qs.getD k []) ∧ W.frozen? ⟨g, k, none⟩ = false ∧
   ∀ W1, Below W.heap.size W W1 → W1.cell? ⟨g, k, none⟩ = some (.slice B (qs.getD k []).length d) ∧ W1.frozen? ⟨g, k, none⟩ = false ∧
     ∀ D q cq, q.length ≤ cq → RF W1 b D q → ZE (W1.setCell ⟨g, k, none⟩ (.slice D q.length cq)) b (.slice A n c) (qs.set k q) := by
 have hfr := fun W1 (hb : Below W.heap.size W W1) => zcS h hb
 obtain ⟨hs, h1, h2, h3⟩ := h
 have hn : n = hs.length := (Kd.Q_reads' (Kd.Q_of_R h1)).1
 obtain ⟨g, e, hbg, _, _, hx, hz, _⟩ := jJ hd0 h1 k hk
 obtain ⟨B, d, eh, hd, hr⟩ := h3 k (by omega)
 rw [eh] at hx
 refine ⟨g, B, d, e, hbg, hx, hd, hr.1, hz, fun W1 hb => ?_⟩
 obtain ⟨hs', h1', h2', h3'⟩ := hfr W1 hb
 obtain ⟨g', e', _, _, _, hx', hz', hset⟩ := jJ hd0 h1' k hk
 rw [e] at e'
 injection e' with e'
 injection e' with e' _ _
 subst e'
 have hcell : W1.cell? ⟨g, k, none⟩ = some (.slice B (qs.getD k []).length d) := (hb.cell (p := ⟨g, k, none⟩) (World.block_lt_of_cell? W _ hx)).trans hx
 refine ⟨hcell, hz', fun D q cq hcq hq => ?_⟩
 have hf : Fr (fun j => j = g) W1 (W1.setCell ⟨g, k, none⟩ (.slice D q.length cq)) := (Fr.refl (fun j => j = g) W1).set_ (p := ⟨g, k, none⟩) (.inl rfl) _
 have hgt : ∀ j, b ≤ j → j = g → ∀ cells t, W1.heap[j]? = some (.cells cells t (0, 0)) → t ≠ 5 := fun j _ hj cells t hc => by
  obtain ⟨c2, hc2⟩ := Kd.R_typed h1' j (by rw [e, hj]; simp [Value.ownBlock])
  rw [hc] at hc2
  injection hc2 with hc2
  injection hc2 with _ hc2
  rw [hc2]
  decide
 have hset' := hset (D, q.length, cq)
 refine ⟨hs'.set k (D, q.length, cq), hset', by rw [List.length_set, List.length_set]; exact h2', fun i hi => ?_⟩
 rw [List.length_set] at hi
 have hn' : n = hs'.length := (Kd.Q_reads' (Kd.Q_of_R h1')).1
 rw [Jd _ _ _ _ _ (by omega), Jd _ _ _ _ _ (by omega)]
 by_cases ei : i = k
 ·rw [if_pos ei, if_pos ei]
  exact ⟨D, cq, rfl, hcq, jr hq hf hgt⟩
 rw [if_neg ei, if_neg ei]
 obtain ⟨B0, c0, e0, hc0, hr0⟩ := h3' i hi
 exact ⟨B0, c0, e0, hc0, jr hr0 hf hgt⟩
theorem zgE (cols en : Nat) (fs rnd : List F) : yj (cols + 1) en fs rnd = yj cols en fs rnd ++ [zj (zB fs (yn rnd en cols))] := by simp [yj, List.range_succ]
theorem zbp (cols en : Nat) (fs rnd : List F) : (yj cols en fs rnd).length = cols := by simp [yj]
set_option maxRecDepth 100000 in
set_option maxHeartbeats 1600000 in
theorem zcU (w : World) (N T K : Nat) (E Rm kind : Int) (cols : Nat) (A X : Option Addr) (n c nf cf' : Nat) (rnd fs : List F) (hr : Kd.C fk w A n rnd) (hf : Kd.C fk w X nf fs) (hc : n ≤ c) (hT : T ≤ 1000) (hK : K ≤ 1000) (hTK : 1 ≤ T + K) (hcl : cols ≤ 100000) (hn : zD T K kind * cols ≤ n) (hnl : n ≤ 1099511627775) (hnf : nf ≤ 1000000) :
 Calls Try.prog 89 #[zv N T K E Rm, .int .i64 kind, .int .i64 cols, .slice A n c, .slice X nf cf'] w fun e w' => ∃ B d, e = .returned (.slice B cols d) ∧ ZE w' w.heap.size (.slice B cols d) (yj cols (zD T K kind) fs rnd) ∧ Below w.heap.size w w' := by
 have HEA := za.mk (fun W => zjV W N T K E Rm kind hT hK hTK)
 obtain ⟨en, hen⟩ : ∃ en, en = zD T K kind := ⟨_, rfl⟩
 have henl := jH T K kind hT hK
 rw [← hen] at HEA hn henl ⊢
 have HR := za.mk hr
 have HX := za.mk hf
 have HHN := za.mk hn
 have hu48 := Try.underlying48
 unfold zv at *
 clear hr hf hen hn
 go_enter Try.func89, Try.ntmps89
 go_wp2_with (go_at_call 50; with_reducible refine (HEA.out _).mono ?_; rintro e W1 ⟨rfl, hb1⟩; replace hb1 := za.mk hb1)
 have HB1 : za (Below w.heap.size w W1) := ⟨yh (zc (Below.refl _ w) _) (by simp) hb1.out⟩
 clear hb1 HEA
 go_loopw [11, 13] (fun v11 v13 wr => ∃ (k dd : Nat) (D : Option Addr), k ≤ cols ∧ v13 = .int .i64 (k : Int) ∧ v11 = .slice D k dd ∧ za (ZE wr w.heap.size (.slice D k dd) (yj k en fs rnd)) ∧ za (Below w.heap.size w wr)) (fun _ v13 _ => cols - (intOf v13).toNat)
 case atStart => exact ⟨0, 0, none, by omega, rfl, rfl, ⟨zkF _ _⟩, HB1⟩
 clear HB1
 obtain ⟨k, dd, D, hk, rfl, rfl, HP, HB⟩ := hrel
 by_cases hlt : k < cols
 ·have hm1 : k * en + en ≤ n := by
   have h1 := Nat.mul_le_mul_left en (show k + 1 ≤ cols from hlt)
   rw [Nat.mul_add, Nat.mul_one] at h1
   rw [Nat.mul_comm k en]
   have := HHN.out
   omega
  have w1 : IntKind.i64.wrap ((k : Int) * (en : Int)) = ((k * en : Nat) : Int) := by
   rw [← Int.natCast_mul, IntWalk.i64_in _ ⟨by omega, by omega⟩]
  have w2 : IntKind.i64.wrap (((k * en : Nat) : Int) + (en : Int)) = ((k * en + en : Nat) : Int) := by
   rw [← Int.natCast_add, IntWalk.i64_in _ ⟨by omega, by omega⟩]
  have hcut : ∀ W : World, (Instr.slice 36 (.slice A n c) (some (.int .i64 ((k * en : Nat) : Int))) (some (.int .i64 ((k * en + en : Nat) : Int))) none).run Try.prog W = .ok (Zg A c en k) W := fun W => by
   obtain ⟨f, hi, _, hs, _⟩ := info_parts yJ
   have := zjQ (P := Try.prog) 36 5 Try.underlying36 hi hs A n c (k * en) (k * en + en) (by omega) hm1 hc W
   rw [Nat.add_sub_cancel_left] at this
   exact this
  have HT := za.mk (zbF wr X (zaF A c (k * en)) nf en cf' (c - k * en) fs (yn rnd en k) (Kd.C_below HX.out HB.out) (zfU (Kd.C_below HR.out HB.out) hm1 hc) (by omega))
  have hsn := zgE k en fs rnd
  obtain ⟨q, hq⟩ : ∃ q, q = zj (zB fs (yn rnd en k)) := ⟨_, rfl⟩
  rw [← hq] at HT hsn
  have HSN := za.mk hsn
  unfold Zg at hcut
  obtain ⟨A1, hA1⟩ : ∃ A1, A1 = zaF A c (k * en) := ⟨_, rfl⟩
  obtain ⟨c1, hc1⟩ : ∃ c1, c1 = c - k * en := ⟨_, rfl⟩
  rw [← hA1, ← hc1] at hcut HT
  have HPU : za (∀ B d W, Kd.R fk 5 W wr.heap.size (fun _ => True) (.slice B q.length d) q → Below wr.heap.size wr W → ∃ B' d' W', (Builtin.append_ #[37, 37] 37 #[.slice D k dd, .slice (some ⟨W.heap.size, 0, none⟩) 1 1]).run Try.prog (W.alloc (.cells #[.slice B q.length d] 36)) = .ok (.slice B' (k + 1) d') W' ∧ za (ZE W' w.heap.size (.slice B' (k + 1) d') (yj (k + 1) en fs rnd)) ∧ za (Below w.heap.size w W')) := ⟨fun B d W hR hb => by
   have hbw := HB.out.trans (hb.mono HB.out.size)
   obtain ⟨B', d', W', h1, h2, h3⟩ := ziG W w.heap.size (.slice D k dd) _ (zcS HP.out hb) hbw.size B q d (zfq hR) (yr (jN hR) HB.out.size) k (zbp _ _ _ _) (by omega)
   rw [← HSN.out] at h2
   exact ⟨B', d', W', h1, ⟨h2⟩, ⟨(Fr.of_below hbw (fun _ => False)).trans h3 (fun j hj => .inr hj.1) |>.f_below⟩⟩⟩
  generalize k * en = lo at *
  generalize lo + en = hi at *
  clear hq hsn hA1 hc1
  go_wp2_with (first | (go_at_call 91; with_reducible refine HT.out.mono ?_; rintro e W3 ⟨B3, d3, rfl, hR3, hb3⟩; obtain ⟨B', d', W', hrun, hP', hB'⟩ := HPU.out B3 d3 W3 hR3 hb3; replace hrun := za.mk hrun; clear hR3 hb3) | (at_builtin; refine zm rfl _ _ _ _ rfl rfl rfl hrun.out ?_))
  go_roundw
  case rel => exact ⟨k + 1, d', B', by omega, by go_num, rfl, hP', hB'⟩
  simp [intOf]; omega
 obtain rfl : k = cols := by omega
 go_wp2
 go_ret
 exact ⟨D, dd, rfl, HP.out, HB.out⟩
def yk (N K : Nat) (kind : Int) (t : F) : List F := if kind = 2 then zw (zN N K) else if kind = 3 then lin t else [1]
theorem zhy (N K : Nat) (kind : Int) (t : F) : (yk N K kind t).length ≤ K + 2 := by
 unfold yk
 split
 ·rw [zQ, zH]; omega
 split
 ·simp [lin]
 simp
set_option maxRecDepth 100000 in
set_option maxHeartbeats 800000 in
theorem zgJ (w : World) (N T K : Nat) (E Rm kind target : Int) (t : F) (hN : N ≤ 1000) (hK : K ≤ 1000) (ht : kind = 3 → wrap64 (target + 1) % 256 = (t.v : Int)) :
 Calls Try.prog 94 #[zv N T K E Rm, .int .i64 kind, .int .i64 target] w fun e w' => ∃ D cd, e = .returned (.slice D (yk N K kind t).length cd) ∧ (yk N K kind t).length ≤ cd ∧ Kd.C fk w' D (yk N K kind t).length (yk N K kind t) ∧ Below w.heap.size w w' := by
 have HSE := za.mk (fun W => zbZ W N T K E Rm hN hK)
 have hu48 := Try.underlying48
 unfold zv at *
 by_cases h2 : kind = 2
 ·subst h2
  have e : yk N K 2 t = zw (zN N K) := by simp [yk]
  have hl := zQ (zN N K)
  rw [zH] at hl
  rw [e, hl]
  clear e hl ht
  go_enter Try.func94, Try.ntmps94
  go_wp2_with (first | (go_at_call 48; with_reducible refine (HSE.out _).mono ?_; rintro e W1 ⟨B1, c1, rfl, hc1, hC1, hb1⟩; have HRO := za.mk (zbr W1 B1 K c1 (zN N K) hC1 (by omega)); replace hb1 := za.mk hb1; clear hC1) | (go_at_call 57; with_reducible refine HRO.out.mono ?_; rintro e W2 ⟨B2, c2, rfl, hc2, hC2, hb2⟩))
  go_ret
  exact ⟨B2, c2, rfl, hc2, hC2, (yh (zc (Below.refl _ w) _) (by simp) hb1.out).trans (hb2.mono (yh (zc (Below.refl _ w) _) (by simp) hb1.out).size)⟩
 by_cases h3 : kind = 3
 ·subst h3
  have e : yk N K 3 t = lin t := by simp [yk]
  have ht' := ht rfl
  have hl : (lin t).length = 2 := rfl
  have hL := R_C (Zr (w.alloc (.cells #[.int .i64 N, .int .i64 T, .int .i64 K, .int .i64 E, .int .i64 Rm] 48)) _ (fun _ => True) (lin t) (by simp [lin]) (Nat.le_refl _) trivial)
  rw [World.size_alloc] at hL
  have HL := za.mk hL
  rw [e, hl]
  clear e hl ht HSE hL
  go_enter Try.func94, Try.ntmps94
  go_wp2
  go_ret
  refine ⟨_, 2, rfl, Nat.le_refl _, HL.out, zc (zc (Below.refl _ w) _) _⟩
 have e : yk N K kind t = [1] := by simp [yk, h2, h3]
 have hl : ([1] : List F).length = 1 := rfl
 have b2 : (kind == 2) = false := by simpa using h2
 have b3 : (kind == 3) = false := by simpa using h3
 have hL := R_C (Zr (w.alloc (.cells #[.int .i64 N, .int .i64 T, .int .i64 K, .int .i64 E, .int .i64 Rm] 48)) _ (fun _ => True) [1] (by simp) (Nat.le_refl _) trivial)
 rw [World.size_alloc] at hL
 have HL := za.mk hL
 rw [e, hl]
 clear e hl ht HSE h2 h3 hL
 go_enter Try.func94, Try.ntmps94
 go_wp2
 go_ret
 exact ⟨_, 1, rfl, Nat.le_refl _, HL.out, zc (zc (Below.refl _ w) _) _⟩
end Go.Proofs.Ytpeiejkcoadhfaa
