/- What the view's laws take, Vu26: VwAD. -/
import Derived.Test.YtpeiejkcoadhfaaVu25
set_option linter.all false
namespace Go.Proofs.Ytpeiejkcoadhfaa
open Go.RowKit Go.Shelf Go.Proofs.YtpeiejkcoadhfaaW.PrintWords Go.Proofs.YtpeiejkcoadhfaaW.PrintMore
open Go.BigFrame
def Za (N : Nat) (cur : List Int) : List Bool := (List.range N).map fun h : Nat => decide ((h : Int) ∈ cur)
abbrev kb : Kd Bool := Kd.scalar Value.bool (fun _ => rfl)
theorem znz (N : Nat) : Za N [] = List.replicate N false := by
 rw [List.eq_replicate_iff]
 refine ⟨by simp [Za], fun b hb => ?_⟩
 obtain ⟨h, _, rfl⟩ := List.mem_map.1 hb
 rfl
theorem zdz (N : Nat) (cur : List Int) (h : Nat) (hh : h < N) : (Za N cur).getD h false = decide ((h : Int) ∈ cur) := zy _ _ _ _ hh
theorem zbY (N : Nat) (cur : List Int) (x : Nat) : (Za N cur).set x true = Za N (cur ++ [(x : Int)]) := by
 apply List.ext_getElem
 ·simp [Za]
 intro i h1 h2
 rw [List.getElem_set]
 simp only [Za, List.getElem_map, List.getElem_range, List.mem_append, List.mem_singleton]
 by_cases e : x = i
 ·rw [if_pos e, e]; simp
 rw [if_neg e, decide_eq_decide]
 exact ⟨.inl, fun h => h.elim id (fun h => absurd h (by omega))⟩
theorem zoW : (Try.prog.info? 4).map (fun i => (i.zero, i.size, i.bytes)) = some (some (.bool false), 1, 1) := by kernel_rfl
theorem zhc (w W : World) (N : Nat) (hN : N ≤ 1000) (hb : Below w.heap.size w W) : Kd.R kb 4 (W.alloc (.cells (Array.replicate N (.bool false)) 4)) w.heap.size (fun k => k = W.heap.size) (.slice (some ⟨W.heap.size, 0, none⟩) N N) (Za N []) := by
 rw [znz]
 refine Kd.R_of_own ⟨by rw [zO, Nat.mul_one, List.length_replicate], .inr ⟨W.heap.size, N, Array.replicate N (.bool false), by simp, hb.size, yw _ _, by simp, by simp only [maxLen]; omega, by simp, by simp [encs]⟩⟩ (fun j hj => ?_)
 simpa [Value.ownBlock] using hj.symm
def jI (cur : List Int) (h : Nat) : Nat := ((List.range h).filter fun h : Nat => decide ((h : Int) ∈ cur)).length
theorem JU (cur : List Int) (h : Nat) : jI cur (h + 1) = jI cur h + (if (h : Int) ∈ cur then 1 else 0) := by
 unfold jI
 rw [List.range_succ, List.filter_append, List.length_append]
 congr 1
 by_cases e : (h : Int) ∈ cur
 ·simp [e]
 simp [e]
theorem zbO (cur : List Int) (h : Nat) : jI cur h ≤ h := by
 unfold jI
 have := List.length_filter_le (fun h : Nat => decide ((h : Int) ∈ cur)) (List.range h)
 rwa [List.length_range] at this
theorem znF (rs : List Ri) (i : Nat) (h : i < rs.length) : rs.drop i = rs.getD i ri0 :: rs.drop (i + 1) := by
 rw [List.getD_eq_getElem?_getD, List.getElem?_eq_getElem h, List.drop_eq_getElem_cons h]; rfl
set_option maxRecDepth 100000 in
set_option maxHeartbeats 25600000 in
theorem zlq (w : World) (N T K E Rm size : Int) (A : Option Addr) (n c : Nat) (rs : List Ri) (hR : RL w A n rs) (hn : n ≤ 9223372036854775807) (hsm : ∀ r ∈ rs, r.ds.length ≤ 9223372036854775807 ∧ r.sn.length ≤ 9223372036854775807) (hN : -9223372036854775808 ≤ N ∧ N ≤ 9223372036854775807) :
 Calls Try.prog 66 #[zv N T K E Rm, .int .i64 size, .slice A n c] w fun e w' => e = .returned (.bool (decide (zbR N T K E Rm size rs))) ∧ Below w.heap.size w w' := by
 have hnl := Zi hR
 obtain ⟨res, hres⟩ : ∃ res, res = decide (zbR N T K E Rm size rs) := ⟨_, rfl⟩
 have HRES := za.mk hres
 rw [← hres]
 obtain ⟨W0, hW0, hz0, a0, hb0⟩ := zU w (Obj.cells #[.int .i64 N, .int .i64 T, .int .i64 K, .int .i64 E, .int .i64 Rm] 48)
 have HG := za.mk (zkL W0 N T K E Rm hN)
 have HB0 := za.mk hb0
 have HA0 := za.mk a0
 have HR := za.mk hR
 have HSM := za.mk hsm
 have HNL := za.mk hnl
 rw [hW0] at HG HB0 HA0
 have hu48 := Try.underlying48
 clear hres hR hsm hnl hW0 hz0 a0 hb0
 cases hg : zbP N T K E Rm with
 | false =>
   rw [hg] at HG
   have HX : za (res = false) := ⟨by rw [HRES.out]; exact decide_eq_false (fun h => of_decide_eq_false hg h.1)⟩
   clear hg
   unfold zv at *
   go_enter Try.func66, Try.ntmps66
   go_wp2_with (go_at_call 44; with_reducible refine HG.out.mono ?_; rintro e w1 ⟨rfl, hb1⟩; have HB1 := za.mk (HB0.out.trans (hb1.mono HB0.out.size)); clear hb1)
   go_ret
   exact ⟨by rw [HX.out]; rfl, HB1.out⟩
 | true =>
   have hgd := zfk hg
   have HGD := za.mk hgd
   obtain ⟨nN, nT, nK, rfl, rfl, rfl, g1, g2, g3, g4, g5, g6, g7⟩ := zaR hgd
   rw [hg] at HG
   clear hg hgd
   unfold zv at *
   by_cases c1 : size < 0
   ·have HX : za (res = false) := ⟨by rw [HRES.out]; exact decide_eq_false (fun h => by have := h.2.1; omega)⟩
    go_enter Try.func66, Try.ntmps66
    go_wp2_with (go_at_call 44; with_reducible refine HG.out.mono ?_; rintro e w1 ⟨rfl, hb1⟩; have HB1 := za.mk (HB0.out.trans (hb1.mono HB0.out.size)); clear hb1)
    go_ret
    exact ⟨by rw [HX.out]; rfl, HB1.out⟩
   by_cases c2 : 256 < size
   ·have c1' : 0 ≤ size := by omega
    have HX : za (res = false) := ⟨by rw [HRES.out]; exact decide_eq_false (fun h => by have := h.2.2.1; omega)⟩
    go_enter Try.func66, Try.ntmps66
    go_wp2_with (go_at_call 44; with_reducible refine HG.out.mono ?_; rintro e w1 ⟨rfl, hb1⟩; have HB1 := za.mk (HB0.out.trans (hb1.mono HB0.out.size)); clear hb1)
    go_ret
    exact ⟨by rw [HX.out]; rfl, HB1.out⟩
   have c1' : 0 ≤ size := by omega
   have c2' : size ≤ 256 := by omega
   by_cases c3 : (1024 : Int) < (n : Int)
   ·have HX : za (res = false) := ⟨by rw [HRES.out]; exact decide_eq_false (fun h => by have := h.2.2.2.1; rw [HNL.out] at this; omega)⟩
    go_enter Try.func66, Try.ntmps66
    go_wp2_with (go_at_call 44; with_reducible refine HG.out.mono ?_; rintro e w1 ⟨rfl, hb1⟩; have HB1 := za.mk (HB0.out.trans (hb1.mono HB0.out.size)); clear hb1)
    go_ret
    exact ⟨by rw [HX.out]; rfl, HB1.out⟩
   have c3' : (n : Int) ≤ 1024 := by omega
   have hnn : n ≤ 1024 := by omega
   have HRF : za (res = decide (zac nN nT (rs.drop 0) [])) := ⟨by
    rw [HRES.out, decide_eq_decide, List.drop_zero, zbH rs [] (fun x hx => by cases hx) (by show ((0 : Nat) : Int) ≤ _; omega), ← ZF]
    exact ⟨fun h => ⟨h.2.2.2.2.1, h.2.2.2.2.2⟩, fun h => ⟨HGD.out, c1', c2', by rw [HNL.out]; exact hnn, h.1, h.2⟩⟩⟩
   have hT2 : wrap64 ((nT : Int) + 1) = (nT : Int) + 1 := zcv (by omega)
   have hmk := fun W : World => zmn (P := Try.prog) 125 4 (.bool false) 1 Try.underlying125 zoW rfl (by omega) nN (by omega) W
   have HPM : za (∀ W, Below (w.alloc (Obj.cells #[.int .i64 nN, .int .i64 nT, .int .i64 nK, .int .i64 E, .int .i64 Rm] 48)).heap.size (w.alloc (Obj.cells #[.int .i64 nN, .int .i64 nT, .int .i64 nK, .int .i64 E, .int .i64 Rm] 48)) W → W.heap[w.heap.size]? = some (zF nN nT nK E Rm) ∧ W.cell? ⟨w.heap.size, 0, none⟩ = some (.int .i64 nN)) := ⟨fun W hW => ⟨zl HA0.out hW, zh (zl HA0.out hW) rfl⟩⟩
   go_enter Try.func66, Try.ntmps66
   simp only [List.append_eq, List.cons_append, List.nil_append]
   go_wp2_with (go_at_call 44; with_reducible refine HG.out.mono ?_; rintro e w1 ⟨rfl, hb1⟩; have p0 := (HPM.out w1 hb1).2; have HB1 := za.mk (HB0.out.trans (hb1.mono HB0.out.size)); have HP1 := za.mk (HPM.out w1 hb1).1; clear hb1)
   have HNO : za (Kd.R kb 4 (w1.alloc (.cells (Array.replicate nN (.bool false)) 4)) w.heap.size (fun k => k = w1.heap.size) (.slice (some ⟨w1.heap.size, 0, none⟩) nN nN) (Za nN [])) := ⟨zhc w w1 nN (by omega) HB1.out⟩
   have HPB : za ((w1.alloc (.cells (Array.replicate nN (.bool false)) 4)).heap[w.heap.size]? = some (zF nN nT nK E Rm)) := ⟨zt HP1.out _⟩
   have HBB : za (Below w.heap.size w (w1.alloc (.cells (Array.replicate nN (.bool false)) 4))) := ⟨zc HB1.out _⟩
   have HBL : za (w.heap.size < w1.heap.size) := ⟨yB HP1.out⟩
   obtain ⟨W4, hW4⟩ : ∃ W4, W4 = w1.alloc (.cells (Array.replicate nN (.bool false)) 4) := ⟨_, rfl⟩
   rw [← hW4] at HNO HPB HBB ⊢
   obtain ⟨gn, hgn⟩ : ∃ gn, gn = w1.heap.size := ⟨_, rfl⟩
   rw [← hgn] at HNO HBL ⊢
   clear hW4 HB1 HP1 p0 HPM HG HB0 HA0 hgn HRES
   go_loopw [7, 8] (fun v7 v8 wr => ∃ (i gn : Nat) (cur : List Int), i ≤ n ∧ v8 = .int .i64 i ∧ v7 = .slice (some ⟨gn, 0, none⟩) nN nN ∧ za (Kd.R kb 4 wr w.heap.size (fun k => k = gn) (.slice (some ⟨gn, 0, none⟩) nN nN) (Za nN cur)) ∧ za (res = decide (zac nN nT (rs.drop i) cur)) ∧ za (w.heap.size < gn ∧ gn < wr.heap.size) ∧ za (wr.heap[w.heap.size]? = some (zF nN nT nK E Rm)) ∧ za (Below w.heap.size w wr)) (fun _ v8 _ => n - (intOf v8).toNat)
   case atStart => exact ⟨0, gn, [], by omega, rfl, rfl, HNO, HRF, ⟨HBL.out, Kd.R_lt HNO.out gn (by simp [Value.ownBlock])⟩, HPB, HBB⟩
   clear HNO HRF HBL HPB HBB
   obtain ⟨i, gn, cur, hi, rfl, rfl, HNO, HRF, HBL, HPB, HBB⟩ := hrel
   by_cases hlt : i < n
   ·obtain ⟨r, ad, D, S, nd, cd, ns, cs, hr, rfl, h0, h1, h2, h3, l1, lc1, hD, l2, lc2, hS⟩ := zdh HR.out i hlt
    have hbw := HBB.out
    have hlen : i < rs.length := by rw [HNL.out]; exact hlt
    have hmem : r ∈ rs := by rw [hr, List.getD_eq_getElem?_getD, List.getElem?_eq_getElem hlen]; exact List.getElem_mem hlen
    have hsz := HSM.out r hmem
    have hdrop := znF rs i hlen
    rw [← hr] at hdrop
    have hnd : nd ≤ 9223372036854775807 := by omega
    have hns : ns ≤ 9223372036854775807 := by omega
    have hc0 := (Fr.of_below hbw (fun _ => False)).cell h0 (fun h => h)
    have hc1 := (Fr.of_below hbw (fun _ => False)).cell h1 (fun h => h)
    have hc2 := (Fr.of_below hbw (fun _ => False)).cell h2 (fun h => h)
    have hc3 := (Fr.of_below hbw (fun _ => False)).cell h3 (fun h => h)
    obtain ⟨kind, target, ds, sn⟩ := r
    simp only at hc0 hc1 l1 l2 hD hS
    have HR1 := za.mk (fun W (hW : Below w.heap.size w W) => zcR W nN D nd cd ds (Kd.C_below hD hW) lc1 hnd)
    have HR2 := za.mk (fun W (hW : Below w.heap.size w W) => zcR W nN S ns cs sn (Kd.C_below hS hW) lc2 hns)
    have HIN := za.mk (fun W (hW : Below w.heap.size w W) => zjq W D nd cd ds target (Kd.C_below hD hW) lc1 hnd)
    have HSC := za.mk hS
    have HSN := za.mk l2
    obtain ⟨b1, hb1'⟩ : ∃ b, b = decide (Ris nN ds) := ⟨_, rfl⟩
    obtain ⟨b2, hb2'⟩ : ∃ b, b = decide (Ris nN sn) := ⟨_, rfl⟩
    obtain ⟨b3, hb3'⟩ : ∃ b, b = decide (target ∈ ds) := ⟨_, rfl⟩
    rw [← hb1'] at HR1
    rw [← hb2'] at HR2
    rw [← hb3'] at HIN
    have hOk : za (zX nN nT ⟨kind, target, ds, sn⟩ ↔ ((kind = 0 ∨ kind = 2 ∨ kind = 3 ∨ kind = 4) ∧ (nd : Int) = (if kind = 0 then 0 else (nT : Int) + 1) ∧ 0 ≤ target ∧ target < nN ∧ b1 = true ∧ b2 = true ∧ (kind = 3 → b3 = false))) := ⟨by
     rw [hb1', hb2', hb3']
     unfold zX
     simp only [decide_eq_true_iff, decide_eq_false_iff_not, l1]⟩
    have HNOK : za (¬ ((kind = 0 ∨ kind = 2 ∨ kind = 3 ∨ kind = 4) ∧ (nd : Int) = (if kind = 0 then 0 else (nT : Int) + 1) ∧ 0 ≤ target ∧ target < nN ∧ b1 = true ∧ b2 = true ∧ (kind = 3 → b3 = false)) → res = false) := ⟨fun hx => by
     rw [HRF.out, hdrop]
     exact decide_eq_false (fun h => hx (hOk.out.1 h.1))⟩
    have HRNG : za (b2 = true → sn.length ≤ 255 ∧ ∀ x ∈ sn, ∃ xn : Nat, x = xn ∧ xn < nN) := ⟨fun hb => by
     rw [hb2', decide_eq_true_iff] at hb
     refine ⟨by have := jO hb; omega, fun x hx => ?_⟩
     obtain ⟨h5, h6⟩ := yp hb hx
     exact ⟨x.toNat, by omega, by omega⟩⟩
    have HYOK : za (((kind = 0 ∨ kind = 2 ∨ kind = 3 ∨ kind = 4) ∧ (nd : Int) = (if kind = 0 then 0 else (nT : Int) + 1) ∧ 0 ≤ target ∧ target < nN ∧ b1 = true ∧ b2 = true ∧ (kind = 3 → b3 = false)) → ((nT : Int) < (ZJ nN (cur ++ sn) : Int) → res = false) ∧ ((ZJ nN (cur ++ sn) : Int) ≤ nT → res = decide (zac nN nT (rs.drop (i + 1)) (if kind = 2 then sn else cur ++ sn)))) := ⟨fun hx => by
     have hro := hOk.out.2 hx
     refine ⟨fun hc => ?_, fun hc => ?_⟩
     ·rw [HRF.out, hdrop]
      exact decide_eq_false (fun h => by have := h.2.1; simp only at this; omega)
     rw [HRF.out, hdrop, decide_eq_decide]
     exact ⟨fun h => h.2.2, fun h => ⟨hro, hc, h⟩⟩⟩
    have HBX : za (Below w.heap.size w (wr.alloc (Obj.cells #[.int .i64 kind, .int .i64 target, .slice D nd cd, .slice S ns cs] 90))) := ⟨zc hbw _⟩
    have hpb := zt HPB.out (Obj.cells #[.int .i64 kind, .int .i64 target, .slice D nd cd, .slice S ns cs] 90)
    unfold zF at hpb
    have p0 := zh hpb (j := 0) (v := .int .i64 nN) rfl
    have p1 := zh hpb (j := 1) (v := .int .i64 nT) rfl
    have hjI : (i : Int) < (n : Int) := by omega
    clear hpb h0 h1 h2 h3 l1 l2 lc1 lc2 hD hS hr hmem hsz hdrop hOk hb1' hb2' hb3' hbw HRF hnd hns
    have hk : (kind ≠ 0 ∧ kind ≠ 2 ∧ kind ≠ 3 ∧ kind ≠ 4) ∨ kind = 0 ∨ kind = 2 ∨ kind = 3 ∨ kind = 4 := by omega
    rcases hk with ⟨n0, n2, n3, n4⟩ | rfl | rfl | rfl | rfl
    ·have HY : za (res = false) := ⟨HNOK.out (fun h => by have := h.1; omega)⟩
     have e0 : (kind == 0) = false := by simp; exact n0
     have e0' : (kind != 0) = true := by simp; exact n0
     have e2 : (kind != 2) = true := by simp; exact n2
     have e3 : (kind != 3) = true := by simp; exact n3
     have e4 : (kind != 4) = true := by simp; exact n4
     clear HR1 HR2 HIN HYOK HNOK
     go_wp2
     go_ret
     exact ⟨by rw [HY.out]; rfl, HBX.out⟩
    ·by_cases c1 : (nd : Int) = 0
     ·have e1 : ((nd : Int) != 0) = false := by simp; omega
      by_cases c2 : target < 0
      ·skip
       have HY : za (res = false) := ⟨HNOK.out (by rintro ⟨_, h1, h2, h3, h4, h5, h6⟩; omega)⟩
       clear HNOK HYOK
       go_wp2_with (first
        | (go_at_call 102; first
            | (with_reducible refine (HR1.out _ HBX.out).mono ?_; rintro e w2 ⟨rfl, ⟨m2, rfl⟩⟩)
            | (with_reducible refine (HR2.out _ (zb HBX.out m2)).mono ?_; rintro e w3 ⟨rfl, ⟨m3, rfl⟩⟩))
        | (go_at_call 103; with_reducible refine (HIN.out _ (zb HBX.out _)).mono ?_; rintro e w4 ⟨rfl, ⟨m4, rfl⟩⟩))
       go_ret
       exact ⟨by rw [HY.out]; rfl, HBX.out⟩
      have c2' : 0 ≤ target := by omega
      by_cases c3 : (nN : Int) ≤ target
      ·skip
       have HY : za (res = false) := ⟨HNOK.out (by rintro ⟨_, h1, h2, h3, h4, h5, h6⟩; omega)⟩
       clear HNOK HYOK
       go_wp2_with (first
        | (go_at_call 102; first
            | (with_reducible refine (HR1.out _ HBX.out).mono ?_; rintro e w2 ⟨rfl, ⟨m2, rfl⟩⟩)
            | (with_reducible refine (HR2.out _ (zb HBX.out m2)).mono ?_; rintro e w3 ⟨rfl, ⟨m3, rfl⟩⟩))
        | (go_at_call 103; with_reducible refine (HIN.out _ (zb HBX.out _)).mono ?_; rintro e w4 ⟨rfl, ⟨m4, rfl⟩⟩))
       go_ret
       exact ⟨by rw [HY.out]; rfl, HBX.out⟩
      have c3' : target < (nN : Int) := by omega
      cases b1 with
      | false =>
        have HY : za (res = false) := ⟨HNOK.out (by rintro ⟨_, h1, h2, h3, h4, h5, h6⟩; cases h4)⟩
        clear HNOK HYOK
        go_wp2_with (first
         | (go_at_call 102; first
             | (with_reducible refine (HR1.out _ HBX.out).mono ?_; rintro e w2 ⟨rfl, ⟨m2, rfl⟩⟩)
             | (with_reducible refine (HR2.out _ (zb HBX.out m2)).mono ?_; rintro e w3 ⟨rfl, ⟨m3, rfl⟩⟩))
         | (go_at_call 103; with_reducible refine (HIN.out _ (zb HBX.out _)).mono ?_; rintro e w4 ⟨rfl, ⟨m4, rfl⟩⟩))
        go_ret
        exact ⟨by rw [HY.out]; rfl, zb HBX.out m2⟩
      | true =>
        cases b2 with
        | false =>
          have HY : za (res = false) := ⟨HNOK.out (by rintro ⟨_, h1, h2, h3, h4, h5, h6⟩; cases h5)⟩
          clear HNOK HYOK
          go_wp2_with (first
           | (go_at_call 102; first
               | (with_reducible refine (HR1.out _ HBX.out).mono ?_; rintro e w2 ⟨rfl, ⟨m2, rfl⟩⟩)
               | (with_reducible refine (HR2.out _ (zb HBX.out m2)).mono ?_; rintro e w3 ⟨rfl, ⟨m3, rfl⟩⟩))
           | (go_at_call 103; with_reducible refine (HIN.out _ (zb HBX.out _)).mono ?_; rintro e w4 ⟨rfl, ⟨m4, rfl⟩⟩))
          go_ret
          exact ⟨by rw [HY.out]; rfl, zb HBX.out _⟩
        | true =>
          clear HNOK
          have HY12 : za (((nT : Int) < (ZJ nN (cur ++ sn) : Int) → res = false) ∧ ((ZJ nN (cur ++ sn) : Int) ≤ nT → res = decide (zac nN nT (rs.drop (i + 1)) (cur ++ sn)))) := ⟨by
           obtain ⟨Y1, Y2⟩ := HYOK.out ⟨by omega, by rw [if_pos rfl]; exact c1, c2', c3', rfl, rfl, fun h => absurd h (by decide)⟩
           refine ⟨Y1, fun h => ?_⟩
           have h2 := Y2 h
           rw [if_neg (by decide)] at h2
           exact h2⟩
          clear HYOK
          have HRG := za.mk (HRNG.out rfl)
          have hnsl : ns ≤ 255 := by rw [← HSN.out]; exact HRG.out.1
          clear HRNG
          go_wp2_with (first
           | (go_at_call 102; first
               | (with_reducible refine (HR1.out _ HBX.out).mono ?_; rintro e w2 ⟨rfl, ⟨m2, rfl⟩⟩)
               | (with_reducible refine (HR2.out _ (zb HBX.out m2)).mono ?_; rintro e w3 ⟨rfl, ⟨m3, rfl⟩⟩))
           | (go_at_call 103; with_reducible refine (HIN.out _ (zb HBX.out _)).mono ?_; rintro e w4 ⟨rfl, ⟨m4, rfl⟩⟩))
          have HNX : za (Kd.R kb 4 ((wr.alloc (Obj.cells #[.int .i64 0, .int .i64 target, .slice D nd cd, .slice S ns cs] 90)).drewN (m2 + m3)) w.heap.size (fun k => k = gn) (.slice (some ⟨gn, 0, none⟩) nN nN) (Za nN cur)) := ⟨jo HNO.out (S := fun _ => False) (Fr.drewN ((Fr.refl _ wr).alloc _) _) (fun _ _ _ _ h => h)⟩
          have HGX : za ((((wr.alloc (Obj.cells #[.int .i64 0, .int .i64 target, .slice D nd cd, .slice S ns cs] 90)).drewN (m2 + m3))).heap[wr.heap.size]? = some (.cells #[.int .i64 0, .int .i64 target, .slice D nd cd, .slice S ns cs] 90 (0, 0)) ∧ (((wr.alloc (Obj.cells #[.int .i64 0, .int .i64 target, .slice D nd cd, .slice S ns cs] 90)).drewN (m2 + m3))).heap[w.heap.size]? = some (zF nN nT nK E Rm)) := ⟨yw wr _, zt HPB.out _⟩
          have HBY : za (Below w.heap.size w (((wr.alloc (Obj.cells #[.int .i64 0, .int .i64 target, .slice D nd cd, .slice S ns cs] 90)).drewN (m2 + m3)))) := ⟨zb HBX.out _⟩
          have HGL : za (w.heap.size < gn ∧ gn < wr.heap.size) := HBL
          obtain ⟨W5, hW5⟩ : ∃ W5, W5 = ((wr.alloc (Obj.cells #[.int .i64 0, .int .i64 target, .slice D nd cd, .slice S ns cs] 90)).drewN (m2 + m3)) := ⟨_, rfl⟩
          rw [← hW5] at HNX HGX HBY ⊢
          obtain ⟨g, hg⟩ : ∃ g, g = wr.heap.size := ⟨_, rfl⟩
          rw [← hg] at HGX HGL ⊢
          have HSX : za (g < W5.heap.size) := ⟨yB HGX.out.1⟩
          clear hW5 hg HNO HPB HBX HBL HBB p0 p1 HIN HR2 hc0 hc1 hc2 hc3
          go_loopw [11] (fun v11 wr => ∃ (j : Nat), j ≤ ns ∧ v11 = .int .i64 j ∧ za (Kd.R kb 4 wr w.heap.size (fun k => k = gn) (.slice (some ⟨gn, 0, none⟩) nN nN) (Za nN (cur ++ sn.take j))) ∧ za (Fr (fun k => k = gn) W5 wr)) (fun v11 _ => ns - (intOf v11).toNat)
          case atStart => exact ⟨0, by omega, rfl, ⟨by rw [List.take_zero, List.append_nil]; exact HNX.out⟩, ⟨Fr.refl _ _⟩⟩
          clear HNX
          obtain ⟨j, hj, rfl, HNJ, HFJ⟩ := hrel
          have hgq := HFJ.out.blk HGX.out.1 (fun e => by have := HGL.out; omega)
          have hpq := HFJ.out.blk HGX.out.2 (fun e => by have := HGL.out; omega)
          have q3 := zh hgq (j := 3) (v := .slice S ns cs) rfl
          by_cases hjn : j < ns
          ·obtain ⟨adS, rfl, hx⟩ := zbf HSC.out ((Fr.of_below HBY.out (fun k => w.heap.size ≤ k)).trans' (HFJ.out.mono (fun k hk => by have := HGL.out; omega))) (fun _ h => h) j hjn
           have hjl : j < sn.length := by rw [HSN.out]; exact hjn
           obtain ⟨x, hxe, hxN⟩ := HRG.out.2 _ (yL hjl)
           rw [hxe] at hx
           obtain ⟨gq, hgq', _, _, _, _, hfz, hset⟩ := jJ (d0 := false) HNJ.out x hxN
           injection hgq' with hgq'
           injection hgq' with hgq'
           subst hgq'
           have HSET : za (Kd.R kb 4 (wr.setCell ⟨gn, x, none⟩ (.bool true)) w.heap.size (fun k => k = gn) (.slice (some ⟨gn, 0, none⟩) nN nN) (Za nN (cur ++ sn.take (j + 1)))) := ⟨by
            have h := hset true
            rw [zbY, List.append_assoc, ← hxe, ← zK 0 sn j hjl] at h
            exact h⟩
           have HFJ' : za (Fr (fun k => k = gn) W5 (wr.setCell ⟨gn, x, none⟩ (.bool true))) := ⟨HFJ.out.set_ (.inl rfl) _⟩
           have hjJ : (j : Int) < (ns : Int) := by omega
           have hxI : (x : Int) < (nN : Int) := by omega
           obtain ⟨_, _, _, _, _, hcx, _, _⟩ := jJ (d0 := false) HNJ.out x hxN
           clear hset hxe hjl hgq hpq
           go_wp2
           go_roundw
           case rel => exact ⟨j + 1, by omega, by go_num, HSET, HFJ'⟩
           simp [intOf]; omega
          obtain rfl : j = ns := by omega
          have HNE : za (Kd.R kb 4 wr w.heap.size (fun k => k = gn) (.slice (some ⟨gn, 0, none⟩) nN nN) (Za nN (cur ++ sn))) := ⟨by
           have h := HNJ.out
           rwa [List.take_of_length_le (by rw [HSN.out]; exact Nat.le_refl _)] at h⟩
          have HGQ := za.mk hgq
          have HPQ := za.mk hpq
          have HBQ : za (Below w.heap.size w wr) := ⟨HBY.out.trans (HFJ.out.below HBY.out.size (fun k hk => by have := HGL.out; omega))⟩
          have HSQ : za (g < wr.heap.size) := ⟨yB hgq⟩
          have hpq' := hpq
          unfold zF at hpq'
          have p0 := zh hpq' (j := 0) (v := .int .i64 nN) rfl
          have p1 := zh hpq' (j := 1) (v := .int .i64 nT) rfl
          have q0 := zh hgq (j := 0) (v := .int .i64 0) rfl
          clear hgq hpq hpq' HNJ HFJ
          go_wp2
          obtain ⟨wk, hwk⟩ : ∃ wk, wk = wr := ⟨_, rfl⟩
          rw [← hwk] at HNE HGQ HPQ HBQ HSQ p0 p1 q0 ⊢
          clear hwk
          go_loopw [12, 13] (fun v12 v13 wq => ∃ (h : Nat), h ≤ nN ∧ v13 = .int .i64 h ∧ v12 = .int .i64 (jI (cur ++ sn) h : Nat) ∧ wq = wk) (fun _ v13 _ => nN - (intOf v13).toNat)
          case atStart => exact ⟨0, by omega, rfl, rfl, rfl⟩
          obtain ⟨h, hh, rfl, rfl, rfl⟩ := hrel
          by_cases hhn : h < nN
          ·obtain ⟨gq, hgq', _, _, _, hcx, _, _⟩ := jJ (d0 := false) HNE.out h hhn
           injection hgq' with hgq'
           injection hgq' with hgq'
           subst hgq'
           rw [zdz nN _ h hhn] at hcx
           have hsu := JU (cur ++ sn) h
           have hle := zbO (cur ++ sn) h
           obtain ⟨ch, hch⟩ : ∃ ch, ch = jI (cur ++ sn) h := ⟨_, rfl⟩
           rw [← hch] at hsu hle ⊢
           have hhI : (h : Int) < (nN : Int) := by omega
           by_cases hm : (h : Int) ∈ cur ++ sn
           ·rw [decide_eq_true hm] at hcx
            rw [if_pos hm] at hsu
            have hw1 : wrap64 ((ch : Int) + 1) = ((ch + 1 : Nat) : Int) := yU ch (by omega)
            have HSU := za.mk hsu
            clear hsu hch hm
            go_wp2
            go_roundw
            case rel => exact ⟨h + 1, by omega, by go_num, by first | rw [HSU.out, hw1] | (rw [HSU.out]; rfl), by first | trivial | rfl⟩
            simp [intOf]; omega
           rw [decide_eq_false hm] at hcx
           rw [if_neg hm] at hsu
           have HSU := za.mk hsu
           clear hsu hch hm
           go_wp2
           go_roundw
           case rel => exact ⟨h + 1, by omega, by go_num, by rw [HSU.out]; rfl, by first | trivial | rfl⟩
           simp [intOf]; omega
          obtain rfl : h = nN := by omega
          have hcard : jI (cur ++ sn) h = ZJ h (cur ++ sn) := rfl
          obtain ⟨Y1, Y2⟩ := HY12.out
          rw [← hcard] at Y1 Y2
          obtain ⟨cn, hcn⟩ : ∃ cn, cn = jI (cur ++ sn) h := ⟨_, rfl⟩
          rw [← hcn] at Y1 Y2 ⊢
          by_cases hct : (nT : Int) < (cn : Int)
          ·have HY := za.mk (Y1 hct)
           clear Y1 Y2 hcard hcn
           go_wp2
           go_ret
           exact ⟨by rw [HY.out]; rfl, HBQ.out⟩
          have hct' : (cn : Int) ≤ (nT : Int) := by omega
          have HY := za.mk (Y2 hct')
          clear Y1 Y2 hcard hcn
          go_wp2
          go_roundw
          case rel => exact ⟨i + 1, gn, cur ++ sn, by omega, by go_num, rfl, HNE, HY, ⟨HGL.out.1, by have := HGL.out.2; have := HSQ.out; omega⟩, HPQ, HBQ⟩
          simp [intOf]; omega
     have e1 : ((nd : Int) != 0) = true := by simp; omega
     have HY : za (res = false) := ⟨HNOK.out (by rintro ⟨_, h1, h2, h3, h4, h5, h6⟩; rw [if_pos rfl] at h1; exact c1 h1)⟩
     clear HNOK HYOK
     go_wp2_with (first
      | (go_at_call 102; first
          | (with_reducible refine (HR1.out _ HBX.out).mono ?_; rintro e w2 ⟨rfl, ⟨m2, rfl⟩⟩)
          | (with_reducible refine (HR2.out _ (zb HBX.out m2)).mono ?_; rintro e w3 ⟨rfl, ⟨m3, rfl⟩⟩))
      | (go_at_call 103; with_reducible refine (HIN.out _ (zb HBX.out _)).mono ?_; rintro e w4 ⟨rfl, ⟨m4, rfl⟩⟩))
     go_ret
     exact ⟨by rw [HY.out]; rfl, HBX.out⟩
    ·by_cases c1 : (nd : Int) = (nT : Int) + 1
     ·have e1 : ((nd : Int) != (nT : Int) + 1) = false := by simp; omega
      by_cases c2 : target < 0
      ·skip
       have HY : za (res = false) := ⟨HNOK.out (by rintro ⟨_, h1, h2, h3, h4, h5, h6⟩; omega)⟩
       clear HNOK HYOK
       go_wp2_with (first
        | (go_at_call 102; first
            | (with_reducible refine (HR1.out _ HBX.out).mono ?_; rintro e w2 ⟨rfl, ⟨m2, rfl⟩⟩)
            | (with_reducible refine (HR2.out _ (zb HBX.out m2)).mono ?_; rintro e w3 ⟨rfl, ⟨m3, rfl⟩⟩))
        | (go_at_call 103; with_reducible refine (HIN.out _ (zb HBX.out _)).mono ?_; rintro e w4 ⟨rfl, ⟨m4, rfl⟩⟩))
       go_ret
       exact ⟨by rw [HY.out]; rfl, HBX.out⟩
      have c2' : 0 ≤ target := by omega
      by_cases c3 : (nN : Int) ≤ target
      ·skip
       have HY : za (res = false) := ⟨HNOK.out (by rintro ⟨_, h1, h2, h3, h4, h5, h6⟩; omega)⟩
       clear HNOK HYOK
       go_wp2_with (first
        | (go_at_call 102; first
            | (with_reducible refine (HR1.out _ HBX.out).mono ?_; rintro e w2 ⟨rfl, ⟨m2, rfl⟩⟩)
            | (with_reducible refine (HR2.out _ (zb HBX.out m2)).mono ?_; rintro e w3 ⟨rfl, ⟨m3, rfl⟩⟩))
        | (go_at_call 103; with_reducible refine (HIN.out _ (zb HBX.out _)).mono ?_; rintro e w4 ⟨rfl, ⟨m4, rfl⟩⟩))
       go_ret
       exact ⟨by rw [HY.out]; rfl, HBX.out⟩
      have c3' : target < (nN : Int) := by omega
      cases b1 with
      | false =>
        have HY : za (res = false) := ⟨HNOK.out (by rintro ⟨_, h1, h2, h3, h4, h5, h6⟩; cases h4)⟩
        clear HNOK HYOK
        go_wp2_with (first
         | (go_at_call 102; first
             | (with_reducible refine (HR1.out _ HBX.out).mono ?_; rintro e w2 ⟨rfl, ⟨m2, rfl⟩⟩)
             | (with_reducible refine (HR2.out _ (zb HBX.out m2)).mono ?_; rintro e w3 ⟨rfl, ⟨m3, rfl⟩⟩))
         | (go_at_call 103; with_reducible refine (HIN.out _ (zb HBX.out _)).mono ?_; rintro e w4 ⟨rfl, ⟨m4, rfl⟩⟩))
        go_ret
        exact ⟨by rw [HY.out]; rfl, zb HBX.out m2⟩
      | true =>
        cases b2 with
        | false =>
          have HY : za (res = false) := ⟨HNOK.out (by rintro ⟨_, h1, h2, h3, h4, h5, h6⟩; cases h5)⟩
          clear HNOK HYOK
          go_wp2_with (first
           | (go_at_call 102; first
               | (with_reducible refine (HR1.out _ HBX.out).mono ?_; rintro e w2 ⟨rfl, ⟨m2, rfl⟩⟩)
               | (with_reducible refine (HR2.out _ (zb HBX.out m2)).mono ?_; rintro e w3 ⟨rfl, ⟨m3, rfl⟩⟩))
           | (go_at_call 103; with_reducible refine (HIN.out _ (zb HBX.out _)).mono ?_; rintro e w4 ⟨rfl, ⟨m4, rfl⟩⟩))
          go_ret
          exact ⟨by rw [HY.out]; rfl, zb HBX.out _⟩
        | true =>
          clear HNOK
          have HY12 : za (((nT : Int) < (ZJ nN (cur ++ sn) : Int) → res = false) ∧ ((ZJ nN (cur ++ sn) : Int) ≤ nT → res = decide (zac nN nT (rs.drop (i + 1)) (sn)))) := ⟨by
           obtain ⟨Y1, Y2⟩ := HYOK.out ⟨by omega, by rw [if_neg (by decide)]; exact c1, c2', c3', rfl, rfl, fun h => absurd h (by decide)⟩
           refine ⟨Y1, fun h => ?_⟩
           have h2 := Y2 h
           rw [if_pos rfl] at h2
           exact h2⟩
          clear HYOK
          have HRG := za.mk (HRNG.out rfl)
          have hnsl : ns ≤ 255 := by rw [← HSN.out]; exact HRG.out.1
          clear HRNG
          go_wp2_with (first
           | (go_at_call 102; first
               | (with_reducible refine (HR1.out _ HBX.out).mono ?_; rintro e w2 ⟨rfl, ⟨m2, rfl⟩⟩)
               | (with_reducible refine (HR2.out _ (zb HBX.out m2)).mono ?_; rintro e w3 ⟨rfl, ⟨m3, rfl⟩⟩))
           | (go_at_call 103; with_reducible refine (HIN.out _ (zb HBX.out _)).mono ?_; rintro e w4 ⟨rfl, ⟨m4, rfl⟩⟩))
          have HNX : za (Kd.R kb 4 ((wr.alloc (Obj.cells #[.int .i64 2, .int .i64 target, .slice D nd cd, .slice S ns cs] 90)).drewN (m2 + m3)) w.heap.size (fun k => k = gn) (.slice (some ⟨gn, 0, none⟩) nN nN) (Za nN cur)) := ⟨jo HNO.out (S := fun _ => False) (Fr.drewN ((Fr.refl _ wr).alloc _) _) (fun _ _ _ _ h => h)⟩
          have HGX : za ((((wr.alloc (Obj.cells #[.int .i64 2, .int .i64 target, .slice D nd cd, .slice S ns cs] 90)).drewN (m2 + m3))).heap[wr.heap.size]? = some (.cells #[.int .i64 2, .int .i64 target, .slice D nd cd, .slice S ns cs] 90 (0, 0)) ∧ (((wr.alloc (Obj.cells #[.int .i64 2, .int .i64 target, .slice D nd cd, .slice S ns cs] 90)).drewN (m2 + m3))).heap[w.heap.size]? = some (zF nN nT nK E Rm)) := ⟨yw wr _, zt HPB.out _⟩
          have HBY : za (Below w.heap.size w (((wr.alloc (Obj.cells #[.int .i64 2, .int .i64 target, .slice D nd cd, .slice S ns cs] 90)).drewN (m2 + m3)))) := ⟨zb HBX.out _⟩
          have HGL : za (w.heap.size < gn ∧ gn < wr.heap.size) := HBL
          obtain ⟨W5, hW5⟩ : ∃ W5, W5 = ((wr.alloc (Obj.cells #[.int .i64 2, .int .i64 target, .slice D nd cd, .slice S ns cs] 90)).drewN (m2 + m3)) := ⟨_, rfl⟩
          rw [← hW5] at HNX HGX HBY ⊢
          obtain ⟨g, hg⟩ : ∃ g, g = wr.heap.size := ⟨_, rfl⟩
          rw [← hg] at HGX HGL ⊢
          have HSX : za (g < W5.heap.size) := ⟨yB HGX.out.1⟩
          clear hW5 hg HNO HPB HBX HBL HBB p0 p1 HIN HR2 hc0 hc1 hc2 hc3
          go_loopw [11] (fun v11 wr => ∃ (j : Nat), j ≤ ns ∧ v11 = .int .i64 j ∧ za (Kd.R kb 4 wr w.heap.size (fun k => k = gn) (.slice (some ⟨gn, 0, none⟩) nN nN) (Za nN (cur ++ sn.take j))) ∧ za (Fr (fun k => k = gn) W5 wr)) (fun v11 _ => ns - (intOf v11).toNat)
          case atStart => exact ⟨0, by omega, rfl, ⟨by rw [List.take_zero, List.append_nil]; exact HNX.out⟩, ⟨Fr.refl _ _⟩⟩
          clear HNX
          obtain ⟨j, hj, rfl, HNJ, HFJ⟩ := hrel
          have hgq := HFJ.out.blk HGX.out.1 (fun e => by have := HGL.out; omega)
          have hpq := HFJ.out.blk HGX.out.2 (fun e => by have := HGL.out; omega)
          have q3 := zh hgq (j := 3) (v := .slice S ns cs) rfl
          by_cases hjn : j < ns
          ·obtain ⟨adS, rfl, hx⟩ := zbf HSC.out ((Fr.of_below HBY.out (fun k => w.heap.size ≤ k)).trans' (HFJ.out.mono (fun k hk => by have := HGL.out; omega))) (fun _ h => h) j hjn
           have hjl : j < sn.length := by rw [HSN.out]; exact hjn
           obtain ⟨x, hxe, hxN⟩ := HRG.out.2 _ (yL hjl)
           rw [hxe] at hx
           obtain ⟨gq, hgq', _, _, _, _, hfz, hset⟩ := jJ (d0 := false) HNJ.out x hxN
           injection hgq' with hgq'
           injection hgq' with hgq'
           subst hgq'
           have HSET : za (Kd.R kb 4 (wr.setCell ⟨gn, x, none⟩ (.bool true)) w.heap.size (fun k => k = gn) (.slice (some ⟨gn, 0, none⟩) nN nN) (Za nN (cur ++ sn.take (j + 1)))) := ⟨by
            have h := hset true
            rw [zbY, List.append_assoc, ← hxe, ← zK 0 sn j hjl] at h
            exact h⟩
           have HFJ' : za (Fr (fun k => k = gn) W5 (wr.setCell ⟨gn, x, none⟩ (.bool true))) := ⟨HFJ.out.set_ (.inl rfl) _⟩
           have hjJ : (j : Int) < (ns : Int) := by omega
           have hxI : (x : Int) < (nN : Int) := by omega
           obtain ⟨_, _, _, _, _, hcx, _, _⟩ := jJ (d0 := false) HNJ.out x hxN
           clear hset hxe hjl hgq hpq
           go_wp2
           go_roundw
           case rel => exact ⟨j + 1, by omega, by go_num, HSET, HFJ'⟩
           simp [intOf]; omega
          obtain rfl : j = ns := by omega
          have HNE : za (Kd.R kb 4 wr w.heap.size (fun k => k = gn) (.slice (some ⟨gn, 0, none⟩) nN nN) (Za nN (cur ++ sn))) := ⟨by
           have h := HNJ.out
           rwa [List.take_of_length_le (by rw [HSN.out]; exact Nat.le_refl _)] at h⟩
          have HGQ := za.mk hgq
          have HPQ := za.mk hpq
          have HBQ : za (Below w.heap.size w wr) := ⟨HBY.out.trans (HFJ.out.below HBY.out.size (fun k hk => by have := HGL.out; omega))⟩
          have HSQ : za (g < wr.heap.size) := ⟨yB hgq⟩
          have hpq' := hpq
          unfold zF at hpq'
          have p0 := zh hpq' (j := 0) (v := .int .i64 nN) rfl
          have p1 := zh hpq' (j := 1) (v := .int .i64 nT) rfl
          have q0 := zh hgq (j := 0) (v := .int .i64 2) rfl
          clear hgq hpq hpq' HNJ HFJ
          go_wp2
          obtain ⟨wk, hwk⟩ : ∃ wk, wk = wr := ⟨_, rfl⟩
          rw [← hwk] at HNE HGQ HPQ HBQ HSQ p0 p1 q0 ⊢
          clear hwk
          go_loopw [12, 13] (fun v12 v13 wq => ∃ (h : Nat), h ≤ nN ∧ v13 = .int .i64 h ∧ v12 = .int .i64 (jI (cur ++ sn) h : Nat) ∧ wq = wk) (fun _ v13 _ => nN - (intOf v13).toNat)
          case atStart => exact ⟨0, by omega, rfl, rfl, rfl⟩
          obtain ⟨h, hh, rfl, rfl, rfl⟩ := hrel
          by_cases hhn : h < nN
          ·obtain ⟨gq, hgq', _, _, _, hcx, _, _⟩ := jJ (d0 := false) HNE.out h hhn
           injection hgq' with hgq'
           injection hgq' with hgq'
           subst hgq'
           rw [zdz nN _ h hhn] at hcx
           have hsu := JU (cur ++ sn) h
           have hle := zbO (cur ++ sn) h
           obtain ⟨ch, hch⟩ : ∃ ch, ch = jI (cur ++ sn) h := ⟨_, rfl⟩
           rw [← hch] at hsu hle ⊢
           have hhI : (h : Int) < (nN : Int) := by omega
           by_cases hm : (h : Int) ∈ cur ++ sn
           ·rw [decide_eq_true hm] at hcx
            rw [if_pos hm] at hsu
            have hw1 : wrap64 ((ch : Int) + 1) = ((ch + 1 : Nat) : Int) := yU ch (by omega)
            have HSU := za.mk hsu
            clear hsu hch hm
            go_wp2
            go_roundw
            case rel => exact ⟨h + 1, by omega, by go_num, by first | rw [HSU.out, hw1] | (rw [HSU.out]; rfl), by first | trivial | rfl⟩
            simp [intOf]; omega
           rw [decide_eq_false hm] at hcx
           rw [if_neg hm] at hsu
           have HSU := za.mk hsu
           clear hsu hch hm
           go_wp2
           go_roundw
           case rel => exact ⟨h + 1, by omega, by go_num, by rw [HSU.out]; rfl, by first | trivial | rfl⟩
           simp [intOf]; omega
          obtain rfl : h = nN := by omega
          have hcard : jI (cur ++ sn) h = ZJ h (cur ++ sn) := rfl
          obtain ⟨Y1, Y2⟩ := HY12.out
          rw [← hcard] at Y1 Y2
          obtain ⟨cn, hcn⟩ : ∃ cn, cn = jI (cur ++ sn) h := ⟨_, rfl⟩
          rw [← hcn] at Y1 Y2 ⊢
          by_cases hct : (nT : Int) < (cn : Int)
          ·have HY := za.mk (Y1 hct)
           clear Y1 Y2 hcard hcn
           go_wp2
           go_ret
           exact ⟨by rw [HY.out]; rfl, HBQ.out⟩
          have hct' : (cn : Int) ≤ (nT : Int) := by omega
          have HY := za.mk (Y2 hct')
          clear Y1 Y2 hcard hcn
          obtain ⟨W6, hW6, hz6, _, hb6⟩ := zU wr (.cells (Array.replicate h (.bool false)) 4)
          have HN6 : za (Kd.R kb 4 W6 w.heap.size (fun k => k = wr.heap.size) (.slice (some ⟨wr.heap.size, 0, none⟩) h h) (Za h [])) := ⟨by rw [hW6]; exact zhc w wr h (by omega) HBQ.out⟩
          have HG6 : za (W6.heap[g]? = some (.cells #[.int .i64 2, .int .i64 target, .slice D nd cd, .slice S j cs] 90 (0, 0)) ∧ W6.heap[w.heap.size]? = some (zF h nT nK E Rm)) := ⟨zl HGQ.out hb6, zl HPQ.out hb6⟩
          have HB6 : za (Below w.heap.size w W6) := ⟨HBQ.out.trans (hb6.mono HBQ.out.size)⟩
          have HL6 : za (w.heap.size < wr.heap.size ∧ wr.heap.size < W6.heap.size ∧ g < wr.heap.size) := ⟨by have := HGL.out; have := HSQ.out; omega⟩
          have HW6 := za.mk hW6
          clear hW6 hz6 hb6
          go_wp2
          rw [← HW6.out]
          obtain ⟨gm, hgm⟩ : ∃ gm, gm = wr.heap.size := ⟨_, rfl⟩
          rw [← hgm] at HN6 HL6 ⊢
          clear hgm HW6 HNE HGQ HPQ HBQ
          go_loopw [14] (fun v14 wq => ∃ (k : Nat), k ≤ j ∧ v14 = .int .i64 k ∧ za (Kd.R kb 4 wq w.heap.size (fun q => q = gm) (.slice (some ⟨gm, 0, none⟩) h h) (Za h (sn.take k))) ∧ za (Fr (fun q => q = gm) W6 wq)) (fun v14 _ => j - (intOf v14).toNat)
          case atStart => exact ⟨0, by omega, rfl, HN6, ⟨Fr.refl _ _⟩⟩
          clear HN6
          obtain ⟨k, hk, rfl, HNJ, HFJ⟩ := hrel
          have hgq := HFJ.out.blk HG6.out.1 (fun e => by have := HL6.out; omega)
          have hpq := HFJ.out.blk HG6.out.2 (fun e => by have := HL6.out; omega)
          have q3 := zh hgq (j := 3) (v := .slice S j cs) rfl
          by_cases hkn : k < j
          ·obtain ⟨adS, rfl, hx⟩ := zbf HSC.out ((Fr.of_below HB6.out (fun k => w.heap.size ≤ k)).trans' (HFJ.out.mono (fun k hk => by have := HL6.out; omega))) (fun _ h => h) k hkn
           have hjl : k < sn.length := by rw [HSN.out]; exact hkn
           obtain ⟨x, hxe, hxN⟩ := HRG.out.2 _ (yL hjl)
           rw [hxe] at hx
           obtain ⟨gq, hgq', _, _, _, hcx, hfz, hset⟩ := jJ (d0 := false) HNJ.out x hxN
           injection hgq' with hgq'
           injection hgq' with hgq'
           subst hgq'
           have HSET : za (Kd.R kb 4 (wr.setCell ⟨gm, x, none⟩ (.bool true)) w.heap.size (fun k => k = gm) (.slice (some ⟨gm, 0, none⟩) h h) (Za h (sn.take (k + 1)))) := ⟨by
            have h2 := hset true
            rw [zbY, ← hxe, ← zK 0 sn k hjl] at h2
            exact h2⟩
           have HFJ' : za (Fr (fun k => k = gm) W6 (wr.setCell ⟨gm, x, none⟩ (.bool true))) := ⟨HFJ.out.set_ (.inl rfl) _⟩
           have hkJ : (k : Int) < (j : Int) := by omega
           have hxI : (x : Int) < (h : Int) := by omega
           clear hset hxe hjl hgq hpq
           go_wp2
           go_roundw
           case rel => exact ⟨k + 1, by omega, by go_num, HSET, HFJ'⟩
           simp [intOf]; omega
          obtain rfl : k = j := by omega
          have HNE : za (Kd.R kb 4 wr w.heap.size (fun q => q = gm) (.slice (some ⟨gm, 0, none⟩) h h) (Za h sn)) := ⟨by
           have h2 := HNJ.out
           rwa [List.take_of_length_le (by rw [HSN.out]; exact Nat.le_refl _)] at h2⟩
          have HPQ := za.mk hpq
          have HBQ : za (Below w.heap.size w wr) := ⟨HB6.out.trans (HFJ.out.below HB6.out.size (fun q hq => by have := HL6.out; omega))⟩
          have HLQ : za (w.heap.size < gm ∧ gm < wr.heap.size) := ⟨HL6.out.1, by have := HL6.out.2.1; have := HFJ.out.size; omega⟩
          clear hgq hpq HNJ HFJ
          go_wp2
          go_roundw
          case rel => exact ⟨i + 1, gm, sn, by omega, by go_num, rfl, HNE, HY, HLQ, HPQ, HBQ⟩
          simp [intOf]; omega
     have e1 : ((nd : Int) != (nT : Int) + 1) = true := by simp; omega
     have HY : za (res = false) := ⟨HNOK.out (by rintro ⟨_, h1, h2, h3, h4, h5, h6⟩; rw [if_neg (by decide)] at h1; exact c1 h1)⟩
     clear HNOK HYOK
     go_wp2_with (first
      | (go_at_call 102; first
          | (with_reducible refine (HR1.out _ HBX.out).mono ?_; rintro e w2 ⟨rfl, ⟨m2, rfl⟩⟩)
          | (with_reducible refine (HR2.out _ (zb HBX.out m2)).mono ?_; rintro e w3 ⟨rfl, ⟨m3, rfl⟩⟩))
      | (go_at_call 103; with_reducible refine (HIN.out _ (zb HBX.out _)).mono ?_; rintro e w4 ⟨rfl, ⟨m4, rfl⟩⟩))
     go_ret
     exact ⟨by rw [HY.out]; rfl, HBX.out⟩
    ·by_cases c1 : (nd : Int) = (nT : Int) + 1
     ·have e1 : ((nd : Int) != (nT : Int) + 1) = false := by simp; omega
      by_cases c2 : target < 0
      ·skip
       have HY : za (res = false) := ⟨HNOK.out (by rintro ⟨_, h1, h2, h3, h4, h5, h6⟩; omega)⟩
       clear HNOK HYOK
       go_wp2_with (first
        | (go_at_call 102; first
            | (with_reducible refine (HR1.out _ HBX.out).mono ?_; rintro e w2 ⟨rfl, ⟨m2, rfl⟩⟩)
            | (with_reducible refine (HR2.out _ (zb HBX.out m2)).mono ?_; rintro e w3 ⟨rfl, ⟨m3, rfl⟩⟩))
        | (go_at_call 103; with_reducible refine (HIN.out _ (zb HBX.out _)).mono ?_; rintro e w4 ⟨rfl, ⟨m4, rfl⟩⟩))
       go_ret
       exact ⟨by rw [HY.out]; rfl, HBX.out⟩
      have c2' : 0 ≤ target := by omega
      by_cases c3 : (nN : Int) ≤ target
      ·skip
       have HY : za (res = false) := ⟨HNOK.out (by rintro ⟨_, h1, h2, h3, h4, h5, h6⟩; omega)⟩
       clear HNOK HYOK
       go_wp2_with (first
        | (go_at_call 102; first
            | (with_reducible refine (HR1.out _ HBX.out).mono ?_; rintro e w2 ⟨rfl, ⟨m2, rfl⟩⟩)
            | (with_reducible refine (HR2.out _ (zb HBX.out m2)).mono ?_; rintro e w3 ⟨rfl, ⟨m3, rfl⟩⟩))
        | (go_at_call 103; with_reducible refine (HIN.out _ (zb HBX.out _)).mono ?_; rintro e w4 ⟨rfl, ⟨m4, rfl⟩⟩))
       go_ret
       exact ⟨by rw [HY.out]; rfl, HBX.out⟩
      have c3' : target < (nN : Int) := by omega
      cases b1 with
      | false =>
        have HY : za (res = false) := ⟨HNOK.out (by rintro ⟨_, h1, h2, h3, h4, h5, h6⟩; cases h4)⟩
        clear HNOK HYOK
        go_wp2_with (first
         | (go_at_call 102; first
             | (with_reducible refine (HR1.out _ HBX.out).mono ?_; rintro e w2 ⟨rfl, ⟨m2, rfl⟩⟩)
             | (with_reducible refine (HR2.out _ (zb HBX.out m2)).mono ?_; rintro e w3 ⟨rfl, ⟨m3, rfl⟩⟩))
         | (go_at_call 103; with_reducible refine (HIN.out _ (zb HBX.out _)).mono ?_; rintro e w4 ⟨rfl, ⟨m4, rfl⟩⟩))
        go_ret
        exact ⟨by rw [HY.out]; rfl, zb HBX.out m2⟩
      | true =>
        cases b2 with
        | false =>
          have HY : za (res = false) := ⟨HNOK.out (by rintro ⟨_, h1, h2, h3, h4, h5, h6⟩; cases h5)⟩
          clear HNOK HYOK
          go_wp2_with (first
           | (go_at_call 102; first
               | (with_reducible refine (HR1.out _ HBX.out).mono ?_; rintro e w2 ⟨rfl, ⟨m2, rfl⟩⟩)
               | (with_reducible refine (HR2.out _ (zb HBX.out m2)).mono ?_; rintro e w3 ⟨rfl, ⟨m3, rfl⟩⟩))
           | (go_at_call 103; with_reducible refine (HIN.out _ (zb HBX.out _)).mono ?_; rintro e w4 ⟨rfl, ⟨m4, rfl⟩⟩))
          go_ret
          exact ⟨by rw [HY.out]; rfl, zb HBX.out _⟩
        | true =>
          cases b3 with
          | false =>
            clear HNOK
            have HY12 : za (((nT : Int) < (ZJ nN (cur ++ sn) : Int) → res = false) ∧ ((ZJ nN (cur ++ sn) : Int) ≤ nT → res = decide (zac nN nT (rs.drop (i + 1)) (cur ++ sn)))) := ⟨by
             obtain ⟨Y1, Y2⟩ := HYOK.out ⟨by omega, by rw [if_neg (by decide)]; exact c1, c2', c3', rfl, rfl, fun _ => rfl⟩
             refine ⟨Y1, fun h => ?_⟩
             have h2 := Y2 h
             rw [if_neg (by decide)] at h2
             exact h2⟩
            clear HYOK
            have HRG := za.mk (HRNG.out rfl)
            have hnsl : ns ≤ 255 := by rw [← HSN.out]; exact HRG.out.1
            clear HRNG
            go_wp2_with (first
             | (go_at_call 102; first
                 | (with_reducible refine (HR1.out _ HBX.out).mono ?_; rintro e w2 ⟨rfl, ⟨m2, rfl⟩⟩)
                 | (with_reducible refine (HR2.out _ (zb HBX.out m2)).mono ?_; rintro e w3 ⟨rfl, ⟨m3, rfl⟩⟩))
             | (go_at_call 103; with_reducible refine (HIN.out _ (zb HBX.out _)).mono ?_; rintro e w4 ⟨rfl, ⟨m4, rfl⟩⟩))
            have HNX : za (Kd.R kb 4 ((wr.alloc (Obj.cells #[.int .i64 3, .int .i64 target, .slice D nd cd, .slice S ns cs] 90)).drewN (m2 + m3 + m4)) w.heap.size (fun k => k = gn) (.slice (some ⟨gn, 0, none⟩) nN nN) (Za nN cur)) := ⟨jo HNO.out (S := fun _ => False) (Fr.drewN ((Fr.refl _ wr).alloc _) _) (fun _ _ _ _ h => h)⟩
            have HGX : za ((((wr.alloc (Obj.cells #[.int .i64 3, .int .i64 target, .slice D nd cd, .slice S ns cs] 90)).drewN (m2 + m3 + m4))).heap[wr.heap.size]? = some (.cells #[.int .i64 3, .int .i64 target, .slice D nd cd, .slice S ns cs] 90 (0, 0)) ∧ (((wr.alloc (Obj.cells #[.int .i64 3, .int .i64 target, .slice D nd cd, .slice S ns cs] 90)).drewN (m2 + m3 + m4))).heap[w.heap.size]? = some (zF nN nT nK E Rm)) := ⟨yw wr _, zt HPB.out _⟩
            have HBY : za (Below w.heap.size w (((wr.alloc (Obj.cells #[.int .i64 3, .int .i64 target, .slice D nd cd, .slice S ns cs] 90)).drewN (m2 + m3 + m4)))) := ⟨zb HBX.out _⟩
            have HGL : za (w.heap.size < gn ∧ gn < wr.heap.size) := HBL
            obtain ⟨W5, hW5⟩ : ∃ W5, W5 = ((wr.alloc (Obj.cells #[.int .i64 3, .int .i64 target, .slice D nd cd, .slice S ns cs] 90)).drewN (m2 + m3 + m4)) := ⟨_, rfl⟩
            rw [← hW5] at HNX HGX HBY ⊢
            obtain ⟨g, hg⟩ : ∃ g, g = wr.heap.size := ⟨_, rfl⟩
            rw [← hg] at HGX HGL ⊢
            have HSX : za (g < W5.heap.size) := ⟨yB HGX.out.1⟩
            clear hW5 hg HNO HPB HBX HBL HBB p0 p1 HIN HR2 hc0 hc1 hc2 hc3
            go_loopw [11] (fun v11 wr => ∃ (j : Nat), j ≤ ns ∧ v11 = .int .i64 j ∧ za (Kd.R kb 4 wr w.heap.size (fun k => k = gn) (.slice (some ⟨gn, 0, none⟩) nN nN) (Za nN (cur ++ sn.take j))) ∧ za (Fr (fun k => k = gn) W5 wr)) (fun v11 _ => ns - (intOf v11).toNat)
            case atStart => exact ⟨0, by omega, rfl, ⟨by rw [List.take_zero, List.append_nil]; exact HNX.out⟩, ⟨Fr.refl _ _⟩⟩
            clear HNX
            obtain ⟨j, hj, rfl, HNJ, HFJ⟩ := hrel
            have hgq := HFJ.out.blk HGX.out.1 (fun e => by have := HGL.out; omega)
            have hpq := HFJ.out.blk HGX.out.2 (fun e => by have := HGL.out; omega)
            have q3 := zh hgq (j := 3) (v := .slice S ns cs) rfl
            by_cases hjn : j < ns
            ·obtain ⟨adS, rfl, hx⟩ := zbf HSC.out ((Fr.of_below HBY.out (fun k => w.heap.size ≤ k)).trans' (HFJ.out.mono (fun k hk => by have := HGL.out; omega))) (fun _ h => h) j hjn
             have hjl : j < sn.length := by rw [HSN.out]; exact hjn
             obtain ⟨x, hxe, hxN⟩ := HRG.out.2 _ (yL hjl)
             rw [hxe] at hx
             obtain ⟨gq, hgq', _, _, _, _, hfz, hset⟩ := jJ (d0 := false) HNJ.out x hxN
             injection hgq' with hgq'
             injection hgq' with hgq'
             subst hgq'
             have HSET : za (Kd.R kb 4 (wr.setCell ⟨gn, x, none⟩ (.bool true)) w.heap.size (fun k => k = gn) (.slice (some ⟨gn, 0, none⟩) nN nN) (Za nN (cur ++ sn.take (j + 1)))) := ⟨by
              have h := hset true
              rw [zbY, List.append_assoc, ← hxe, ← zK 0 sn j hjl] at h
              exact h⟩
             have HFJ' : za (Fr (fun k => k = gn) W5 (wr.setCell ⟨gn, x, none⟩ (.bool true))) := ⟨HFJ.out.set_ (.inl rfl) _⟩
             have hjJ : (j : Int) < (ns : Int) := by omega
             have hxI : (x : Int) < (nN : Int) := by omega
             obtain ⟨_, _, _, _, _, hcx, _, _⟩ := jJ (d0 := false) HNJ.out x hxN
             clear hset hxe hjl hgq hpq
             go_wp2
             go_roundw
             case rel => exact ⟨j + 1, by omega, by go_num, HSET, HFJ'⟩
             simp [intOf]; omega
            obtain rfl : j = ns := by omega
            have HNE : za (Kd.R kb 4 wr w.heap.size (fun k => k = gn) (.slice (some ⟨gn, 0, none⟩) nN nN) (Za nN (cur ++ sn))) := ⟨by
             have h := HNJ.out
             rwa [List.take_of_length_le (by rw [HSN.out]; exact Nat.le_refl _)] at h⟩
            have HGQ := za.mk hgq
            have HPQ := za.mk hpq
            have HBQ : za (Below w.heap.size w wr) := ⟨HBY.out.trans (HFJ.out.below HBY.out.size (fun k hk => by have := HGL.out; omega))⟩
            have HSQ : za (g < wr.heap.size) := ⟨yB hgq⟩
            have hpq' := hpq
            unfold zF at hpq'
            have p0 := zh hpq' (j := 0) (v := .int .i64 nN) rfl
            have p1 := zh hpq' (j := 1) (v := .int .i64 nT) rfl
            have q0 := zh hgq (j := 0) (v := .int .i64 3) rfl
            clear hgq hpq hpq' HNJ HFJ
            go_wp2
            obtain ⟨wk, hwk⟩ : ∃ wk, wk = wr := ⟨_, rfl⟩
            rw [← hwk] at HNE HGQ HPQ HBQ HSQ p0 p1 q0 ⊢
            clear hwk
            go_loopw [12, 13] (fun v12 v13 wq => ∃ (h : Nat), h ≤ nN ∧ v13 = .int .i64 h ∧ v12 = .int .i64 (jI (cur ++ sn) h : Nat) ∧ wq = wk) (fun _ v13 _ => nN - (intOf v13).toNat)
            case atStart => exact ⟨0, by omega, rfl, rfl, rfl⟩
            obtain ⟨h, hh, rfl, rfl, rfl⟩ := hrel
            by_cases hhn : h < nN
            ·obtain ⟨gq, hgq', _, _, _, hcx, _, _⟩ := jJ (d0 := false) HNE.out h hhn
             injection hgq' with hgq'
             injection hgq' with hgq'
             subst hgq'
             rw [zdz nN _ h hhn] at hcx
             have hsu := JU (cur ++ sn) h
             have hle := zbO (cur ++ sn) h
             obtain ⟨ch, hch⟩ : ∃ ch, ch = jI (cur ++ sn) h := ⟨_, rfl⟩
             rw [← hch] at hsu hle ⊢
             have hhI : (h : Int) < (nN : Int) := by omega
             by_cases hm : (h : Int) ∈ cur ++ sn
             ·rw [decide_eq_true hm] at hcx
              rw [if_pos hm] at hsu
              have hw1 : wrap64 ((ch : Int) + 1) = ((ch + 1 : Nat) : Int) := yU ch (by omega)
              have HSU := za.mk hsu
              clear hsu hch hm
              go_wp2
              go_roundw
              case rel => exact ⟨h + 1, by omega, by go_num, by first | rw [HSU.out, hw1] | (rw [HSU.out]; rfl), by first | trivial | rfl⟩
              simp [intOf]; omega
             rw [decide_eq_false hm] at hcx
             rw [if_neg hm] at hsu
             have HSU := za.mk hsu
             clear hsu hch hm
             go_wp2
             go_roundw
             case rel => exact ⟨h + 1, by omega, by go_num, by rw [HSU.out]; rfl, by first | trivial | rfl⟩
             simp [intOf]; omega
            obtain rfl : h = nN := by omega
            have hcard : jI (cur ++ sn) h = ZJ h (cur ++ sn) := rfl
            obtain ⟨Y1, Y2⟩ := HY12.out
            rw [← hcard] at Y1 Y2
            obtain ⟨cn, hcn⟩ : ∃ cn, cn = jI (cur ++ sn) h := ⟨_, rfl⟩
            rw [← hcn] at Y1 Y2 ⊢
            by_cases hct : (nT : Int) < (cn : Int)
            ·have HY := za.mk (Y1 hct)
             clear Y1 Y2 hcard hcn
             go_wp2
             go_ret
             exact ⟨by rw [HY.out]; rfl, HBQ.out⟩
            have hct' : (cn : Int) ≤ (nT : Int) := by omega
            have HY := za.mk (Y2 hct')
            clear Y1 Y2 hcard hcn
            go_wp2
            go_roundw
            case rel => exact ⟨i + 1, gn, cur ++ sn, by omega, by go_num, rfl, HNE, HY, ⟨HGL.out.1, by have := HGL.out.2; have := HSQ.out; omega⟩, HPQ, HBQ⟩
            simp [intOf]; omega
          | true =>
            have HY : za (res = false) := ⟨HNOK.out (by rintro ⟨_, h1, h2, h3, h4, h5, h6⟩; cases h6 rfl)⟩
            clear HNOK HYOK
            go_wp2_with (first
             | (go_at_call 102; first
                 | (with_reducible refine (HR1.out _ HBX.out).mono ?_; rintro e w2 ⟨rfl, ⟨m2, rfl⟩⟩)
                 | (with_reducible refine (HR2.out _ (zb HBX.out m2)).mono ?_; rintro e w3 ⟨rfl, ⟨m3, rfl⟩⟩))
             | (go_at_call 103; with_reducible refine (HIN.out _ (zb HBX.out _)).mono ?_; rintro e w4 ⟨rfl, ⟨m4, rfl⟩⟩))
            go_ret
            exact ⟨by rw [HY.out]; rfl, zb HBX.out _⟩
     have e1 : ((nd : Int) != (nT : Int) + 1) = true := by simp; omega
     have HY : za (res = false) := ⟨HNOK.out (by rintro ⟨_, h1, h2, h3, h4, h5, h6⟩; rw [if_neg (by decide)] at h1; exact c1 h1)⟩
     clear HNOK HYOK
     go_wp2_with (first
      | (go_at_call 102; first
          | (with_reducible refine (HR1.out _ HBX.out).mono ?_; rintro e w2 ⟨rfl, ⟨m2, rfl⟩⟩)
          | (with_reducible refine (HR2.out _ (zb HBX.out m2)).mono ?_; rintro e w3 ⟨rfl, ⟨m3, rfl⟩⟩))
      | (go_at_call 103; with_reducible refine (HIN.out _ (zb HBX.out _)).mono ?_; rintro e w4 ⟨rfl, ⟨m4, rfl⟩⟩))
     go_ret
     exact ⟨by rw [HY.out]; rfl, HBX.out⟩
    by_cases c1 : (nd : Int) = (nT : Int) + 1
    ·have e1 : ((nd : Int) != (nT : Int) + 1) = false := by simp; omega
     by_cases c2 : target < 0
     ·skip
      have HY : za (res = false) := ⟨HNOK.out (by rintro ⟨_, h1, h2, h3, h4, h5, h6⟩; omega)⟩
      clear HNOK HYOK
      go_wp2_with (first
       | (go_at_call 102; first
           | (with_reducible refine (HR1.out _ HBX.out).mono ?_; rintro e w2 ⟨rfl, ⟨m2, rfl⟩⟩)
           | (with_reducible refine (HR2.out _ (zb HBX.out m2)).mono ?_; rintro e w3 ⟨rfl, ⟨m3, rfl⟩⟩))
       | (go_at_call 103; with_reducible refine (HIN.out _ (zb HBX.out _)).mono ?_; rintro e w4 ⟨rfl, ⟨m4, rfl⟩⟩))
      go_ret
      exact ⟨by rw [HY.out]; rfl, HBX.out⟩
     have c2' : 0 ≤ target := by omega
     by_cases c3 : (nN : Int) ≤ target
     ·skip
      have HY : za (res = false) := ⟨HNOK.out (by rintro ⟨_, h1, h2, h3, h4, h5, h6⟩; omega)⟩
      clear HNOK HYOK
      go_wp2_with (first
       | (go_at_call 102; first
           | (with_reducible refine (HR1.out _ HBX.out).mono ?_; rintro e w2 ⟨rfl, ⟨m2, rfl⟩⟩)
           | (with_reducible refine (HR2.out _ (zb HBX.out m2)).mono ?_; rintro e w3 ⟨rfl, ⟨m3, rfl⟩⟩))
       | (go_at_call 103; with_reducible refine (HIN.out _ (zb HBX.out _)).mono ?_; rintro e w4 ⟨rfl, ⟨m4, rfl⟩⟩))
      go_ret
      exact ⟨by rw [HY.out]; rfl, HBX.out⟩
     have c3' : target < (nN : Int) := by omega
     cases b1 with
     | false =>
       have HY : za (res = false) := ⟨HNOK.out (by rintro ⟨_, h1, h2, h3, h4, h5, h6⟩; cases h4)⟩
       clear HNOK HYOK
       go_wp2_with (first
        | (go_at_call 102; first
            | (with_reducible refine (HR1.out _ HBX.out).mono ?_; rintro e w2 ⟨rfl, ⟨m2, rfl⟩⟩)
            | (with_reducible refine (HR2.out _ (zb HBX.out m2)).mono ?_; rintro e w3 ⟨rfl, ⟨m3, rfl⟩⟩))
        | (go_at_call 103; with_reducible refine (HIN.out _ (zb HBX.out _)).mono ?_; rintro e w4 ⟨rfl, ⟨m4, rfl⟩⟩))
       go_ret
       exact ⟨by rw [HY.out]; rfl, zb HBX.out m2⟩
     | true =>
       cases b2 with
       | false =>
         have HY : za (res = false) := ⟨HNOK.out (by rintro ⟨_, h1, h2, h3, h4, h5, h6⟩; cases h5)⟩
         clear HNOK HYOK
         go_wp2_with (first
          | (go_at_call 102; first
              | (with_reducible refine (HR1.out _ HBX.out).mono ?_; rintro e w2 ⟨rfl, ⟨m2, rfl⟩⟩)
              | (with_reducible refine (HR2.out _ (zb HBX.out m2)).mono ?_; rintro e w3 ⟨rfl, ⟨m3, rfl⟩⟩))
          | (go_at_call 103; with_reducible refine (HIN.out _ (zb HBX.out _)).mono ?_; rintro e w4 ⟨rfl, ⟨m4, rfl⟩⟩))
         go_ret
         exact ⟨by rw [HY.out]; rfl, zb HBX.out _⟩
       | true =>
         clear HNOK
         have HY12 : za (((nT : Int) < (ZJ nN (cur ++ sn) : Int) → res = false) ∧ ((ZJ nN (cur ++ sn) : Int) ≤ nT → res = decide (zac nN nT (rs.drop (i + 1)) (cur ++ sn)))) := ⟨by
          obtain ⟨Y1, Y2⟩ := HYOK.out ⟨by omega, by rw [if_neg (by decide)]; exact c1, c2', c3', rfl, rfl, fun h => absurd h (by decide)⟩
          refine ⟨Y1, fun h => ?_⟩
          have h2 := Y2 h
          rw [if_neg (by decide)] at h2
          exact h2⟩
         clear HYOK
         have HRG := za.mk (HRNG.out rfl)
         have hnsl : ns ≤ 255 := by rw [← HSN.out]; exact HRG.out.1
         clear HRNG
         go_wp2_with (first
          | (go_at_call 102; first
              | (with_reducible refine (HR1.out _ HBX.out).mono ?_; rintro e w2 ⟨rfl, ⟨m2, rfl⟩⟩)
              | (with_reducible refine (HR2.out _ (zb HBX.out m2)).mono ?_; rintro e w3 ⟨rfl, ⟨m3, rfl⟩⟩))
          | (go_at_call 103; with_reducible refine (HIN.out _ (zb HBX.out _)).mono ?_; rintro e w4 ⟨rfl, ⟨m4, rfl⟩⟩))
         have HNX : za (Kd.R kb 4 ((wr.alloc (Obj.cells #[.int .i64 4, .int .i64 target, .slice D nd cd, .slice S ns cs] 90)).drewN (m2 + m3)) w.heap.size (fun k => k = gn) (.slice (some ⟨gn, 0, none⟩) nN nN) (Za nN cur)) := ⟨jo HNO.out (S := fun _ => False) (Fr.drewN ((Fr.refl _ wr).alloc _) _) (fun _ _ _ _ h => h)⟩
         have HGX : za ((((wr.alloc (Obj.cells #[.int .i64 4, .int .i64 target, .slice D nd cd, .slice S ns cs] 90)).drewN (m2 + m3))).heap[wr.heap.size]? = some (.cells #[.int .i64 4, .int .i64 target, .slice D nd cd, .slice S ns cs] 90 (0, 0)) ∧ (((wr.alloc (Obj.cells #[.int .i64 4, .int .i64 target, .slice D nd cd, .slice S ns cs] 90)).drewN (m2 + m3))).heap[w.heap.size]? = some (zF nN nT nK E Rm)) := ⟨yw wr _, zt HPB.out _⟩
         have HBY : za (Below w.heap.size w (((wr.alloc (Obj.cells #[.int .i64 4, .int .i64 target, .slice D nd cd, .slice S ns cs] 90)).drewN (m2 + m3)))) := ⟨zb HBX.out _⟩
         have HGL : za (w.heap.size < gn ∧ gn < wr.heap.size) := HBL
         obtain ⟨W5, hW5⟩ : ∃ W5, W5 = ((wr.alloc (Obj.cells #[.int .i64 4, .int .i64 target, .slice D nd cd, .slice S ns cs] 90)).drewN (m2 + m3)) := ⟨_, rfl⟩
         rw [← hW5] at HNX HGX HBY ⊢
         obtain ⟨g, hg⟩ : ∃ g, g = wr.heap.size := ⟨_, rfl⟩
         rw [← hg] at HGX HGL ⊢
         have HSX : za (g < W5.heap.size) := ⟨yB HGX.out.1⟩
         clear hW5 hg HNO HPB HBX HBL HBB p0 p1 HIN HR2 hc0 hc1 hc2 hc3
         go_loopw [11] (fun v11 wr => ∃ (j : Nat), j ≤ ns ∧ v11 = .int .i64 j ∧ za (Kd.R kb 4 wr w.heap.size (fun k => k = gn) (.slice (some ⟨gn, 0, none⟩) nN nN) (Za nN (cur ++ sn.take j))) ∧ za (Fr (fun k => k = gn) W5 wr)) (fun v11 _ => ns - (intOf v11).toNat)
         case atStart => exact ⟨0, by omega, rfl, ⟨by rw [List.take_zero, List.append_nil]; exact HNX.out⟩, ⟨Fr.refl _ _⟩⟩
         clear HNX
         obtain ⟨j, hj, rfl, HNJ, HFJ⟩ := hrel
         have hgq := HFJ.out.blk HGX.out.1 (fun e => by have := HGL.out; omega)
         have hpq := HFJ.out.blk HGX.out.2 (fun e => by have := HGL.out; omega)
         have q3 := zh hgq (j := 3) (v := .slice S ns cs) rfl
         by_cases hjn : j < ns
         ·obtain ⟨adS, rfl, hx⟩ := zbf HSC.out ((Fr.of_below HBY.out (fun k => w.heap.size ≤ k)).trans' (HFJ.out.mono (fun k hk => by have := HGL.out; omega))) (fun _ h => h) j hjn
          have hjl : j < sn.length := by rw [HSN.out]; exact hjn
          obtain ⟨x, hxe, hxN⟩ := HRG.out.2 _ (yL hjl)
          rw [hxe] at hx
          obtain ⟨gq, hgq', _, _, _, _, hfz, hset⟩ := jJ (d0 := false) HNJ.out x hxN
          injection hgq' with hgq'
          injection hgq' with hgq'
          subst hgq'
          have HSET : za (Kd.R kb 4 (wr.setCell ⟨gn, x, none⟩ (.bool true)) w.heap.size (fun k => k = gn) (.slice (some ⟨gn, 0, none⟩) nN nN) (Za nN (cur ++ sn.take (j + 1)))) := ⟨by
           have h := hset true
           rw [zbY, List.append_assoc, ← hxe, ← zK 0 sn j hjl] at h
           exact h⟩
          have HFJ' : za (Fr (fun k => k = gn) W5 (wr.setCell ⟨gn, x, none⟩ (.bool true))) := ⟨HFJ.out.set_ (.inl rfl) _⟩
          have hjJ : (j : Int) < (ns : Int) := by omega
          have hxI : (x : Int) < (nN : Int) := by omega
          obtain ⟨_, _, _, _, _, hcx, _, _⟩ := jJ (d0 := false) HNJ.out x hxN
          clear hset hxe hjl hgq hpq
          go_wp2
          go_roundw
          case rel => exact ⟨j + 1, by omega, by go_num, HSET, HFJ'⟩
          simp [intOf]; omega
         obtain rfl : j = ns := by omega
         have HNE : za (Kd.R kb 4 wr w.heap.size (fun k => k = gn) (.slice (some ⟨gn, 0, none⟩) nN nN) (Za nN (cur ++ sn))) := ⟨by
          have h := HNJ.out
          rwa [List.take_of_length_le (by rw [HSN.out]; exact Nat.le_refl _)] at h⟩
         have HGQ := za.mk hgq
         have HPQ := za.mk hpq
         have HBQ : za (Below w.heap.size w wr) := ⟨HBY.out.trans (HFJ.out.below HBY.out.size (fun k hk => by have := HGL.out; omega))⟩
         have HSQ : za (g < wr.heap.size) := ⟨yB hgq⟩
         have hpq' := hpq
         unfold zF at hpq'
         have p0 := zh hpq' (j := 0) (v := .int .i64 nN) rfl
         have p1 := zh hpq' (j := 1) (v := .int .i64 nT) rfl
         have q0 := zh hgq (j := 0) (v := .int .i64 4) rfl
         clear hgq hpq hpq' HNJ HFJ
         go_wp2
         obtain ⟨wk, hwk⟩ : ∃ wk, wk = wr := ⟨_, rfl⟩
         rw [← hwk] at HNE HGQ HPQ HBQ HSQ p0 p1 q0 ⊢
         clear hwk
         go_loopw [12, 13] (fun v12 v13 wq => ∃ (h : Nat), h ≤ nN ∧ v13 = .int .i64 h ∧ v12 = .int .i64 (jI (cur ++ sn) h : Nat) ∧ wq = wk) (fun _ v13 _ => nN - (intOf v13).toNat)
         case atStart => exact ⟨0, by omega, rfl, rfl, rfl⟩
         obtain ⟨h, hh, rfl, rfl, rfl⟩ := hrel
         by_cases hhn : h < nN
         ·obtain ⟨gq, hgq', _, _, _, hcx, _, _⟩ := jJ (d0 := false) HNE.out h hhn
          injection hgq' with hgq'
          injection hgq' with hgq'
          subst hgq'
          rw [zdz nN _ h hhn] at hcx
          have hsu := JU (cur ++ sn) h
          have hle := zbO (cur ++ sn) h
          obtain ⟨ch, hch⟩ : ∃ ch, ch = jI (cur ++ sn) h := ⟨_, rfl⟩
          rw [← hch] at hsu hle ⊢
          have hhI : (h : Int) < (nN : Int) := by omega
          by_cases hm : (h : Int) ∈ cur ++ sn
          ·rw [decide_eq_true hm] at hcx
           rw [if_pos hm] at hsu
           have hw1 : wrap64 ((ch : Int) + 1) = ((ch + 1 : Nat) : Int) := yU ch (by omega)
           have HSU := za.mk hsu
           clear hsu hch hm
           go_wp2
           go_roundw
           case rel => exact ⟨h + 1, by omega, by go_num, by first | rw [HSU.out, hw1] | (rw [HSU.out]; rfl), by first | trivial | rfl⟩
           simp [intOf]; omega
          rw [decide_eq_false hm] at hcx
          rw [if_neg hm] at hsu
          have HSU := za.mk hsu
          clear hsu hch hm
          go_wp2
          go_roundw
          case rel => exact ⟨h + 1, by omega, by go_num, by rw [HSU.out]; rfl, by first | trivial | rfl⟩
          simp [intOf]; omega
         obtain rfl : h = nN := by omega
         have hcard : jI (cur ++ sn) h = ZJ h (cur ++ sn) := rfl
         obtain ⟨Y1, Y2⟩ := HY12.out
         rw [← hcard] at Y1 Y2
         obtain ⟨cn, hcn⟩ : ∃ cn, cn = jI (cur ++ sn) h := ⟨_, rfl⟩
         rw [← hcn] at Y1 Y2 ⊢
         by_cases hct : (nT : Int) < (cn : Int)
         ·have HY := za.mk (Y1 hct)
          clear Y1 Y2 hcard hcn
          go_wp2
          go_ret
          exact ⟨by rw [HY.out]; rfl, HBQ.out⟩
         have hct' : (cn : Int) ≤ (nT : Int) := by omega
         have HY := za.mk (Y2 hct')
         clear Y1 Y2 hcard hcn
         go_wp2
         go_roundw
         case rel => exact ⟨i + 1, gn, cur ++ sn, by omega, by go_num, rfl, HNE, HY, ⟨HGL.out.1, by have := HGL.out.2; have := HSQ.out; omega⟩, HPQ, HBQ⟩
         simp [intOf]; omega
    have e1 : ((nd : Int) != (nT : Int) + 1) = true := by simp; omega
    have HY : za (res = false) := ⟨HNOK.out (by rintro ⟨_, h1, h2, h3, h4, h5, h6⟩; rw [if_neg (by decide)] at h1; exact c1 h1)⟩
    clear HNOK HYOK
    go_wp2_with (first
     | (go_at_call 102; first
         | (with_reducible refine (HR1.out _ HBX.out).mono ?_; rintro e w2 ⟨rfl, ⟨m2, rfl⟩⟩)
         | (with_reducible refine (HR2.out _ (zb HBX.out m2)).mono ?_; rintro e w3 ⟨rfl, ⟨m3, rfl⟩⟩))
     | (go_at_call 103; with_reducible refine (HIN.out _ (zb HBX.out _)).mono ?_; rintro e w4 ⟨rfl, ⟨m4, rfl⟩⟩))
    go_ret
    exact ⟨by rw [HY.out]; rfl, HBX.out⟩
   obtain rfl : i = n := by omega
   have HY : za (res = true) := ⟨by rw [HRF.out, List.drop_of_length_le (by rw [HNL.out]; exact Nat.le_refl _)]; exact decide_eq_true trivial⟩
   go_wp2
   go_ret
   exact ⟨by rw [HY.out]; rfl, HBB.out⟩
end Go.Proofs.Ytpeiejkcoadhfaa
