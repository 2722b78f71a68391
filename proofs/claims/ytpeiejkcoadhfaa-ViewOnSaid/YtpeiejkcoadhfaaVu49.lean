/- What the view's laws take, Vu49: VwCO. -/
import Derived.Test.YtpeiejkcoadhfaaVu33
import Derived.Test.YtpeiejkcoadhfaaVu36
import Derived.Test.YtpeiejkcoadhfaaVu39
import Derived.Test.YtpeiejkcoadhfaaVu48
set_option linter.all false
namespace Go.Proofs.Ytpeiejkcoadhfaa
open Go.RowKit Go.Shelf Go.Proofs.YtpeiejkcoadhfaaW.PrintWords Go.Proofs.YtpeiejkcoadhfaaW.PrintMore
open Go.BigFrame
attribute [local go_sem] Oper.semAt_some
set_option maxRecDepth 100000 in
set_option maxHeartbeats 12800000 in
theorem JH (w : World) (nN nT nK : Nat) (E Rm : Int) (A : Option Addr) (n c : Nat) (data : List F) (hd : Kd.C fk w A n data) (hc : n ≤ c) (X : Option Addr) (nr cr : Nat) (rs : List Ri) (hR : RL w X nr rs) (hsm : ∀ r ∈ rs, r.ds.length ≤ 9223372036854775807 ∧ r.sn.length ≤ 9223372036854775807)
 (B : Option Addr) (m d : Nat) (ts : List (List F)) (hT : PL w B m ts) (hm : m ≤ 1000000000) (hok : yv nN nT nK E Rm n rs (ts.map List.length)) :
 Calls Try.prog 73 #[zv nN nT nK E Rm, .slice A n c, .slice X nr cr, .slice B m d] w fun e w' => ∃ O co, e = .returned (.slice O (jD nN nT nK data rs ts).length co) ∧ Kd.C fk w' O (jD nN nT nK data rs ts).length (jD nN nT nK data rs ts) ∧ (jD nN nT nK data rs ts).length ≤ co ∧ Below w.heap.size w w' := by
 obtain ⟨res, hres⟩ : ∃ res, res = jD nN nT nK data rs ts := ⟨_, rfl⟩
 have HRS := za.mk hres
 rw [← hres]
 clear hres
 obtain ⟨t0, tl, hts, ht0, hlen, hro, hep, ya, yb, yc, yd⟩ := zap hok
 have hnl : rs.length = nr := Zi hR
 have hdl : data.length = n := Kd.C_len hd
 have htl : ts.length = m := zbA hT
 have hgd := hok.1.1
 have hnn : nr ≤ 1024 := by have := hok.1.2.2.2.1; omega
 have hn256 : n ≤ 256 := by have := hok.1.2.2.1; omega
 rw [Int.toNat_natCast] at ht0 hlen
 have hm1 : 0 < m := by rw [← htl, hts]; simp
 obtain ⟨W0, hW0, hz0, a0, hb0⟩ := zU w (Obj.cells #[.int .i64 nN, .int .i64 nT, .int .i64 nK, .int .i64 E, .int .i64 Rm] 48)
 have HB0 := za.mk hb0
 have HP0 := za.mk a0
 obtain ⟨s, hs⟩ : ∃ s, s = w.heap.size := ⟨_, rfl⟩
 rw [← hs] at HP0
 have HW0 := za.mk hW0
 have HS := za.mk hs
 obtain ⟨cols, hcols⟩ : ∃ cols, cols = ye n nK := ⟨_, rfl⟩
 have HCO := za.mk (fun W => PViewEmpty.shamrockref10_Columns.calls (n : Int) (nK : Int) _ W (zju n nK (by omega) (by omega) yb))
 rw [← hcols] at HCO
 have hcl : cols ≤ 256 := by rw [hcols]; exact Nat.le_trans (Zx n nK yb) hn256
 obtain ⟨adB, B0, c0, rfl, hx0, hl0, hC0⟩ := jV hT 0 hm1
 have ht00 : ts.getD 0 [] = t0 := by rw [hts]; rfl
 rw [ht00] at hx0 hl0 hC0
 rw [ht0, ← hcols] at hx0 hl0 hC0
 have HPO : za (∀ W, Below w.heap.size w W → Calls Try.prog 54 #[zv nN nT nK E Rm, .slice A n c, .slice B0 (nT * cols) c0] W fun e w' => ∃ D dd, e = .returned (.slice D cols dd) ∧ PL w' D cols (jl nN nT nK data t0) ∧ Below W.heap.size W w') := ⟨fun W hW => by
  have h := zja W nN nT nK E Rm A B0 n c (nT * cols) c0 data t0 (Kd.C_below hd hW) (Kd.C_below hC0 hW) hc hl0 (by omega) (by omega) (by omega) (by omega) yb yc (by rw [hcols])
  rw [← hcols] at h
  exact h.mono (fun e w' ⟨D, dd, h1, h2, h3⟩ => ⟨D, dd, h1, zhe h2, h3⟩)⟩
 have HSH : za (∀ W D dd, PL W D cols (jl nN nT nK data t0) → Calls Try.prog 53 #[zv nN nT nK E Rm, .slice D cols dd] W fun e w' => ∃ b, e = .returned (.slice (some ⟨b, 0, none⟩) nN nN) ∧ PL w' (some ⟨b, 0, none⟩) nN (zE nN cols (Jl nN nT nK data t0)) ∧ PLn w' (some ⟨b, 0, none⟩) nN (zE nN cols (Jl nN nT nK data t0)) (fun k => OB none k) ∧ Below W.heap.size W w') := ⟨fun W D dd hP => by
  refine (zda W nN nT nK E Rm D cols dd _ hP (by omega) (by omega) (fun q hq => ?_)).mono (fun e w' ⟨b, h1, h2, h3, h4⟩ => ?_)
  ·have := zeL nN nT nK data t0 q hq
   omega
  have e5 := zdT nN nT nK data t0
  rw [hdl, ← hcols] at e5
  rw [e5] at h3
  exact ⟨b, h1, zno h3, yM (zec h3 h2) (fun k _ hk => by obtain ⟨a, ha, _⟩ := hk; cases ha), h4⟩⟩
 have HCELL : za (∀ W, Fr (fun _ => False) W0 W → W.cell? ⟨s, 0, none⟩ = some (.int .i64 nN) ∧ W.cell? ⟨s, 1, none⟩ = some (.int .i64 nT) ∧ W.cell? ⟨s, 2, none⟩ = some (.int .i64 nK) ∧ W.cell? ⟨s, 3, none⟩ = some (.int .i64 E) ∧ W.cell? ⟨s, 4, none⟩ = some (.int .i64 Rm) ∧ W.cell? adB = some (.slice B0 (nT * cols) c0)) := ⟨fun W hW => by
  have h := hW.blk HP0.out (fun h => h)
  refine ⟨zh h rfl, zh h rfl, zh h rfl, zh h rfl, zh h rfl, ?_⟩
  rw [yi] at hx0
  exact hW.cell ((Fr.of_below HB0.out (fun _ => False)).cell hx0 (fun h => h)) (fun h => h)⟩
 have hu48 := Try.underlying48
 have hu90 := Try.underlying90
 have hm1I : (0 : Int) < (m : Int) := by omega
 obtain ⟨tn, htn⟩ : ∃ tn, tn = nT * cols := ⟨_, rfl⟩
 rw [← htn] at HPO HCELL
 unfold zv at *
 have HD := za.mk hd
 have HRL := za.mk hR
 have HT := za.mk hT
 have HOK := za.mk hok
 have HLEN := za.mk hlen
 have HRO := za.mk hro
 have HTS := za.mk hts
 have HNL := za.mk hnl
 have HDL := za.mk hdl
 have HTL := za.mk htl
 have HCOLS := za.mk hcols
 clear hd hR hsm hT hok hlen hro hep hts hnl hdl htl hgd hW0 hz0 a0 hb0 hcols hx0 hl0 hC0 ht00 ht0 htn hs
 go_enter Try.func73, Try.ntmps73
 go_wp2_with (go_at_call 104; rw [← HW0.out, ← HS.out]; with_reducible refine (HCO.out _).mono ?_; rintro e w1 ⟨rfl, hb1⟩; have HF1 := za.mk (Fr.of_drawn0 (S := fun _ => False) hb1); clear hb1)
 have S1 := HCELL.out w1 HF1.out
 go_region_held3 (fun W => W.cell? ⟨s, 0, none⟩ = some (.int .i64 nN) ∧ W.cell? ⟨s, 1, none⟩ = some (.int .i64 nT) ∧ W.cell? ⟨s, 2, none⟩ = some (.int .i64 nK) ∧ W.cell? ⟨s, 3, none⟩ = some (.int .i64 E) ∧ W.cell? ⟨s, 4, none⟩ = some (.int .i64 Rm) ∧ W.cell? adB = some (.slice B0 tn c0))
  (first | exact S3 | exact S2 | exact HCELL.out _ (HF1.out.trans' ((Fr.refl _ w1).drew)))
  (first
    | (go_at_call 54; with_reducible refine (HPO.out _ (HB0.out.trans (((HF1.out.trans' ((Fr.refl _ w1).drew)).f_below).mono HB0.out.size))).mono ?_; rintro e W2 ⟨D, dd, rfl, hP, hb2⟩; have HF2 := za.mk (HF1.out.trans' (((Fr.refl _ w1).drew).trans' (Fr.of_below hb2 _))); have HP2 := za.mk hP; have S2 := HCELL.out W2 HF2.out; clear hb2 hP)
    | (go_at_call 53; with_reducible refine (HSH.out _ _ _ HP2.out).mono ?_; rintro e W4 ⟨Y, rfl, -, hpl, hf4⟩; have HF4 := za.mk (HF2.out.trans' (Fr.of_below hf4 _)); have HPLN := za.mk hpl; have S3 := HCELL.out W4 HF4.out; clear hf4 hpl))
 have HBW : za (Below w.heap.size w W4) := ⟨HB0.out.trans (HF4.out.f_below.mono HB0.out.size)⟩
 have HPB : za (W4.heap[s]? = some (zF nN nT nK E Rm)) := ⟨HF4.out.blk HP0.out (fun h => h)⟩
 have HRES0 : za (([] : List F) ++ Zl nN cols (Jm nN nK) (yO nT nK) ptF ((rs.drop 0).map zM) (Jl nN nT nK data t0) (ts.drop 1) = res) := ⟨by
  rw [HRS.out]
  unfold jD
  rw [HDL.out, ← HCOLS.out, HTS.out]
  rfl⟩
 have HLN0 : za (Ji nT nK cols (rs.drop 0) (ts.drop 1)) := ⟨by
  rw [HTS.out, HCOLS.out]
  exact HLEN.out⟩
 have HR4 : za (RL W4 X nr rs) := ⟨zA HRL.out HBW.out⟩
 have HT4 : za (PL W4 (some adB) m ts) := ⟨zG HT.out HBW.out⟩
 have HRO2 : za (∀ r ∈ rs, zX nN nT r) := HRO
 clear S3 HP2 HF4 HF2 HF1 HCELL HSH HPO HCO HP0 HB0 HRL HT HD HW0 HOK
 go_wp2
 go_loopw [10, 11, 12, 13] (fun v10 v11 v12 v13 wr => ∃ (i nx no co cy : Nat) (Y O : Option Addr) (q : Ev) (out : List F), i ≤ nr ∧ v13 = .int .i64 i ∧ v10 = .slice Y nN cy ∧ v11 = .int .i64 nx ∧ v12 = .slice O no co ∧ za (Kd.R fk 5 wr W4.heap.size (fun _ => True) (.slice O no co) out) ∧ za (PLn wr Y nN (zE nN cols q) (fun k => OB O k)) ∧ za (nN ≤ cy) ∧ za (Below W4.heap.size W4 wr) ∧ za (out ++ Zl nN cols (Jm nN nK) (yO nT nK) ptF ((rs.drop i).map zM) q (ts.drop nx) = res) ∧ za (Ji nT nK cols (rs.drop i) (ts.drop nx)) ∧ za (no ≤ i * 150000000 ∧ nx ≤ m)) (fun _ _ _ v13 _ => nr - (intOf v13).toNat)
 case atStart => exact ⟨0, 1, 0, 0, nN, some ⟨Y, 0, none⟩, none, _, [], by omega, rfl, rfl, rfl, rfl, ⟨Kd.R_nil _ _ _ _ _⟩, HPLN, ⟨Nat.le_refl _⟩, ⟨Below.refl _ _⟩, HRES0, HLN0, ⟨by omega, by omega⟩⟩
 clear HPLN HRES0 HLN0
 obtain ⟨i, nx, no, co, cy, Y, O, q, out, hi, rfl, rfl, rfl, rfl, HOUT, HSHA, HCY, HBL, HRES, HLN, HBD⟩ := hrel
 by_cases hlt : i < nr
 ·obtain ⟨r, ad, D, S, nd, cd, ns, cs, hr, rfl, h0, h1, h2, h3, l1, lc1, hD, l2, lc2, hS⟩ := zdh HR4.out i hlt
  have hlen : i < rs.length := by rw [HNL.out]; exact hlt
  have hmem : r ∈ rs := by rw [hr, List.getD_eq_getElem?_getD, List.getElem?_eq_getElem hlen]; exact List.getElem_mem hlen
  have hro := HRO2.out r hmem
  have hdrop : rs.drop i = r :: rs.drop (i + 1) := by
   rw [hr, List.getD_eq_getElem?_getD, List.getElem?_eq_getElem hlen, List.drop_eq_getElem_cons hlen]; rfl
  have hc0 := (Fr.of_below HBL.out (fun _ => False)).cell h0 (fun h => h)
  have hc1 := (Fr.of_below HBL.out (fun _ => False)).cell h1 (fun h => h)
  have hc2 := (Fr.of_below HBL.out (fun _ => False)).cell h2 (fun h => h)
  have hc3 := (Fr.of_below HBL.out (fun _ => False)).cell h3 (fun h => h)
  have HDI := za.mk hD
  have HLC := za.mk (And.intro lc1 lc2)
  have HSE := za.mk hS
  have HRR := za.mk hro
  have HDR := za.mk hdrop
  have HND := za.mk l1
  have HNS := za.mk l2
  have hndl : nd ≤ 256 := by have := jO hro.2.2.2.2.1; omega
  have hnsl : ns ≤ 255 := by have := jO hro.2.2.2.2.2.1; omega
  obtain ⟨kind, target, ds, sn⟩ := r
  simp only at hc0 hc1
  obtain ⟨V, hV, hzV, hgV, hbV⟩ := zU wr (.cells #[.int .i64 kind, .int .i64 target, .slice D nd cd, .slice S ns cs] 90)
  have HV := za.mk hV
  have HZV := za.mk hzV
  have HGV := za.mk hgV
  have hiI : (i : Int) < (nr : Int) := by omega
  have hov : Kd.R fk 5 V W4.heap.size (fun _ => True) (.slice O no co) out := jo HOUT.out (Fr.of_below hbV (fun _ => False)) (fun _ _ _ _ h => h)
  have HOV := za.mk hov
  have HSV : za (PLn V Y nN (zE nN cols q) (fun k => OB O k)) := ⟨yy HSHA.out (Fr.of_below hbV (fun _ => False))⟩
  have HOL : za (∀ k, OB O k → k < V.heap.size) := ⟨fun k hk => Kd.R_lt hov k (zV hk)⟩
  have HBV : za (Below W4.heap.size W4 V) := ⟨HBL.out.trans (hbV.mono HBL.out.size)⟩
  have HSK : za (∀ W, Below V.heap.size V W → W.cell? ⟨s, 0, none⟩ = some (.int .i64 nN) ∧ W.cell? ⟨s, 1, none⟩ = some (.int .i64 nT) ∧ W.cell? ⟨s, 2, none⟩ = some (.int .i64 nK) ∧ W.cell? ⟨s, 3, none⟩ = some (.int .i64 E) ∧ W.cell? ⟨s, 4, none⟩ = some (.int .i64 Rm) ∧ W.cell? ⟨wr.heap.size, 0, none⟩ = some (.int .i64 kind) ∧ W.cell? ⟨wr.heap.size, 1, none⟩ = some (.int .i64 target) ∧ W.cell? ⟨wr.heap.size, 2, none⟩ = some (.slice D nd cd) ∧ W.cell? ⟨wr.heap.size, 3, none⟩ = some (.slice S ns cs)) := ⟨fun W hW => by
   have hs := HPB.out
   unfold zF at hs
   have h1 := zl (zl hs HBV.out) hW
   have h2 := zl HGV.out hW
   exact ⟨zh h1 rfl, zh h1 rfl, zh h1 rfl, zh h1 rfl, zh h1 rfl, zh h2 rfl, zh h2 rfl, zh h2 rfl, zh h2 rfl⟩⟩
  have hln := HLN.out
  rw [HDR.out] at hln
  obtain ⟨hl1, hl2, hl3⟩ := hln
  simp only at hl1 hl2 hl3
  rw [List.drop_drop] at hl3
  have HL1 := za.mk hl1
  have HL2 := za.mk hl2
  have HL3 := za.mk hl3
  have hnm : nx + nd ≤ m := by
   have h5 := HL1.out
   rw [List.length_drop, HND.out, HTL.out] at h5
   have := HBD.out.2
   omega
  have HNM := za.mk hnm
  obtain ⟨dE, hdE⟩ : ∃ dE : List Ev, dE = ((ts.drop nx).take nd).map (zdg nN nT nK (zM ⟨kind, target, ds, sn⟩)) := ⟨_, rfl⟩
  have hdel : dE.length = nd := by
   have := HL1.out
   rw [HND.out] at this
   rw [hdE, List.length_map, List.length_take]
   omega
  have HDEL := za.mk hdel
  have HDEE := za.mk hdE
  have hsp : PLn V Y nN (zE nN cols q) (fun k => OB O k ∨ OB none k) := yM HSV.out (fun k _ hk => by
   rcases hk with h | ⟨a, ha, _⟩
   ·exact h
   cases ha)
  obtain ⟨g3, cg, W1, run1, hsu1, hg3, hcg, hb1⟩ := zhY V Y nN cy _ _ hsp (by omega) (by omega)
  have HDJ0 : za (DJ V W1 nN g3 cg O (zE nN cols (yg q (dE.take 0))) none 0 0 ((dE.take 0).map (zE nN cols))) := ⟨⟨hsu1, zjs _ _ _, hb1⟩⟩
  have HG3 := za.mk hg3
  have HCG := za.mk hcg
  clear h0 h1 h2 h3 l1 lc1 hD l2 lc2 hS hr hmem hro hdrop hV hzV hgV hbV hov hl1 hl2 hl3 hnm hdE hdel hsp hsu1 hg3 hcg hb1
  go_wp2_with (at_builtin; rw [← HV.out]; (try rw [← HZV.out]); refine zm rfl _ _ _ _ rfl rfl rfl run1 ?_)
  obtain ⟨g2, hg2⟩ : ∃ g2, g2 = wr.heap.size := ⟨_, rfl⟩
  rw [← hg2] at HSK HGV ⊢
  clear hg2 hc0 hc1 hc2 hc3 HZV HV HSHA HOUT HBL run1
  go_loopw [16, 17] (fun v16 v17 wq => ∃ (j c : Nat) (Aa : Option Addr), j ≤ nd ∧ v17 = .int .i64 j ∧ v16 = .slice Aa j c ∧ za (DJ V wq nN g3 cg O (zE nN cols (yg q (dE.take j))) Aa j c ((dE.take j).map (zE nN cols)))) (fun _ v17 _ => nd - (intOf v17).toNat)
  case atStart => exact ⟨0, 0, none, by omega, rfl, rfl, HDJ0⟩
  clear HDJ0
  obtain ⟨j, c5, Aa, hj, rfl, rfl, HDJ⟩ := hrel
  by_cases hjn : j < nd
  ·have hjd : j < ds.length := by rw [HND.out]; exact hjn
   have hjE : j < dE.length := by rw [HDEL.out]; exact hjn
   obtain ⟨ad2, B2, tc, e2, hxT, hlT, hCT⟩ := jV HT4.out (nx + j) (by have := HNM.out; omega)
   injection e2 with e2
   subst e2
   have hgt : (ts.drop nx).getD j [] = ts.getD (nx + j) [] := by rw [List.getD_eq_getElem?_getD, List.getD_eq_getElem?_getD, List.getElem?_drop]
   have hjt : j < (ts.drop nx).length := by have := HL1.out; omega
   have htl : (ts.getD (nx + j) []).length = zD nT nK kind * cols := by
    refine HL2.out _ ?_
    rw [← hgt, List.getD_eq_getElem?_getD, List.getElem?_eq_getElem hjt]
    exact List.mem_take_iff_getElem.2 ⟨j, by omega, rfl⟩
   obtain ⟨t, ht⟩ : ∃ t, t = ts.getD (nx + j) [] := ⟨_, rfl⟩
   rw [← ht] at hxT hlT hCT htl
   obtain ⟨tl, htl'⟩ : ∃ tl, tl = t.length := ⟨_, rfl⟩
   rw [← htl'] at hxT hlT hCT htl
   obtain ⟨dj, hdj⟩ : ∃ dj, dj = dE.getD j fun _ _ => 0 := ⟨_, rfl⟩
   have hdt : dj = zdg nN nT nK (zM ⟨kind, target, ds, sn⟩) t := by
    rw [hdj, HDEE.out, List.getD_eq_getElem?_getD, List.getElem?_map, List.getElem?_take, if_pos hjn, ← hgt.trans ht.symm, List.getD_eq_getElem?_getD, List.getElem?_eq_getElem hjt]
    rfl
   have htk : dE.take (j + 1) = dE.take j ++ [dj] := by rw [hdj]; exact zK (fun _ _ => 0) dE j hjE
   have hrt : zE nN cols dj = yH nN (yj cols (zD nT nK kind) (yk nN nK kind (ptF target.toNat)) t) := by
    rw [hdt, zdQ]
    rfl
   have hro := HRR.out
   have htg : 0 ≤ target ∧ target < (nN : Int) := ⟨hro.2.2.1, hro.2.2.2.1⟩
   have HFA := za.mk (fun W => zgJ W nN nT nK E Rm kind target (ptF target.toNat) (by omega) (by omega) (fun _ => by
    rw [zjx, zcv (by omega)]
    omega))
   obtain ⟨fs, hfs⟩ : ∃ fs, fs = yk nN nK kind (ptF target.toNat) := ⟨_, rfl⟩
   have hfl : fs.length ≤ nK + 2 := by rw [hfs]; exact zhy _ _ _ _
   rw [← hfs] at HFA hrt
   have henl := jH nT nK kind (by omega) (by omega)
   have htl2 : tl ≤ 512000 := by
    rw [htl]
    exact Nat.le_trans (Nat.mul_le_mul henl hcl) (by omega)
   have HTI := za.mk (fun W D cd (hR : Kd.C fk W B2 tl t) (hD : Kd.C fk W D fs.length fs) => zcU W nN nT nK E Rm kind cols B2 D tl tc fs.length cd t fs hR hD hlT (by omega) (by omega) (by omega) (by omega) (by rw [htl]; exact Nat.le_refl _) (by omega) (by omega))
   have hql := zia (cols := cols) (en := zD nT nK kind) (fs := fs) (rnd := t)
   obtain ⟨qs, hqs⟩ : ∃ qs, qs = yj cols (zD nT nK kind) fs t := ⟨_, rfl⟩
   rw [← hqs] at HTI hrt hql
   have HSH := za.mk (fun W D cd (hP : PL W D cols qs) => zda W nN nT nK E Rm D cols cd qs hP (by omega) (by omega) (fun q hq => by have := hql q hq; omega))
   rw [← hrt] at HSH
   have hfw : Fr (fun _ => False) W4 wr := Fr.of_below (HBV.out.trans (HDJ.out.bl.mono HBV.out.size)) (fun _ => False)
   have HCT : za (∀ W, Below wr.heap.size wr W → Kd.C fk W B2 tl t) := ⟨fun W hW => jc hCT (hfw.trans' (Fr.of_below hW _)) (fun _ _ _ h => h)⟩
   obtain ⟨p, hp⟩ : ∃ p, p = nx + j := ⟨_, rfl⟩
   rw [← hp] at hxT
   have HPA : za (wrap64 ((nx : Int) + (j : Int)) = (p : Int)) := ⟨by rw [hp]; exact Jh nx j (by have := HNM.out; omega)⟩
   have HPW : za (IntKind.i64.wrap ((nx : Int) + (j : Int)) = (p : Int)) := ⟨by rw [hp]; exact (IntWalk.i64_in _ ⟨by omega, by have := HNM.out; omega⟩).trans (by omega)⟩
   have hpm : (p : Int) < (m : Int) := by have := HNM.out; omega
   have hpn : (0 : Int) ≤ (p : Int) := by omega
   have HSK2 : za (∀ W, Below wr.heap.size wr W → W.cell? ⟨s, 0, none⟩ = some (.int .i64 nN) ∧ W.cell? ⟨s, 1, none⟩ = some (.int .i64 nT) ∧ W.cell? ⟨s, 2, none⟩ = some (.int .i64 nK) ∧ W.cell? ⟨s, 3, none⟩ = some (.int .i64 E) ∧ W.cell? ⟨s, 4, none⟩ = some (.int .i64 Rm) ∧ W.cell? ⟨g2, 0, none⟩ = some (.int .i64 kind) ∧ W.cell? ⟨g2, 1, none⟩ = some (.int .i64 target) ∧ W.cell? (adB.add p) = some (.slice B2 tl tc)) := ⟨fun W hW => by
    obtain ⟨b0, b1, b2, b3, b4, b5, b6, b7, b8⟩ := HSK.out W (HDJ.out.bl.trans (hW.mono HDJ.out.bl.size))
    exact ⟨b0, b1, b2, b3, b4, b5, b6, (hfw.trans' (Fr.of_below hW _)).cell hxT (fun h => h)⟩⟩
   have p2 := (HSK.out wr HDJ.out.bl).2.2.2.2.2.2.2.1
   have hjI : (j : Int) < (nd : Int) := by omega
   have HTK := za.mk htk
   have hj6 : j ≤ 1000000 := by omega
   have HJ6 := za.mk hj6
   obtain ⟨nf, hnf⟩ : ∃ nf, nf = fs.length := ⟨_, rfl⟩
   rw [← hnf] at HFA HTI
   clear hro htg hgt hjt htl ht htl' hdj hdt htk hrt hfs hfl henl htl2 hql hqs hfw hCT hp hj6 hnf hjd hjE hxT hlT
   unfold zv at HFA HTI HSH
   go_wp2
   have hpa := HPW.out
   have k0 := za.mk (HSK2.out wr.drew (yf (Below.refl _ _)))
   have HBD0 : za (∀ W, Below wr.drew.heap.size wr.drew W → Below wr.heap.size wr W) := ⟨fun W hW => ZR hW⟩
   have HBT : za (∀ W W', Below wr.heap.size wr W → Below W.heap.size W W' → Below wr.heap.size wr W') := ⟨fun W W' h1 h2 => h1.trans (h2.mono h1.size)⟩
   have HPJ : za (∀ (W W' : World) g4, Below wr.heap.size wr W → W.heap.size ≤ g4 → yP W' W.heap.size (fun _ => True) g4 nN (zE nN cols dj) → PLn W' (some ⟨g4, 0, none⟩) nN (zE nN cols dj) (PJ O Aa g3)) := ⟨fun W W' g4 hB hg hR => yM (zec hR hg) (fun k _ hk => Nat.lt_of_lt_of_le (HDJ.out.pj HOL.out k hk) hB.size)⟩
   refine wp_region_held_drew (S := (fun W => W.cell? ⟨s, 0, none⟩ = some (.int .i64 nN) ∧ W.cell? ⟨s, 1, none⟩ = some (.int .i64 nT) ∧ W.cell? ⟨s, 2, none⟩ = some (.int .i64 nK) ∧ W.cell? ⟨s, 3, none⟩ = some (.int .i64 E) ∧ W.cell? ⟨s, 4, none⟩ = some (.int .i64 Rm) ∧ W.cell? ⟨g2, 0, none⟩ = some (.int .i64 kind) ∧ W.cell? ⟨g2, 1, none⟩ = some (.int .i64 target) ∧ W.cell? (adB.add p) = some (.slice B2 tl tc))) (by kernel_rfl) (k0.out) (fun hS => ?_)
   refine zk 0 58 hS ?_
   refine zk 1 59 hS ?_
   refine zk 2 60 hS ?_
   refine zk 3 61 hS ?_
   refine zk 4 62 hS ?_
   refine zk 5 63 hS ?_
   refine zk 6 64 hS ?_
   refine zk 7 65 hS ?_
   refine zk 8 66 hS ?_
   refine zk 9 67 hS ?_
   refine zk 10 68 hS ?_
   refine zk 11 69 hS ?_
   refine zk 12 70 hS ?_
   refine zk 13 71 hS ?_
   refine zk 14 72 hS ?_
   refine zk 15 73 hS ?_
   refine wpAnyH_ready (rs := [16]) (by kernel_rfl) (by simp) ?_
   refine AllReadyH.cons rfl (fun K hK => ?_) AllReadyH.nil
   rw [if_pos (by rfl)]
   go_simp
   go_at_call 94; with_reducible refine (HFA.out _).mono ?_; rintro e W2 ⟨D2, cd2, rfl, hcd, hC2, hb2⟩; have HB2 := za.mk (HBD0.out _ hb2); have HC2 := za.mk hC2; have k1 := za.mk (HSK2.out W2 HB2.out); clear hC2 hb2 hcd
   refine hK.out _ _ (by first | with_reducible exact k3.out | with_reducible exact k2.out | with_reducible exact k1.out) (fun hS2 => ?_)
   clear hK K hS
   have hS := hS2
   clear hS2
   try simp only [Act.put, List.setIfInBounds_toArray, List.set_cons_zero, List.set_cons_succ]
   refine wpAnyH_ready (rs := [17]) (by kernel_rfl) (by simp) ?_
   refine AllReadyH.cons rfl (fun K hK => ?_) AllReadyH.nil
   rw [if_pos (by rfl)]
   go_simp
   go_at_call 89; with_reducible refine (HTI.out _ _ _ (HCT.out _ HB2.out) HC2.out).mono ?_; rintro e W3 ⟨B3, d3, rfl, hP3, hb3⟩; have HB3 := za.mk (HBT.out _ _ HB2.out hb3); have HP3 := za.mk (zhe hP3); have k2 := za.mk (HSK2.out W3 HB3.out); clear hP3 hb3
   refine hK.out _ _ (by first | with_reducible exact k3.out | with_reducible exact k2.out | with_reducible exact k1.out) (fun hS2 => ?_)
   clear hK K hS
   have hS := hS2
   clear hS2
   try simp only [Act.put, List.setIfInBounds_toArray, List.set_cons_zero, List.set_cons_succ]
   refine wpAnyH_ready (rs := [18]) (by kernel_rfl) (by simp) ?_
   refine AllReadyH.cons rfl (fun K hK => ?_) AllReadyH.nil
   rw [if_pos (by rfl)]
   go_simp
   go_at_call 53; with_reducible refine (HSH.out _ _ _ HP3.out).mono ?_; rintro e W5 ⟨g4, rfl, hg4, hR4, hb4⟩; have HB4 := za.mk (HBT.out _ _ HB3.out hb4); have HR5 := za.mk (HPJ.out _ _ _ HB3.out hg4 hR4); have k3 := za.mk (HSK2.out W5 HB4.out); clear hR4 hb4 hg4
   refine hK.out _ _ (by first | with_reducible exact k3.out | with_reducible exact k2.out | with_reducible exact k1.out) (fun hS2 => ?_)
   clear hK K hS
   have hS := hS2
   clear hS2
   try simp only [Act.put, List.setIfInBounds_toArray, List.set_cons_zero, List.set_cons_succ]
   refine zk 19 18 hS ?_
   refine wpAnyH_done (by kernel_rfl) ?_ _
   clear hS k0 k1 k2 k3
   obtain ⟨A', c', W6, run6, hdj6, hpl6⟩ := (HDJ.out.fr (Fr.of_below HB4.out (fun _ => False))).push (some ⟨g4, 0, none⟩) nN nN (zE nN cols dj) HR5.out (Nat.le_refl _) HJ6.out
   have HDU0 : za (DJ V W6 nN g3 cg O (jn nN cols q (dE.take j) dj 0) A' (j + 1) c' ((dE.take (j + 1)).map (zE nN cols))) := ⟨by
    rw [zbI, HTK.out, List.map_append]
    exact hdj6⟩
   have HPL6 := za.mk hpl6
   clear hdj6 hpl6 HDJ HR5 HP3 HC2 HB2 HB3 HB4 HBT HBD0 HPJ p2 HFA HTI HSH hpa HPA hpm hpn HSK2 HJ6 HCT
   go_wp2_with (at_builtin; refine zm rfl _ _ _ _ rfl rfl rfl run6 ?_)
   clear run6
   go_loopw [19] (fun v19 wq => ∃ h : Nat, h ≤ nN ∧ v19 = .int .i64 h ∧ za (DJ V wq nN g3 cg O (jn nN cols q (dE.take j) dj h) A' (j + 1) c' ((dE.take (j + 1)).map (zE nN cols))) ∧ za (PLn wq (some ⟨g4, 0, none⟩) nN (zE nN cols dj) (PJ O A' g3))) (fun v19 _ => nN - (intOf v19).toNat)
   case atStart => exact ⟨0, by omega, rfl, HDU0, HPL6⟩
   clear HDU0 HPL6
   obtain ⟨h, hh, rfl, HDU, HPU⟩ := hrel
   have p0 := (HSK.out wr HDU.out.bl).1
   by_cases hhn : h < nN
   ·obtain ⟨A1, c1, hx1, hl1, hC1, hz1⟩ := zdx HDU.out.su h hhn
    rw [zeK _ _ _ _ _ _ hhn, zz] at hx1 hl1 hC1
    obtain ⟨adY, B7, c7, e7, hx2, hl2, hC2⟩ := JN HPU.out h hhn
    injection e7 with e7
    subst e7
    rw [yE _ _ _ _ hhn] at hx2 hl2 hC2
    rw [zz, zaA] at hx2
    rw [zz] at hl2 hC2
    have HXO : za (∀ W, Fr (fun _ => False) wr W → Calls Try.prog 62 #[.slice A1 cols c1, .slice B7 cols c7] W fun e w' => ∃ D cd, e = .returned (.slice D cols cd) ∧ Kd.R fk 5 w' W.heap.size (fun _ => True) (.slice D cols cd) (zah (yo cols (yg q (dE.take j)) h) (yo cols dj h)) ∧ Below W.heap.size W w') := ⟨fun W hW => zmE W A1 B7 cols cols c1 c7 _ _ (jc hC1 hW (fun _ _ _ h => h)) (jc hC2 hW (fun _ _ _ h => h)) (by omega) (by omega)⟩
    have HST : za (∀ W D cd, Fr (fun _ => False) wr W → Kd.R fk 5 W wr.heap.size (fun _ => True) (.slice D cols cd) (zah (yo cols (yg q (dE.take j)) h) (yo cols dj h)) → DJ V (W.setCell ⟨g3, h, none⟩ (.slice D cols cd)) nN g3 cg O (jn nN cols q (dE.take j) dj (h + 1)) A' (j + 1) c' ((dE.take (j + 1)).map (zE nN cols)) ∧ PLn (W.setCell ⟨g3, h, none⟩ (.slice D cols cd)) (some ⟨g4, 0, none⟩) nN (zE nN cols dj) (PJ O A' g3)) := ⟨fun W D cd hW hR => by
     have h5 := Kd.R_reads' hR
     rw [ZI, zz] at h5
     have h6 := (HDU.out.fr hW).set h hhn (n := cols) (by rw [ZI, zz]) h5.2.1 h5.2.2 (fun _ j hj => by
      have h7 := jK (Kd.Q_of_R hR) j hj
      exact ⟨h7.2.1, fun h8 => by have := HDU.out.pj HOL.out j h8; omega⟩) (yy HPU.out hW)
     rw [zdc _ _ _ _ _ _ hhn] at h6
     exact h6⟩
    have HFZ : za (∀ W, Fr (fun _ => False) wr W → W.cell? ⟨g3, h, none⟩ = some (.slice A1 cols c1) ∧ W.frozen? ⟨g3, h, none⟩ = false) := ⟨fun W hW => ⟨hW.cell hx1 (fun h => h), by
     obtain ⟨_, _, _, _, _, hz⟩ := zdx (zdy HDU.out.su hW) h hhn
     exact hz⟩⟩
    have hhI : (h : Int) < (nN : Int) := by omega
    clear hl1 hC1 hz1 hl2 hC2
    go_wp2
    go_region_with (first | (go_at_call 62; with_reducible refine (HXO.out _ ((Fr.refl _ wr).drew)).mono ?_; rintro e W2 ⟨D2, cd, rfl, hR, hb2⟩; have HF2 := za.mk ((Fr.refl (fun _ => False) wr).drew.trans' (Fr.of_below hb2 (fun _ => False))); have HR2 := za.mk (HST.out W2 D2 cd HF2.out (Kd.R_lower hR (Nat.le_refl _))); obtain ⟨hx3, hz3⟩ := HFZ.out W2 HF2.out; clear hR hb2))
    all_goals
     have HQ1 := za.mk HR2.out.1
     have HQ2 := za.mk HR2.out.2
     clear HR2 hx3 hz3 hx1 hx2 p0
     go_wp2
     go_roundw
     case rel => exact ⟨h + 1, by omega, by go_num, HQ1, HQ2⟩
     simp [intOf]; omega
   obtain rfl : h = nN := by omega
   have HQ1 : za (DJ V wr h g3 cg O (zE h cols (yg q (dE.take (j + 1)))) A' (j + 1) c' ((dE.take (j + 1)).map (zE h cols))) := ⟨by
    have h5 := HDU.out
    rw [zep, ← HTK.out] at h5
    exact h5⟩
   go_wp2
   go_roundw
   case rel => exact ⟨j + 1, c', A', by omega, by go_num, rfl, HQ1⟩
   simp [intOf]; omega
  obtain rfl : nd = j := by omega
  have p2 := (HSK.out wr HDJ.out.bl).2.2.2.2.2.2.2.1
  have hdj := HDJ.out
  rw [List.take_of_length_le (by rw [HDEL.out]; exact Nat.le_refl _)] at hdj
  have hfv : Fr (fun _ => False) V wr := Fr.of_below hdj.bl _
  obtain ⟨rc, hrc⟩ : ∃ rc : Array Value, rc = #[.int .i64 kind, .int .i64 target, .slice D nd cd, .slice S ns cs] := ⟨_, rfl⟩
  have HLS1 : za (LS2 W4 wr nN cols g2 rc Y q (some ⟨g3, 0, none⟩) (yg q dE) Aa nd c5 dE O no co out) := ⟨by
   refine ⟨jo HOV.out hfv (fun _ _ _ _ h => h), yy HSV.out hfv, hdj.sums HOL.out, zeZ (zhQ hdj.al (fun k _ hk => .inl (.inl hk))) HBV.out.size, ?_, HBV.out.trans (hdj.bl.mono HBV.out.size)⟩
   rw [hrc]
   exact hfv.blk HGV.out (fun h => h)⟩
  have HRC := za.mk hrc
  obtain ⟨sT, hsT⟩ : ∃ sT, sT = zbz cols ⟨kind, target, ds, sn⟩ q dE ((ts.drop nx).take nd) := ⟨_, rfl⟩
  have HST0 : za (sT 0 = []) := ⟨by rw [hsT]; rfl⟩
  have HOWE : za (∀ x, yI x ((ds.map Int.toNat).take nd) ((ts.drop nx).take nd) = yI x (ds.map Int.toNat) (ts.drop nx)) := ⟨fun x => by
   have h6 := zaJ x (ds.map Int.toNat) (ts.drop nx)
   rw [List.length_map, HND.out] at h6
   rw [List.take_of_length_le (by rw [List.length_map, HND.out]; exact Nat.le_refl _)]
   exact h6⟩
  have HSTS : za (∀ jj, jj < ns → sT (jj + 1) = sT jj ++ Zw cols kind (ds.map Int.toNat) q dE (ts.drop nx) (sn.getD jj 0).toNat) := ⟨fun jj hjj => by
   rw [hsT, zdb (by rw [← HNS.out] at hjj; exact hjj)]
   unfold Zw
   have h5 : ∀ x, yI x (ds.map Int.toNat) ((ts.drop nx).take nd) = yI x (ds.map Int.toNat) (ts.drop nx) := fun x => by
    have h6 := zaJ x (ds.map Int.toNat) (ts.drop nx)
    rw [List.length_map, HND.out] at h6
    exact h6
   simp only [h5]⟩
  have HSTE := za.mk hsT
  have HOWL : za (∀ x, (yI x (ds.map Int.toNat) (ts.drop nx)).length ≤ 512000) := ⟨fun x => by
   refine Nat.le_trans (zjB HRR.out.2.2.2.2.1 HL1.out HL2.out) ?_
   have h5 := jH nT nK kind (by omega) (by omega)
   exact Nat.le_trans (Nat.mul_le_mul h5 hcl) (by decide)⟩
  have HTLK : za (∀ k, k < nd → (ts.getD (nx + k) []).length ≤ 512000) := ⟨fun k hk => by
   have hkt : k < (ts.drop nx).length := by have := HL1.out; rw [HND.out] at this; omega
   have hgt : (ts.drop nx).getD k [] = ts.getD (nx + k) [] := by rw [List.getD_eq_getElem?_getD, List.getD_eq_getElem?_getD, List.getElem?_drop]
   have h5 := jH nT nK kind (by omega) (by omega)
   have h6 : (ts.getD (nx + k) []).length = zD nT nK kind * cols := by
    refine HL2.out _ ?_
    rw [← hgt, List.getD_eq_getElem?_getD, List.getElem?_eq_getElem hkt]
    exact List.mem_take_iff_getElem.2 ⟨k, by rw [HND.out]; omega, rfl⟩
   rw [h6]
   exact Nat.le_trans (Nat.mul_le_mul h5 hcl) (by decide)⟩
  have HOWS : za (∀ x k, k < nd → yI x ((ds.map Int.toNat).take (k + 1)) ((ts.drop nx).take (k + 1)) = yI x ((ds.map Int.toNat).take k) ((ts.drop nx).take k) ++ (if (ds.getD k 0).toNat = x then ts.getD (nx + k) [] else [])) := ⟨fun x k hk => by
   have hkt : k < (ts.drop nx).length := by have := HL1.out; rw [HND.out] at this; omega
   have hkd : k < ds.length := by rw [HND.out]; exact hk
   have hgt : (ts.drop nx).getD k [] = ts.getD (nx + k) [] := by rw [List.getD_eq_getElem?_getD, List.getD_eq_getElem?_getD, List.getElem?_drop]
   have hgd : (ds.map Int.toNat).getD k 0 = (ds.getD k 0).toNat := by
    rw [List.getD_eq_getElem?_getD, List.getD_eq_getElem?_getD, List.getElem?_map, List.getElem?_eq_getElem hkd]; rfl
   rw [zfv x _ _ k (by rw [List.length_map]; exact hkd) hkt, hgd, hgt]⟩
  have hno : no ≤ i * 150000000 := HBD.out.1
  have HNO := za.mk hno
  clear hdj hfv hrc hsT hno HDJ HSV HOV HGV
  go_wp2
  clear p2
  go_loopw [12, 20] (fun v12 v20 wq => ∃ (jj no2 co2 : Nat) (O2 : Option Addr) (out2 : List F), jj ≤ ns ∧ v20 = .int .i64 jj ∧ v12 = .slice O2 no2 co2 ∧ za (LS2 W4 wq nN cols g2 rc Y q (some ⟨g3, 0, none⟩) (yg q dE) Aa nd c5 dE O2 no2 co2 out2) ∧ za (out2 = out ++ sT jj) ∧ za (no2 ≤ i * 150000000 + jj * 578048)) (fun _ v20 _ => ns - (intOf v20).toNat)
  case atStart => exact ⟨0, no, co, O, out, by omega, rfl, rfl, HLS1, ⟨by rw [HST0.out, List.append_nil]⟩, ⟨Nat.le_trans HNO.out (Nat.le_add_right _ _)⟩⟩
  clear HLS1
  obtain ⟨jj, no2, co2, O2, out2, hjj, rfl, rfl, HLS, HO2, HB2⟩ := hrel
  have q3 := zh HLS.out.rb (j := 3) (v := .slice S ns cs) (by rw [HRC.out]; rfl)
  by_cases hjs : jj < ns
  ·obtain ⟨adS, rfl, hxS⟩ := zbf HSE.out (Fr.of_below HLS.out.bl (fun _ => False)) (fun _ h => h.elim) jj hjs
   have hjl : jj < sn.length := by rw [HNS.out]; exact hjs
   have hrs : 0 ≤ sn.getD jj 0 ∧ sn.getD jj 0 < (nN : Int) := yp HRR.out.2.2.2.2.2.1 (yL hjl)
   obtain ⟨h, hh⟩ : ∃ h : Nat, sn.getD jj 0 = (h : Int) := ⟨_, (Int.toNat_of_nonneg hrs.1).symm⟩
   have hhN : h < nN := by omega
   have hst := HSTS.out jj hjs
   rw [hh, Int.toNat_natCast] at hst
   rw [hh] at hxS
   have HST := za.mk hst
   obtain ⟨adY, B7, c7, rfl, hc7, hl7, hC7⟩ := JN HLS.out.sh h hhN
   rw [yE _ _ _ _ hhN] at hc7 hl7 hC7
   rw [zz] at hc7 hl7 hC7
   have hbd : no2 + 140000000 ≤ 140737488355328 := by
    have h5 := HB2.out
    have h6 : i * 150000000 ≤ 1024 * 150000000 := Nat.mul_le_mul_right _ (by omega)
    omega
   obtain ⟨O3, co3, w3, run3, S3⟩ := HLS.out.push (c := c7) hC7 (by omega)
   have hhI : (h : Int) < (nN : Int) := by omega
   clear hrs hh hjl hst hC7
   go_wp2_with (at_builtin; refine zm rfl _ _ _ _ rfl rfl rfl run3 ?_)
   clear run3 hc7 q3
   go_loopw [12, 22] (fun v12 v22 wq => ∃ (k no4 co4 : Nat) (O4 : Option Addr) (out4 : List F), k ≤ nd ∧ v22 = .int .i64 k ∧ v12 = .slice O4 no4 co4 ∧ za (LS2 W4 wq nN cols g2 rc (some adY) q (some ⟨g3, 0, none⟩) (yg q dE) Aa nd c5 dE O4 no4 co4 out4) ∧ za (out4 = out2 ++ yo cols q h ++ ((dE.take k).flatMap fun d => yo cols d h)) ∧ za (no4 ≤ no2 + cols + k * cols)) (fun _ v22 _ => nd - (intOf v22).toNat)
   case atStart => exact ⟨0, _, co3, O3, _, by omega, rfl, rfl, S3, ⟨by simp⟩, ⟨by omega⟩⟩
   obtain ⟨k, no4, co4, O4, out4, hk, rfl, rfl, HLS4, HO4, HB4⟩ := hrel
   have hb4 : no4 ≤ no2 + cols + 65536 := by
    have h5 : k * cols ≤ 256 * 256 := Nat.mul_le_mul (by omega) hcl
    have h6 := HB4.out
    omega
   by_cases hkd : k < nd
   ·obtain ⟨adA, B8, c8, rfl, hc8, hl8, hP8⟩ := zls HLS4.out.al k hkd
    have hkl : k < dE.length := by rw [HDEL.out]; exact hkd
    have hdk : (dE.map (zE nN cols)).getD k [] = zE nN cols (dE.getD k fun _ _ => 0) := by
     rw [List.getD_eq_getElem?_getD, List.getD_eq_getElem?_getD, List.getElem?_map, List.getElem?_eq_getElem hkl]; rfl
    rw [hdk] at hc8 hl8 hP8
    rw [Zf] at hc8 hl8 hP8
    obtain ⟨adR, B9, c9, rfl, hc9, hl9, hC9⟩ := JN hP8 h hhN
    rw [yE _ _ _ _ hhN] at hc9 hl9 hC9
    rw [zz] at hc9 hl9 hC9
    obtain ⟨O5, co5, w5, run5, S5⟩ := HLS4.out.push (c := c9) hC9 (by omega)
    have hts : dE.take (k + 1) = dE.take k ++ [dE.getD k fun _ _ => 0] := zK (fun _ _ => 0) dE k hkl
    have HQ5 : za (out4 ++ yo cols (dE.getD k fun _ _ => 0) h = out2 ++ yo cols q h ++ ((dE.take (k + 1)).flatMap fun d => yo cols d h)) := ⟨by
     rw [HO4.out, hts, List.flatMap_append]
     simp⟩
    have HQ6 : za (no4 + cols ≤ no2 + cols + (k + 1) * cols) := ⟨by
     have h5 := HB4.out
     rw [Nat.add_mul, Nat.one_mul]
     omega⟩
    have hkI : (k : Int) < (nd : Int) := by omega
    clear hdk hkl hts hP8 hC9
    go_wp2_with (at_builtin; refine zm rfl _ _ _ _ rfl rfl rfl run5 ?_)
    clear run5 hc8 hc9
    go_roundw
    case rel => exact ⟨k + 1, _, co5, O5, _, by omega, by go_num, rfl, S5, HQ5, HQ6⟩
    simp [intOf]; omega
   obtain rfl : nd = k := by omega
   have HO5 : za (out4 = out2 ++ yo cols q h ++ (dE.flatMap fun d => yo cols d h)) := ⟨by
    rw [HO4.out, List.take_of_length_le (by rw [HDEL.out]; exact Nat.le_refl _)]⟩
   have HN4 : za (out4.length = no4) := ⟨(Kd.Q_reads' (Kd.Q_of_R HLS4.out.row)).1.symm⟩
   clear HO4 HB4
   go_wp2
   go_loopw [12, 23] (fun v12 v23 wq => ∃ (k no5 co5 : Nat) (O5 : Option Addr) (out5 : List F), k ≤ nd ∧ v23 = .int .i64 k ∧ v12 = .slice O5 no5 co5 ∧ za (LS2 W4 wq nN cols g2 rc (some adY) q (some ⟨g3, 0, none⟩) (yg q dE) Aa nd c5 dE O5 no5 co5 out5) ∧ za (out5 = out4 ++ yI h ((ds.map Int.toNat).take k) ((ts.drop nx).take k)) ∧ za (no5 ≤ no4 + k * 512000)) (fun _ v23 _ => nd - (intOf v23).toNat)
   case atStart => exact ⟨0, _, co4, O4, _, by omega, rfl, rfl, HLS4, ⟨by simp [yI]⟩, ⟨by omega⟩⟩
   clear HLS4
   obtain ⟨k, no5, co5, O5, out5, hk5, rfl, rfl, HLS5, HO6, HB6⟩ := hrel
   have q2 := zh HLS5.out.rb (j := 2) (v := .slice D nd cd) (by rw [HRC.out]; rfl)
   by_cases hkd : k < nd
   ·obtain ⟨adD, rfl, hxD⟩ := zbf HDI.out (Fr.of_below HLS5.out.bl (fun _ => False)) (fun _ h => h.elim) k hkd
    have hkl : k < ds.length := by rw [HND.out]; exact hkd
    have hrd : 0 ≤ ds.getD k 0 ∧ ds.getD k 0 < (nN : Int) := yp HRR.out.2.2.2.2.1 (yL hkl)
    have hows := HOWS.out h k hkd
    obtain ⟨x, hx⟩ : ∃ x, x = ds.getD k 0 := ⟨_, rfl⟩
    rw [← hx] at hxD hrd hows
    have hkI : (k : Int) < (nd : Int) := by omega
    by_cases hxh : x = (h : Int)
    ·rw [if_pos (by omega)] at hows
     obtain ⟨ad2, B2, tc, e2, hxT0, hlT, hCT⟩ := jV HT4.out (nx + k) (by have := HNM.out; omega)
     injection e2 with e2
     subst e2
     have htl2 := HTLK.out k hkd
     obtain ⟨t, ht⟩ : ∃ t, t = ts.getD (nx + k) [] := ⟨_, rfl⟩
     rw [← ht] at hxT0 hlT hCT htl2 hows
     obtain ⟨tl, htl'⟩ : ∃ tl, tl = t.length := ⟨_, rfl⟩
     rw [← htl'] at hxT0 hlT hCT htl2
     obtain ⟨p, hp⟩ : ∃ p, p = nx + k := ⟨_, rfl⟩
     rw [← hp] at hxT0
     have hxT := (Fr.of_below HLS5.out.bl (fun _ => False)).cell hxT0 (fun h => h)
     have HPA : za (wrap64 ((nx : Int) + (k : Int)) = (p : Int)) := ⟨by rw [hp]; exact Jh nx k (by have := HNM.out; omega)⟩
     have hpm : (p : Int) < (m : Int) := by have := HNM.out; omega
     have hpn : (0 : Int) ≤ (p : Int) := by omega
     have hb6 : no5 + tl ≤ 140737488355328 := by
      have h6 := HB6.out
      have h7 : k * 512000 ≤ 256 * 512000 := Nat.mul_le_mul_right _ (by omega)
      omega
     obtain ⟨O7, co7, w7, run7, S7⟩ := HLS5.out.push (c := tc) (jc hCT (Fr.of_below HLS5.out.bl (fun _ => False)) (fun _ _ _ h => h)) hb6
     have HQ5 : za (out5 ++ t = out4 ++ yI h ((ds.map Int.toNat).take (k + 1)) ((ts.drop nx).take (k + 1))) := ⟨by
      rw [HO6.out, hows, List.append_assoc]⟩
     have HQ6 : za (no5 + tl ≤ no4 + (k + 1) * 512000) := ⟨Nat.le_trans (Nat.add_le_add HB6.out htl2) (by rw [Nat.add_mul, Nat.one_mul, Nat.add_assoc]; exact Nat.le_refl _)⟩
     have hxt : (x == (h : Int)) = true := by rw [hxh]; simp
     clear hkl hrd hows hx ht htl' hp hxT0 hlT hCT htl2 hb6 hxh HO6 HB6
     have hpa := HPA.out
     go_wp2_with (at_builtin; refine zm rfl _ _ _ _ rfl rfl rfl run7 ?_)
     clear run7 hxT hxD q2
     go_roundw
     case rel => exact ⟨k + 1, _, co7, O7, _, by omega, by go_num, rfl, S7, HQ5, HQ6⟩
     simp [intOf]; omega
    rw [if_neg (by omega), List.append_nil] at hows
    have HQ5 : za (out5 = out4 ++ yI h ((ds.map Int.toNat).take (k + 1)) ((ts.drop nx).take (k + 1))) := ⟨by rw [HO6.out, hows]⟩
    have HQ6 : za (no5 ≤ no4 + (k + 1) * 512000) := ⟨Nat.le_trans HB6.out (Nat.add_le_add_left (Nat.mul_le_mul_right _ (Nat.le_succ k)) _)⟩
    have hxt : (x == (h : Int)) = false := by simpa using hxh
    clear hkl hrd hows hx hxh HO6 HB6
    go_wp2
    clear hxD q2
    go_roundw
    case rel => exact ⟨k + 1, _, co5, O5, _, by omega, by go_num, rfl, HLS5, HQ5, HQ6⟩
    simp [intOf]; omega
   obtain rfl : nd = k := by omega
   have HO7 : za (out5 = out4 ++ yI h (ds.map Int.toNat) (ts.drop nx)) := ⟨by rw [HO6.out, HOWE.out]⟩
   have hb7 : no5 ≤ no4 + 512000 := by
    have h5 := (Kd.Q_reads' (Kd.Q_of_R HLS5.out.row)).1
    have h6 := HN4.out
    have h7 := HOWL.out h
    rw [HO7.out, List.length_append] at h5
    omega
   have q0 := zh HLS5.out.rb (j := 0) (v := .int .i64 kind) (by rw [HRC.out]; rfl)
   clear HO6 HB6
   by_cases hk2 : kind = 2
   ·obtain ⟨adZ, B10, c10, e10, hc10, hl10, hC10⟩ := JN HLS5.out.su h hhN
    injection e10 with e10
    subst e10
    rw [yE _ _ _ _ hhN] at hc10 hl10 hC10
    rw [zz, zaA] at hc10
    rw [zz] at hl10 hC10
    obtain ⟨O7, co7, w7, run7, S7⟩ := HLS5.out.push (c := c10) hC10 (by omega)
    have HQ7 : za (out5 ++ yo cols (yg q dE) h = out ++ sT (jj + 1)) := ⟨by
     rw [HST.out]
     unfold Zw
     rw [if_pos hk2, HO7.out, HO5.out, HO2.out]
     simp⟩
    have HQ8 : za (no5 + cols ≤ i * 150000000 + (jj + 1) * 578048) := ⟨by
     have h5 := HB2.out
     rw [Nat.add_mul jj 1, Nat.one_mul]
     omega⟩
    have hkt : (kind == (2 : Int)) = true := by rw [hk2]; rfl
    subst hk2
    clear hC10 hb4 hbd hb7
    go_wp2_with (at_builtin; refine zm rfl _ _ _ _ rfl rfl rfl run7 ?_)
    clear run7 hc10 q0 q2
    go_roundw
    case rel => exact ⟨jj + 1, _, co7, O7, _, by omega, by go_num, rfl, S7, HQ7, HQ8⟩
    simp [intOf]; omega
   have HQ7 : za (out5 = out ++ sT (jj + 1)) := ⟨by
    rw [HST.out]
    unfold Zw
    rw [if_neg hk2, HO7.out, HO5.out, HO2.out]
    simp⟩
   have HQ8 : za (no5 ≤ i * 150000000 + (jj + 1) * 578048) := ⟨by
    have h5 := HB2.out
    obtain ⟨X, hX⟩ : ∃ X, X = i * 150000000 + jj * 578048 := ⟨_, rfl⟩
    rw [← hX] at h5
    rw [Nat.add_mul jj 1, Nat.one_mul, ← Nat.add_assoc, ← hX]
    clear hX
    omega⟩
   have hkt : (kind == (2 : Int)) = false := by simpa using hk2
   clear hb4 hbd hb7
   go_wp2
   clear q0 q2
   go_roundw
   case rel => exact ⟨jj + 1, _, co5, O5, _, by omega, by go_num, rfl, HLS5, HQ7, HQ8⟩
   simp [intOf]; omega
  obtain rfl : ns = jj := by omega
  have hre := zhh (N := nN) (cols := cols) (r := ⟨kind, target, ds, sn⟩) (q := q) (ds := dE) (ts := (ts.drop nx).take nd) HRR.out.2.2.1 (fun x hx => (yp HRR.out.2.2.2.2.2.1 hx).1)
  have hrl : ∀ x, x < nN → ((zE nN cols (yg q dE)).getD x []).length ≤ cols := fun x hx => by rw [yE _ _ _ _ hx, zz]; exact Nat.le_refl _
  obtain ⟨tT, htT⟩ : ∃ tT, tT = JQ (zE nN cols (yg q dE)) ⟨kind, target, ds, sn⟩ := ⟨_, rfl⟩
  have HT0 : za (tT 0 = []) := ⟨by rw [htT]; rfl⟩
  have HTS2 : za (∀ k, k < nN → tT (k + 1) = tT k ++ (if kind = 4 ∨ (kind = 3 ∧ target ∈ sn ∧ (k : Int) ≠ target) then yo cols (yg q dE) k else [])) := ⟨fun k hk => by
   rw [htT, zaB, yE _ _ _ _ hk]⟩
  have hre2 : out ++ sT ns ++ tT nN ++ Zl nN cols (Jm nN nK) (yO nT nK) ptF ((rs.drop (i + 1)).map zM) (if kind = 2 then yg q dE else q) (ts.drop (nx + nd)) = res := by
   have h5 := HRES.out
   rw [HDR.out] at h5
   have e1 : (zM ⟨kind, target, ds, sn⟩).dealers.length = nd := by
    show (ds.map Int.toNat).length = nd
    rw [List.length_map]
    exact HND.out
   rw [List.map_cons] at h5
   unfold Zl at h5
   rw [e1] at h5
   have e2 : ((ts.drop nx).take nd).map (Jb (Jm nN nK (zM ⟨kind, target, ds, sn⟩)) (yO nT nK (zM ⟨kind, target, ds, sn⟩)) ptF) = dE := HDEE.out.symm
   rw [e2, hre, List.drop_drop] at h5
   rw [HSTE.out, htT]
   rw [HNS.out] at h5
   rw [← h5]
   simp only [List.append_assoc]
   rfl
  have HRE2 := za.mk hre2
  have HL4 : za (Ji nT nK cols (rs.drop (i + 1)) (ts.drop (nx + nd))) := ⟨by rw [← HND.out]; exact HL3.out⟩
  have HIN := za.mk (fun W (hC : Kd.C kz W S ns sn) => zjq W S ns cs sn target hC HLC.out.2 (by omega))
  have HSW : za (∀ W, Below W4.heap.size W4 W → Kd.C kz W S ns sn) := ⟨fun W hW => Kd.C_below HSE.out hW⟩
  have HX0 : za (out2 = out ++ sT ns ++ tT 0) := ⟨by rw [HT0.out, List.append_nil]; exact HO2.out⟩
  have HSB : za (∀ W, Below W4.heap.size W4 W → W.cell? ⟨s, 0, none⟩ = some (.int .i64 nN)) := ⟨fun W hW => by
   have hs := HPB.out
   unfold zF at hs
   exact zh (zl hs hW) rfl⟩
  have HB0' : za (no2 ≤ i * 150000000 + 147402240) := ⟨by
   have h5 := HB2.out
   have h7 : ns * 578048 ≤ 255 * 578048 := Nat.mul_le_mul_right _ (by omega)
   omega⟩
  clear hre hrl htT hre2 HSTS HST0 HRES HB2 HO2 HOWS HOWE HOWL HTLK
  go_wp2
  clear q3
  go_loopw [12, 24] (fun v12 v24 wq => ∃ (k no3 co3 : Nat) (O3 : Option Addr) (out3 : List F), k ≤ nN ∧ v24 = .int .i64 k ∧ v12 = .slice O3 no3 co3 ∧ za (LS2 W4 wq nN cols g2 rc Y q (some ⟨g3, 0, none⟩) (yg q dE) Aa nd c5 dE O3 no3 co3 out3) ∧ za (out3 = out ++ sT ns ++ tT k) ∧ za (no3 ≤ i * 150000000 + 147402240 + k * 256)) (fun _ v24 _ => nN - (intOf v24).toNat)
  case atStart => exact ⟨0, no2, co2, O2, out2, by omega, rfl, rfl, HLS, HX0, ⟨by have := HB0'.out; omega⟩⟩
  clear HLS HX0 HB0'
  obtain ⟨k, no3, co3, O3, out3, hk, rfl, rfl, HLS3, HO3, HB3⟩ := hrel
  have p0 := HSB.out wr HLS3.out.bl
  have q0 := zh HLS3.out.rb (j := 0) (v := .int .i64 kind) (by rw [HRC.out]; rfl)
  have q1 := zh HLS3.out.rb (j := 1) (v := .int .i64 target) (by rw [HRC.out]; rfl)
  have q2 := zh HLS3.out.rb (j := 2) (v := .slice D nd cd) (by rw [HRC.out]; rfl)
  have q3 := zh HLS3.out.rb (j := 3) (v := .slice S ns cs) (by rw [HRC.out]; rfl)
  by_cases hkn : k < nN
  ·have htk := HTS2.out k hkn
   have HSI := za.mk (HIN.out wr (HSW.out wr HLS3.out.bl))
   have hkI : (k : Int) < (nN : Int) := by omega
   have hb8 : no3 + 256 ≤ 140737488355328 := by
    have h5 := HB3.out
    have h6 : i * 150000000 ≤ 1024 * 150000000 := Nat.mul_le_mul_right _ (by omega)
    omega
   by_cases hk4 : kind = 4
   ·rw [if_pos (.inl hk4)] at htk
    obtain ⟨adZ, B10, c10, e10, hc10, hl10, hC10⟩ := JN HLS3.out.su k hkn
    injection e10 with e10
    subst e10
    rw [yE _ _ _ _ hkn] at hc10 hl10 hC10
    rw [zz, zaA] at hc10
    rw [zz] at hl10 hC10
    obtain ⟨O7, co7, w7, run7, S7⟩ := HLS3.out.push (c := c10) hC10 (by omega)
    have HQ7 : za (out3 ++ yo cols (yg q dE) k = out ++ sT ns ++ tT (k + 1)) := ⟨by rw [htk, HO3.out, List.append_assoc, List.append_assoc]⟩
    have HQ8 : za (no3 + cols ≤ i * 150000000 + 147402240 + (k + 1) * 256) := ⟨by
     have h5 := HB3.out
     rw [Nat.add_mul k 1, Nat.one_mul]
     omega⟩
    have hkt : (kind == (4 : Int)) = true := by rw [hk4]; rfl
    subst hk4
    clear hC10 hb8 htk
    go_wp2_with (at_builtin; refine zm rfl _ _ _ _ rfl rfl rfl run7 ?_)
    clear run7 hc10 p0 q0 q1 q2 q3
    go_roundw
    case rel => exact ⟨k + 1, _, co7, O7, _, by omega, by go_num, rfl, S7, HQ7, HQ8⟩
    simp [intOf]; omega
   have hkt : (kind == (4 : Int)) = false := by simpa using hk4
   by_cases hk3 : kind = 3
   ·have hkt3 : (kind == (3 : Int)) = true := by rw [hk3]; rfl
    by_cases hts : target ∈ sn
    ·rw [decide_eq_true hts] at HSI
     by_cases hkg : (k : Int) = target
     ·rw [if_neg (by rintro (h | ⟨_, _, h⟩); exact hk4 h; exact h hkg), List.append_nil] at htk
      have HQ7 : za (out3 = out ++ sT ns ++ tT (k + 1)) := ⟨by rw [htk]; exact HO3.out⟩
      have HQ8 : za (no3 ≤ i * 150000000 + 147402240 + (k + 1) * 256) := ⟨by
       have h5 := HB3.out
       rw [Nat.add_mul k 1, Nat.one_mul]
       omega⟩
      have hkn2 : ((k : Int) != target) = false := by simpa using hkg
      subst hk3
      clear hb8 htk hkg
      go_wp2_with (go_at_call 103; with_reducible refine HSI.out.mono ?_; rintro e w6 ⟨rfl, hd6⟩; obtain ⟨d6, rfl⟩ := hd6)
      have HLSX : za (LS2 W4 _ nN cols g2 rc Y q (some ⟨g3, 0, none⟩) (yg q dE) Aa nd c5 dE O3 no3 co3 out3) := ⟨HLS3.out.below (zb (Below.refl _ _) d6)⟩
      clear p0 q0 q1 q2 q3
      go_roundw
      case rel => exact ⟨k + 1, no3, co3, O3, out3, by omega, by go_num, rfl, HLSX, HQ7, HQ8⟩
      simp [intOf]; omega
     rw [if_pos (.inr ⟨hk3, hts, hkg⟩)] at htk
     obtain ⟨adZ, B10, c10, e10, hc10, hl10, hC10⟩ := JN HLS3.out.su k hkn
     injection e10 with e10
     subst e10
     rw [yE _ _ _ _ hkn] at hc10 hl10 hC10
     rw [zz, zaA] at hc10
     rw [zz] at hl10 hC10
     have HPU : za (∀ d, ∃ O7 co7 w7, (Builtin.append_ #[36, 36] 36 #[.slice O3 no3 co3, .slice B10 cols c10]).run Try.prog (wr.drewN d) = .ok (.slice O7 (no3 + cols) co7) w7 ∧ za (LS2 W4 w7 nN cols g2 rc Y q (some ⟨g3, 0, none⟩) (yg q dE) Aa nd c5 dE O7 (no3 + cols) co7 (out3 ++ yo cols (yg q dE) k))) := ⟨fun d => (HLS3.out.below (zb (Below.refl _ _) d)).push (c := c10) (Kd.C_below hC10 (zb (Below.refl _ _) d)) (by omega)⟩
     have HQ7 : za (out3 ++ yo cols (yg q dE) k = out ++ sT ns ++ tT (k + 1)) := ⟨by rw [htk, HO3.out, List.append_assoc, List.append_assoc]⟩
     have HQ8 : za (no3 + cols ≤ i * 150000000 + 147402240 + (k + 1) * 256) := ⟨by
      have h5 := HB3.out
      rw [Nat.add_mul k 1, Nat.one_mul]
      omega⟩
     have hkn2 : ((k : Int) != target) = true := by simpa using hkg
     subst hk3
     clear hC10 hb8 htk hkg
     go_wp2_with (first | (go_at_call 103; with_reducible refine HSI.out.mono ?_; rintro e w6 ⟨rfl, hd6⟩; obtain ⟨d6, rfl⟩ := hd6; obtain ⟨O7, co7, w7, run7, S7⟩ := HPU.out d6) | (at_builtin; refine zm rfl _ _ _ _ rfl rfl rfl run7 ?_))
     clear run7 hc10 p0 q0 q1 q2 q3
     go_roundw
     case rel => exact ⟨k + 1, _, co7, O7, _, by omega, by go_num, rfl, S7, HQ7, HQ8⟩
     simp [intOf]; omega
    rw [if_neg (by rintro (h | ⟨_, h, _⟩); exact hk4 h; exact hts h), List.append_nil] at htk
    have HQ7 : za (out3 = out ++ sT ns ++ tT (k + 1)) := ⟨by rw [htk]; exact HO3.out⟩
    have HQ8 : za (no3 ≤ i * 150000000 + 147402240 + (k + 1) * 256) := ⟨by
     have h5 := HB3.out
     rw [Nat.add_mul k 1, Nat.one_mul]
     omega⟩
    rw [decide_eq_false hts] at HSI
    subst hk3
    clear hb8 htk
    go_wp2_with (go_at_call 103; with_reducible refine HSI.out.mono ?_; rintro e w6 ⟨rfl, hd6⟩; obtain ⟨d6, rfl⟩ := hd6)
    have HLSX : za (LS2 W4 _ nN cols g2 rc Y q (some ⟨g3, 0, none⟩) (yg q dE) Aa nd c5 dE O3 no3 co3 out3) := ⟨HLS3.out.below (zb (Below.refl _ _) d6)⟩
    clear p0 q0 q1 q2 q3
    go_roundw
    case rel => exact ⟨k + 1, no3, co3, O3, out3, by omega, by go_num, rfl, HLSX, HQ7, HQ8⟩
    simp [intOf]; omega
   have hkt3 : (kind == (3 : Int)) = false := by simpa using hk3
   rw [if_neg (by rintro (h | ⟨h, _, _⟩); exact hk4 h; exact hk3 h), List.append_nil] at htk
   have HQ7 : za (out3 = out ++ sT ns ++ tT (k + 1)) := ⟨by rw [htk]; exact HO3.out⟩
   have HQ8 : za (no3 ≤ i * 150000000 + 147402240 + (k + 1) * 256) := ⟨by
    have h5 := HB3.out
    rw [Nat.add_mul k 1, Nat.one_mul]
    omega⟩
   have HLSX := HLS3
   clear hb8 htk
   go_wp2
   clear p0 q0 q1 q2 q3
   go_roundw
   case rel => exact ⟨k + 1, no3, co3, O3, out3, by omega, by go_num, rfl, HLSX, HQ7, HQ8⟩
   simp [intOf]; omega
  obtain rfl : nN = k := by omega
  have HBD2 : za (no3 ≤ (i + 1) * 150000000 ∧ nx + nd ≤ m) := ⟨by
   have h5 := HB3.out
   obtain ⟨X, hX⟩ : ∃ X, X = i * 150000000 := ⟨_, rfl⟩
   rw [← hX] at h5
   rw [Nat.add_mul i 1, Nat.one_mul, ← hX]
   clear hX
   omega, HNM.out⟩
  have hpa : wrap64 ((nx : Int) + (nd : Int)) = ((nx + nd : Nat) : Int) := Jh nx nd (by have := HNM.out; omega)
  have hadd := hpa
  by_cases hk2 : kind = 2
  ·have hkt : (kind == (2 : Int)) = true := by rw [hk2]; rfl
   subst hk2
   go_wp2
   clear p0 q0 q1 q2 q3
   go_roundw
   case rel => exact ⟨i + 1, nx + nd, no3, co3, cg, some ⟨g3, 0, none⟩, O3, yg q dE, out3, by omega, by go_num, rfl, by go_num, rfl, ⟨HLS3.out.row⟩, ⟨HLS3.out.su⟩, HCG, ⟨HLS3.out.bl⟩, ⟨by rw [HO3.out]; exact HRE2.out⟩, HL4, HBD2⟩
   simp [intOf]; omega
  have hkt : (kind == (2 : Int)) = false := by simpa using hk2
  have HRE3 := HRE2.out
  rw [if_neg hk2] at HRE3
  have HRE4 := za.mk HRE3
  clear HRE3
  go_wp2
  clear p0 q0 q1 q2 q3
  go_roundw
  case rel => exact ⟨i + 1, nx + nd, no3, co3, cy, Y, O3, q, out3, by omega, by go_num, rfl, by go_num, rfl, ⟨HLS3.out.row⟩, ⟨HLS3.out.sh⟩, HCY, ⟨HLS3.out.bl⟩, ⟨by rw [HO3.out]; exact HRE4.out⟩, HL4, HBD2⟩
  simp [intOf]; omega
 obtain rfl : i = nr := by omega
 have hres : out = res := by
  have h5 := HRES.out
  rw [List.drop_eq_nil_of_le (by rw [HNL.out]; exact Nat.le_refl _)] at h5
  rw [← h5]
  unfold Zl
  simp
 have hrd := Kd.R_reads' HOUT.out
 have hC := R_C HOUT.out
 have hol := Kd.C_len hC
 rw [hres] at hC hol
 have HCC := za.mk hC
 have HOL := za.mk hol
 have hnc : no ≤ co := hrd.2.1
 have HBB : za (Below w.heap.size w wr) := ⟨HBW.out.trans (HBL.out.mono HBW.out.size)⟩
 clear hres hrd hC hol HRES HOUT HBL
 go_wp2
 go_ret
 have h5 := HOL.out
 exact ⟨O, co, by rw [h5]; rfl, by rw [h5]; exact HCC.out, by rw [h5]; exact hnc, HBB.out⟩
end Go.Proofs.Ytpeiejkcoadhfaa
