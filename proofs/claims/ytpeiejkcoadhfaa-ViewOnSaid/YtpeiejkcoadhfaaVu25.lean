/- What the view's laws take, Vu25: VwZ, VwAA, VwAB. -/
import Derived.Test.YtpeiejkcoadhfaaVu24
set_option linter.all false
namespace Go.Proofs.Ytpeiejkcoadhfaa
open Go.RowKit Go.Shelf Go.Proofs.YtpeiejkcoadhfaaW.PrintWords Go.Proofs.YtpeiejkcoadhfaaW.PrintMore
open Go.BigFrame
def EpL (rs : List Ri) (i : Nat) : List (List Int) × List Int := (rs.take i).foldl jP ([], [])
theorem zef (rs : List Ri) : EpL rs 0 = ([], []) := rfl
theorem zdP (rs : List Ri) (i : Nat) (h : i < rs.length) : EpL rs (i + 1) = jP (EpL rs i) (rs.getD i ri0) := znJ rs i h _
theorem zjh (rs : List Ri) : zaD (EpL rs rs.length) = ym rs := by unfold EpL ym; rw [List.take_length]
theorem zgc (rs : List Ri) : ∀ i, i ≤ rs.length → (EpL rs i).1.length ≤ i
 | 0, _ => by simp [zef]
 | i + 1, h => by
   rw [zdP rs i h]
   have := zgc rs i (by omega)
   unfold jP
   split
   ·simp; omega
   simp; omega
theorem zjd (rs : List Ri) (m : Nat) (hm : ∀ r ∈ rs, r.sn.length ≤ m) : ∀ i, i ≤ rs.length → (EpL rs i).2.length ≤ i * m
 | 0, _ => by simp [zef]
 | i + 1, h => by
   rw [zdP rs i h]
   have h1 := zjd rs m hm i (by omega)
   have h2 : (rs.getD i ri0).sn.length ≤ m := hm _ (by rw [List.getD_eq_getElem?_getD, List.getElem?_eq_getElem h]; exact List.getElem_mem h)
   have h3 : (i + 1) * m = i * m + m := by rw [Nat.add_mul, Nat.one_mul]
   unfold jP
   split
   ·show (rs.getD i ri0).sn.length ≤ _; omega
   show ((EpL rs i).2 ++ _).length ≤ _; rw [List.length_append]; omega
set_option maxRecDepth 100000 in
set_option maxHeartbeats 3200000 in
theorem zhP (w : World) (A : Option Addr) (n c : Nat) (rs : List Ri) (hR : RL w A n rs) (hn : n ≤ 1024) (hsn : ∀ r ∈ rs, r.sn.length ≤ 1000 ∧ ∀ x ∈ r.sn, 0 ≤ x ∧ x ≤ 255) :
 Calls Try.prog 100 #[.slice A n c] w fun e w' => ∃ v bl, e = .returned v ∧ yX w' w.heap.size v bl (ym rs) ∧ Below w.heap.size w w' := by
 have HR := za.mk hR
 have HL := za.mk (Zi hR)
 have HM := za.mk hsn
 clear hR hsn
 have hmm := @run_makeMap Try.prog
 have hu90 := Try.underlying90
 obtain ⟨w1, hw1, hz1, a0, a1, hb1⟩ := zey w (Obj.map #[] 0) (Obj.cells #[.map (some w.heap.size)] 122)
 have HS0 : za (yX w1 w.heap.size (.slice (some ⟨w.heap.size + 1, 0, none⟩) 1 1) [w.heap.size] (zaD (EpL rs 0))) := ⟨by
  rw [zef]
  refine ⟨?_, rfl, fun j hj => ?_, fun i j hij hj => ?_⟩
  ·rw [hw1]
   have := yA (enc := zpp) (w.alloc (.map #[] 0)) w.heap.size 122 [w.heap.size] (by simp) (by simp)
   rw [World.size_alloc] at this
   exact Kd.R_of_own this (fun _ _ => trivial)
  ·obtain rfl : j = 0 := by simp [zaD] at hj; omega
   refine ⟨Nat.le_refl _, ?_⟩
   rw [hw1]
   exact Jx (S := fun _ => False) (zjG w) (Fr.of_below (zc (Below.refl _ _) _) _) (fun h => h)
  simp [zaD] at hj; omega⟩
 have HB0 := za.mk hb1
 have HW := za.mk hw1
 clear hw1 hz1 a0 a1 hb1
 go_enter Try.func100, Try.ntmps100
 go_wp2
 rw [← HW.out]
 go_loopw [3, 15] (fun v3 v15 wr => ∃ (i m o cap : Nat) (B : Option Addr) (bl : List Nat), i ≤ n ∧ v15 = .int .i64 i ∧ v3 = .slice B m cap ∧ za (o = (EpL rs i).1.length) ∧ za (m = o + 1) ∧ za (yX wr w.heap.size (.slice B m cap) bl (zaD (EpL rs i))) ∧ za (Below w.heap.size w wr)) (fun _ v15 _ => n - (intOf v15).toNat)
 case atStart => exact ⟨0, 1, 0, 1, _, _, by omega, rfl, rfl, ⟨rfl⟩, ⟨rfl⟩, HS0, HB0⟩
 clear HS0 HB0 HW
 obtain ⟨i, m, o, cap, B, bl, hi, rfl, rfl, HO, HMM, HSI, HB⟩ := hrel
 by_cases hlt : i < n
 ·obtain ⟨r, ad, D, S, ndd, cd, ns, cs, hr, rfl, h0, h1, h2, h3, l1, _, hD, l2, _, hS⟩ := zdh HR.out i hlt
  have hlen : i < rs.length := by rw [HL.out]; exact hlt
  have hmem : r ∈ rs := by rw [hr, List.getD_eq_getElem?_getD, List.getElem?_eq_getElem hlen]; exact List.getElem_mem hlen
  have HRS := za.mk (HM.out r hmem)
  have HNX := za.mk (zdP rs i hlen)
  rw [← hr] at HNX
  have hol := zgc rs i (by omega)
  have hcl := zjd rs 1000 (fun x hx => (HM.out x hx).1) i (by omega)
  obtain ⟨⟨old, cur⟩, hst⟩ : ∃ st, st = EpL rs i := ⟨_, rfl⟩
  rw [← hst] at HO HSI HNX hol hcl
  have hjI : (i : Int) < (n : Int) := by omega
  have hc0 := (Fr.of_below HB.out (fun _ => False)).cell h0 (fun h => h)
  have hc1 := (Fr.of_below HB.out (fun _ => False)).cell h1 (fun h => h)
  have hc2 := (Fr.of_below HB.out (fun _ => False)).cell h2 (fun h => h)
  have hc3 := (Fr.of_below HB.out (fun _ => False)).cell h3 (fun h => h)
  obtain ⟨kind, target, ds, sn⟩ := r
  simp only at hc0 hc1 HRS HNX l2 hS hcl hol
  obtain ⟨W2, hW2, hz2, hg2, hb2⟩ := zU wr (.cells #[.int .i64 kind, .int .i64 target, .slice D ndd cd, .slice S ns cs] 90)
  have HW2 := za.mk hW2
  have HZ2 := za.mk hz2
  have HG2 := za.mk hg2
  have HB2 := za.mk hb2
  have HSC := za.mk hS
  have HSN := za.mk l2
  have hnsz : ns ≤ 1000 := by rw [← l2]; exact HRS.out.1
  have HCL := za.mk hcl
  have HOL := za.mk hol
  clear h0 h1 h2 h3 l1 hD hS l2 hr hmem hst hW2 hz2 hg2 hb2 hcl hol
  go_wp2
  rw [← HW2.out]
  obtain ⟨g, hg⟩ : ∃ g, g = wr.heap.size := ⟨_, rfl⟩
  rw [← hg] at HG2 ⊢
  have HGB := za.mk hg
  have HSI2 : za (yX W2 w.heap.size (.slice B m cap) bl (old ++ [cur ++ sn.take 0])) := ⟨by
   have h := zjA HSI.out (Fr.of_below HB2.out (fun _ => False))
   rw [List.take_zero, List.append_nil]
   exact h⟩
  have HBW : za (Below w.heap.size w W2) := ⟨HB.out.trans (HB2.out.mono HB.out.size)⟩
  obtain ⟨bm, hbm⟩ : ∃ bm, bm = bl.getD old.length 0 := ⟨_, rfl⟩
  have HBM := za.mk hbm
  have HBG : za (w.heap.size ≤ bm ∧ bm < g) := ⟨by
   have h := HSI.out.2.2.1 old.length (by simp [zaD])
   rw [← hbm] at h
   exact ⟨h.1, by rw [hg]; exact zlt h.2⟩⟩
  clear hbm hg HSI HB2 HW2
  go_loopw [22] (fun v22 wq => ∃ (j : Nat), j ≤ ns ∧ v22 = .int .i64 j ∧ za (yX wq w.heap.size (.slice B m cap) bl (old ++ [cur ++ sn.take j])) ∧ za (Fr (fun k => k = bm) W2 wq)) (fun v22 _ => ns - (intOf v22).toNat)
  case atStart => exact ⟨0, by omega, rfl, HSI2, ⟨Fr.refl _ _⟩⟩
  clear HSI2
  obtain ⟨j, hj, rfl, HSJ, HFJ⟩ := hrel
  by_cases hjn : j < ns
  ·obtain ⟨adS, rfl, hx⟩ := zbf HSC.out ((Fr.of_below HBW.out (fun k => w.heap.size ≤ k)).trans' (HFJ.out.mono (fun k hk => by have := HBG.out; omega))) (fun _ h => h) j hjn
   have hjl : j < sn.length := by rw [HSN.out]; exact hjn
   have hxr := HRS.out.2 _ (yL hjl)
   obtain ⟨x, hxe⟩ : ∃ x, x = sn.getD j 0 := ⟨_, rfl⟩
   rw [← hxe] at hx hxr
   obtain ⟨ad2, c2, m2, hm2, hv2, hcell, hlook, wu, hupd, hSU, hFU⟩ := zly HSJ.out x hxr (by rw [List.length_append, List.length_take]; have := HCL.out; omega)
   rw [← HBM.out] at hm2
   subst hm2
   injection hv2 with hv1 hv3 hv4
   subst hv1
   obtain ⟨cnt, hcnt⟩ : ∃ cnt, cnt = (cur ++ sn.take j).count x := ⟨_, rfl⟩
   have hcl2 : cnt ≤ 2000000 := by
    have h1 : (cur ++ sn.take j).count x ≤ (cur ++ sn.take j).length := List.count_le_length
    rw [List.length_append, List.length_take] at h1
    have := HCL.out
    omega
   rw [← hcnt] at hlook hupd
   push_cast at hupd
   have hw1 : wrap64 ((cnt : Int) + 1) = ((cnt + 1 : Nat) : Int) := yU cnt (by omega)
   have hol : old.length = o := HO.out.symm
   rw [hol] at hcell
   have hm1 : wrap64 ((m : Int) - 1) = (o : Int) := by
    have h1 := HMM.out
    have h2 := HOL.out
    rw [ZQ m (by omega)]; omega
   have hmI : (o : Int) < (m : Int) := by have := HMM.out; omega
   have HSU : za (yX wu w.heap.size (.slice (some ad2) m cap) bl (old ++ [cur ++ sn.take (j + 1)])) := ⟨by
    rw [zK 0 sn j hjl, ← List.append_assoc, ← hxe]
    exact hSU⟩
   have HFU := za.mk (HFJ.out.trans' hFU)
   have hjJ : (j : Int) < (ns : Int) := by omega
   clear hSU hFU hcnt hxe hxr hjl hol hv3 hv4
   go_wp2
   go_roundw
   case rel => exact ⟨j + 1, by omega, by go_num, HSU, HFU⟩
   simp [intOf]; omega
  obtain rfl : j = ns := by omega
  have HSE : za (yX wr w.heap.size (.slice B m cap) bl (old ++ [cur ++ sn])) := ⟨by
   have h := HSJ.out
   rwa [List.take_of_length_le (by rw [HSN.out]; exact Nat.le_refl _)] at h⟩
  have hgq := HFJ.out.blk HG2.out (fun e => by have := HBG.out; omega)
  have HGQ := za.mk hgq
  have HBQ : za (Below w.heap.size w wr) := ⟨HBW.out.trans (HFJ.out.below HBW.out.size (fun k hk => by have := HBG.out; omega))⟩
  have p0 := zh hgq (j := 0) (v := .int .i64 kind) rfl
  clear hgq HSJ HFJ
  by_cases hk2 : kind = 2
  ·have e2 : (kind != 2) = false := by simp; exact hk2
   have p3 := zh (zt HGQ.out (.map #[] 0)) (j := 3) (v := .slice S j cs) rfl
   have HN : EpL rs (i + 1) = (old ++ [cur ++ sn], sn) := by rw [HNX.out]; unfold jP; rw [if_pos hk2]
   have HNN := za.mk HN
   obtain ⟨W3, hW3, hz3, _, hb3⟩ := zU wr (.map #[] 0)
   have HM3 : za (jp W3 wr.heap.size []) := ⟨by rw [hW3]; exact zjG wr⟩
   have HSE3 : za (yX W3 w.heap.size (.slice B m cap) bl (old ++ [cur ++ sn])) := ⟨zjA HSE.out (Fr.of_below hb3 (fun _ => False))⟩
   have HBL : za (w.heap.size ≤ wr.heap.size ∧ ∀ k, k < (old ++ [cur ++ sn]).length → bl.getD k 0 < wr.heap.size) := ⟨HBQ.out.size, fun k hk => zlt (HSE.out.2.2.1 k hk).2⟩
   have HB3 : za (Below w.heap.size w W3) := ⟨HBQ.out.trans (hb3.mono HBQ.out.size)⟩
   have HW3 := za.mk hW3
   clear HN HSE HGQ hk2 hW3 hz3 hb3 HBQ
   go_wp2
   rw [← HW3.out]
   obtain ⟨bn, hbn⟩ : ∃ bn, bn = wr.heap.size := ⟨_, rfl⟩
   rw [← hbn] at HM3 HBL ⊢
   clear hbn HW3
   have HM30 : za (jp W3 bn (sn.take 0)) := ⟨HM3.out⟩
   go_loopw [43] (fun v43 wq => ∃ (k : Nat), k ≤ j ∧ v43 = .int .i64 k ∧ za (jp wq bn (sn.take k)) ∧ za (Fr (fun q => q = bn) W3 wq)) (fun v43 _ => j - (intOf v43).toNat)
   case atStart => exact ⟨0, by omega, rfl, HM30, ⟨Fr.refl _ _⟩⟩
   clear HM30
   obtain ⟨k, hk, rfl, HMK, HFK⟩ := hrel
   by_cases hkn : k < j
   ·obtain ⟨adS, rfl, hx⟩ := zbf HSC.out ((Fr.of_below HB3.out (fun k => w.heap.size ≤ k)).trans' (HFK.out.mono (fun k hk => by have := HBL.out.1; omega))) (fun _ h => h) k hkn
    have hjl : k < sn.length := by rw [HSN.out]; exact hkn
    have hxr := HRS.out.2 _ (yL hjl)
    obtain ⟨x, hxe⟩ : ∃ x, x = sn.getD k 0 := ⟨_, rfl⟩
    rw [← hxe] at hx hxr
    obtain ⟨hlook, wu, hupd, hMU, hFU⟩ := zjr HMK.out x hxr (by rw [List.length_take]; omega)
    obtain ⟨cnt, hcnt⟩ : ∃ cnt, cnt = (sn.take k).count x := ⟨_, rfl⟩
    have hcl2 : cnt ≤ 2000000 := by
     have h1 : (sn.take k).count x ≤ (sn.take k).length := List.count_le_length
     rw [List.length_take] at h1
     omega
    rw [← hcnt] at hlook hupd
    push_cast at hupd
    have hw1 : wrap64 ((cnt : Int) + 1) = ((cnt + 1 : Nat) : Int) := yU cnt (by omega)
    have HMU : za (jp wu bn (sn.take (k + 1))) := ⟨by
     rw [zK 0 sn k hjl, ← hxe]
     exact hMU⟩
    have HFU := za.mk (HFK.out.trans' hFU)
    have hkJ : (k : Int) < (j : Int) := by omega
    clear hMU hFU hcnt hxe hxr hjl
    go_wp2
    go_roundw
    case rel => exact ⟨k + 1, by omega, by go_num, HMU, HFU⟩
    simp [intOf]; omega
   obtain rfl : k = j := by omega
   have hMM : jp wr bn sn := by
    have h := HMK.out
    rwa [List.take_of_length_le (by rw [HSN.out]; exact Nat.le_refl _)] at h
   have hBB : Below w.heap.size w wr := HB3.out.trans (HFK.out.below HB3.out.size (fun q hq => by have := HBL.out.1; omega))
   have hSS : yX wr w.heap.size (.slice B m cap) bl (old ++ [cur ++ sn]) := ziL HSE3.out HM3.out HBL.out.2 HFK.out
   obtain ⟨B', d', W', hrun, hS', hB'⟩ := zkV hSS hBB hMM HBL.out.1 HBL.out.2 (by rw [List.length_append]; have := HOL.out; simp only [List.length_singleton]; omega)
   have hEl : (old ++ [cur ++ sn]).length = m := by rw [List.length_append, HMM.out, HO.out]; rfl
   rw [hEl] at hrun hS'
   have HR1 : za (m = (EpL rs (i + 1)).1.length) := ⟨by rw [HNN.out]; exact hEl.symm⟩
   have HR2 : za (yX W' w.heap.size (.slice B' (m + 1) d') (bl ++ [bn]) (zaD (EpL rs (i + 1)))) := ⟨by rw [HNN.out]; exact hS'⟩
   have HB' := za.mk hB'
   have HRUN := za.mk hrun
   clear hMM hBB hSS hS' hEl hB' hrun
   go_wp2_with (at_builtin; refine zm rfl _ _ _ _ rfl rfl rfl HRUN.out ?_)
   go_roundw
   case rel => exact ⟨i + 1, m + 1, m, d', B', bl ++ [bn], by omega, by go_num, rfl, HR1, ⟨rfl⟩, HR2, HB'⟩
   simp [intOf]; omega
  have e2 : (kind != 2) = true := by simp; exact hk2
  have HN : EpL rs (i + 1) = (old, cur ++ sn) := by rw [HNX.out]; unfold jP; rw [if_neg hk2]
  have HR1 : za (o = (EpL rs (i + 1)).1.length) := ⟨by rw [HN]; exact HO.out⟩
  have HR2 : za (yX wr w.heap.size (.slice B m cap) bl (zaD (EpL rs (i + 1)))) := ⟨by rw [HN]; exact HSE.out⟩
  clear HN
  go_wp2
  go_roundw
  case rel => exact ⟨i + 1, m, o, cap, B, bl, by omega, by go_num, rfl, HR1, HMM, HR2, HBQ⟩
  simp [intOf]; omega
 obtain rfl : i = n := by omega
 go_wp2
 go_ret
 have h := HSI.out
 rw [show i = rs.length from HL.out.symm, zjh] at h
 exact ⟨_, bl, rfl, h, HB.out⟩
set_option maxRecDepth 100000 in
set_option maxHeartbeats 1600000 in
theorem zlJ (w : World) (s b : Nat) (N T K E Rm : Int) (cur : List Int) (hP : w.heap[s]? = some (zF N T K E Rm)) (hM : jp w b cur) :
 Calls Try.prog 101 #[.map (some b), .pointer (some ⟨s, 0, none⟩)] w fun e w' => e = .returned (.bool (!decide (((nd cur).length : Int) ≤ T))) ∧ zq w w' := by
 have hlen := fun ty => znL hM ty
 unfold zF at hP
 have p1 := zh hP (j := 1) (v := .int .i64 T) rfl
 have hu48 := Try.underlying48
 obtain ⟨m, hm⟩ : ∃ m, m = (nd cur).length := ⟨_, rfl⟩
 rw [← hm] at hlen ⊢
 clear hP hM hm
 have hl0 := hlen 3
 by_cases hc : (m : Int) ≤ T
 ·rw [decide_eq_true hc]
  have hc' : ¬ T < (m : Int) := by omega
  go_enter Try.func101, Try.ntmps101
  go_wp2_with (at_builtin; refine wpList_len_run rfl _ _ rfl rfl hl0 ?_)
  go_ret
  exact ⟨rfl, ⟨0, rfl⟩⟩
 rw [decide_eq_false hc]
 have hc' : T < (m : Int) := by omega
 go_enter Try.func101, Try.ntmps101
 go_wp2_with (at_builtin; refine wpList_len_run rfl _ _ rfl rfl hl0 ?_)
 go_ret
 exact ⟨rfl, ⟨0, rfl⟩⟩
theorem zgl {w : World} {b : Nat} {v : Value} {bl : List Nat} {E : List (List Int)} (h : yX w b v bl E) : ∃ A c, v = .slice A E.length c ∧ E.length ≤ c ∧ ∀ j, j < E.length → ∃ ad m, A = some ad ∧ w.cell? (ad.add j) = some (.map (some m)) ∧ jp w m (E.getD j []) := by
 obtain ⟨h1, h2, h3, h4⟩ := h
 obtain ⟨A, c, rfl⟩ := Kd.R_slice h1
 rw [h2] at h1 ⊢
 have h5 := Kd.R_reads' h1
 refine ⟨A, c, rfl, by have := h5.2.1; omega, fun j hj => ?_⟩
 obtain ⟨g, rfl, _, _, _, hcell, _, _⟩ := jJ (d0 := (0 : Nat)) h1 j hj
 exact ⟨⟨g, 0, none⟩, _, rfl, by rw [zaA]; exact hcell, (h3 j hj).2⟩
set_option maxRecDepth 100000 in
set_option maxHeartbeats 1600000 in
theorem ziH (w : World) (s b : Nat) (N T K E Rm : Int) (hP : w.heap[s]? = some (zF N T K E Rm)) (v : Value) (bl : List Nat) (Es : List (List Int)) (hS : yX w b v bl Es) (hn : Es.length ≤ 9223372036854775807) :
 Calls Try.prog 128 #[v, .func (.func 101) #[] #[.pointer (some ⟨s, 0, none⟩)]] w fun e w' => (∃ i : Int, e = .returned (.int .i64 i) ∧ decide (0 ≤ i) = !decide (∀ c ∈ Es, ((nd c).length : Int) ≤ T)) ∧ zq w w' := by
 obtain ⟨A, c, rfl, _, hat⟩ := zgl hS
 have HAT := za.mk hat
 have HP := za.mk hP
 obtain ⟨n, hnl⟩ : ∃ n, n = Es.length := ⟨_, rfl⟩
 have HL := za.mk hnl
 obtain ⟨res, hres⟩ : ∃ res, res = decide (∀ c ∈ Es, ((nd c).length : Int) ≤ T) := ⟨_, rfl⟩
 have HRES := za.mk hres
 rw [← hres]
 rw [← hnl] at hn HAT ⊢
 clear hS hat hP hnl hres
 go_enter Try.func128, Try.ntmps128
 go_wp2
 go_loopw [8] (fun v8 wr => ∃ (k t : Nat), k ≤ n ∧ v8 = .int .i64 k ∧ wr = w.drewN t ∧ za (∀ c ∈ Es.take k, ((nd c).length : Int) ≤ T)) (fun v8 _ => n - (intOf v8).toNat)
 case atStart => exact ⟨0, 0, by omega, rfl, rfl, ⟨fun r hr => by simp at hr⟩⟩
 obtain ⟨k, t, hk, rfl, rfl, HT⟩ := hrel
 by_cases hlt : k < n
 ·obtain ⟨ad, m, rfl, hcell, hm⟩ := HAT.out k hlt
  have hlen : k < Es.length := by rw [← HL.out]; exact hlt
  obtain ⟨cur, hcur⟩ : ∃ cur, cur = Es.getD k [] := ⟨_, rfl⟩
  rw [← hcur] at hm
  have hmem : cur ∈ Es := by rw [hcur, List.getD_eq_getElem?_getD, List.getElem?_eq_getElem hlen]; exact List.getElem_mem hlen
  have HC := za.mk (zlJ (w.drewN t) s m N T K E Rm cur HP.out (Jx hm (S := fun _ => False) ((Fr.refl _ w).drewN t) (fun h => h)))
  have hjI : (k : Int) < (n : Int) := by omega
  by_cases hok : ((nd cur).length : Int) ≤ T
  ·rw [decide_eq_true hok, Bool.not_true] at HC
   have HX : za (∀ c ∈ Es.take (k + 1), ((nd c).length : Int) ≤ T) := ⟨fun x hx => by
    rw [zK [] Es k hlen, List.mem_append, List.mem_singleton] at hx
    rcases hx with e | e
    ·exact HT.out x e
    rw [e, ← hcur]; exact hok⟩
   clear hm hcur hmem hok
   go_wp2_with (go_at_call 101; with_reducible refine HC.out.mono ?_; rintro e w2 ⟨rfl, ⟨t2, rfl⟩⟩)
   go_roundw
   case rel => exact ⟨k + 1, _, by omega, by go_num, rfl, HX⟩
   simp [intOf]; omega
  rw [decide_eq_false hok, Bool.not_false] at HC
  have HX : za (res = false) := ⟨by rw [HRES.out]; exact decide_eq_false (fun h => hok (h cur hmem))⟩
  clear hm hcur hmem hok
  go_wp2_with (go_at_call 101; with_reducible refine HC.out.mono ?_; rintro e w2 ⟨rfl, ⟨t2, rfl⟩⟩)
  go_ret
  exact ⟨⟨_, rfl, by rw [HX.out]; simp⟩, ⟨_, rfl⟩⟩
 obtain rfl : k = n := by omega
 have HX : za (res = true) := ⟨by
  rw [HRES.out, decide_eq_true_iff]
  have h := HT.out
  rwa [List.take_of_length_le (by rw [← HL.out]; exact Nat.le_refl _)] at h⟩
 go_wp2
 go_ret
 exact ⟨⟨_, rfl, by rw [HX.out]; simp⟩, ⟨_, rfl⟩⟩
set_option maxRecDepth 100000 in
set_option maxHeartbeats 1600000 in
theorem ziy (w : World) (s b : Nat) (N T K E Rm : Int) (hP : w.heap[s]? = some (zF N T K E Rm)) (v : Value) (bl : List Nat) (Es : List (List Int)) (hS : yX w b v bl Es) (hn : Es.length ≤ 9223372036854775807) :
 Calls Try.prog 99 #[v, .func (.func 101) #[] #[.pointer (some ⟨s, 0, none⟩)]] w fun e w' => e = .returned (.bool (!decide (∀ c ∈ Es, ((nd c).length : Int) ≤ T))) ∧ zq w w' := by
 have HI := za.mk (ziH w s b N T K E Rm hP v bl Es hS hn)
 obtain ⟨res, hres⟩ : ∃ res, res = decide (∀ c ∈ Es, ((nd c).length : Int) ≤ T) := ⟨_, rfl⟩
 rw [← hres] at HI ⊢
 clear hP hS hres
 go_enter Try.func99, Try.ntmps99
 go_wp2_with (go_at_call 128; with_reducible refine HI.out.mono ?_; rintro e w1 ⟨⟨i, rfl, hi⟩, hb⟩)
 go_ret
 exact ⟨by rw [← hi]; rfl, hb⟩
theorem zew (rs : List Ri) : (ym rs).length ≤ rs.length + 1 := by
 rw [← zjh, zaD, List.length_append]
 have := zgc rs rs.length (Nat.le_refl _)
 simp only [List.length_singleton]
 omega
set_option maxRecDepth 100000 in
set_option maxHeartbeats 3200000 in
theorem zjp (w : World) (N T K E Rm size : Int) (A : Option Addr) (n c : Nat) (rs : List Ri) (hR : RL w A n rs) (hn : n ≤ 9223372036854775807) (hsm : ∀ r ∈ rs, r.ds.length ≤ 9223372036854775807 ∧ r.sn.length ≤ 9223372036854775807) (hN : -9223372036854775808 ≤ N ∧ N ≤ 9223372036854775807) :
 Calls Try.prog 65 #[zv N T K E Rm, .int .i64 size, .slice A n c] w fun e w' => e = .returned (.bool (decide (zbR N T K E Rm size rs))) ∧ Below w.heap.size w w' := by
 have hnl := Zi hR
 obtain ⟨res, hres⟩ : ∃ res, res = decide (zbR N T K E Rm size rs) := ⟨_, rfl⟩
 have HRES := za.mk hres
 rw [← hres]
 obtain ⟨W0, hW0, hz0, a0, hb0⟩ := zU w (Obj.cells #[.int .i64 N, .int .i64 T, .int .i64 K, .int .i64 E, .int .i64 Rm] 48)
 have HG := za.mk (zlA W0 N T K E Rm hN)
 have HB0 := za.mk hb0
 have HA0 := za.mk a0
 have HR := za.mk hR
 have HSM := za.mk hsm
 have HNL := za.mk hnl
 rw [hW0] at HG HB0 HA0
 have hu48 := Try.underlying48
 clear hres hR hsm hnl hW0 hz0 a0 hb0
 cases hg : zbP N T K E Rm with
 | false =>
   rw [hg] at HG
   have HX : za (res = false) := ⟨by rw [HRES.out]; exact decide_eq_false (fun h => of_decide_eq_false hg h.1)⟩
   clear hg
   unfold zv at *
   go_enter Try.func65, Try.ntmps65
   go_wp2_with (go_at_call 43; with_reducible refine HG.out.mono ?_; rintro e w1 ⟨rfl, hb1⟩; have HB1 := za.mk (HB0.out.trans (hb1.mono HB0.out.size)); clear hb1)
   go_ret
   exact ⟨by rw [HX.out]; rfl, HB1.out⟩
 | true =>
   have hgd := zfk hg
   have hT : 1 ≤ T ∧ T ≤ 255 := ⟨hgd.2.2.1, hgd.2.2.2.1⟩
   have hN2 : 0 ≤ N ∧ N ≤ 255 := ⟨hgd.1, hgd.2.1⟩
   have HGD := za.mk hgd
   rw [hg] at HG
   clear hg hgd
   unfold zv at *
   by_cases c1 : size < 0
   ·have HX : za (res = false) := ⟨by rw [HRES.out]; exact decide_eq_false (fun h => by have := h.2.1; omega)⟩
    go_enter Try.func65, Try.ntmps65
    go_wp2_with (go_at_call 43; with_reducible refine HG.out.mono ?_; rintro e w1 ⟨rfl, hb1⟩; have HB1 := za.mk (HB0.out.trans (hb1.mono HB0.out.size)); clear hb1)
    go_ret
    exact ⟨by rw [HX.out]; rfl, HB1.out⟩
   by_cases c2 : 256 < size
   ·have c1' : 0 ≤ size := by omega
    have HX : za (res = false) := ⟨by rw [HRES.out]; exact decide_eq_false (fun h => by have := h.2.2.1; omega)⟩
    go_enter Try.func65, Try.ntmps65
    go_wp2_with (go_at_call 43; with_reducible refine HG.out.mono ?_; rintro e w1 ⟨rfl, hb1⟩; have HB1 := za.mk (HB0.out.trans (hb1.mono HB0.out.size)); clear hb1)
    go_ret
    exact ⟨by rw [HX.out]; rfl, HB1.out⟩
   have c1' : 0 ≤ size := by omega
   have c2' : size ≤ 256 := by omega
   by_cases c3 : (1024 : Int) < (n : Int)
   ·have HX : za (res = false) := ⟨by rw [HRES.out]; exact decide_eq_false (fun h => by have := h.2.2.2.1; rw [HNL.out] at this; omega)⟩
    go_enter Try.func65, Try.ntmps65
    go_wp2_with (go_at_call 43; with_reducible refine HG.out.mono ?_; rintro e w1 ⟨rfl, hb1⟩; have HB1 := za.mk (HB0.out.trans (hb1.mono HB0.out.size)); clear hb1)
    go_ret
    exact ⟨by rw [HX.out]; rfl, HB1.out⟩
   have c3' : (n : Int) ≤ 1024 := by omega
   have HCF : za (∀ W, Below ((w.alloc (Obj.cells #[.int .i64 N, .int .i64 T, .int .i64 K, .int .i64 E, .int .i64 Rm] 48)).heap.size) (w.alloc (Obj.cells #[.int .i64 N, .int .i64 T, .int .i64 K, .int .i64 E, .int .i64 Rm] 48)) W → Calls Try.prog 96 #[.slice A n c, .func (.func 97) #[] #[.pointer (some ⟨w.heap.size, 0, none⟩)]] W fun e w' => e = .returned (.bool (!decide (∀ r ∈ rs, zX N T r))) ∧ Below W.heap.size W w') :=
    ⟨fun W hW => zig W w.heap.size N T K E Rm (zl HA0.out hW) A n c rs (zA HR.out (HB0.out.trans (hW.mono HB0.out.size))) hn HSM.out hT⟩
   by_cases c4 : ∀ r ∈ rs, zX N T r
   ·rw [decide_eq_true c4, Bool.not_true] at HCF
    have HSE := za.mk (fun W (hW : Below w.heap.size w W) => zhP W A n c rs (zA HR.out hW) (by omega) (fun r hr => by
     have h5 := (c4 r hr).2.2.2.2.2.1
     refine ⟨by have := jO h5; omega, fun x hx => by have := yp h5 hx; omega⟩))
    have HEL : za ((ym rs).length ≤ 9223372036854775807) := ⟨by have := zew rs; rw [HNL.out] at this; omega⟩
    have HX : za (res = decide (∀ c ∈ ym rs, ((nd c).length : Int) ≤ T)) := ⟨by
     rw [HRES.out, decide_eq_decide]
     exact ⟨fun h => h.2.2.2.2.2, fun h => ⟨HGD.out, c1', c2', by rw [HNL.out]; omega, c4, h⟩⟩⟩
    go_enter Try.func65, Try.ntmps65
    go_wp2_with (first
     | (go_at_call 43; with_reducible refine HG.out.mono ?_; rintro e w1 ⟨rfl, hb1⟩; have HB1 := za.mk (HB0.out.trans (hb1.mono HB0.out.size)); have HM1 := za.mk hb1; clear hb1)
     | (go_at_call 96; with_reducible refine (HCF.out _ HM1.out).mono ?_; rintro e w2 ⟨rfl, hb2⟩; have HB2 := za.mk (HB1.out.trans (hb2.mono HB1.out.size)); have HM2 := za.mk (HM1.out.trans (hb2.mono HM1.out.size)); clear hb2)
     | (go_at_call 100; with_reducible refine (HSE.out _ HB2.out).mono ?_; rintro e w3 ⟨v, bl, rfl, hS, hb3⟩; have HS3 := za.mk hS; have HB3 := za.mk (HB2.out.trans (hb3.mono HB2.out.size)); have HM3 := za.mk (HM2.out.trans (hb3.mono HM2.out.size)); clear hb3 hS)
     | (go_at_call 99; with_reducible refine (ziy _ w.heap.size _ N T K E Rm (zl HA0.out HM3.out) v bl _ HS3.out HEL.out).mono ?_; rintro e w4 ⟨rfl, ⟨t4, rfl⟩⟩))
    go_ret
    exact ⟨by rw [HX.out]; rfl, zb HB3.out t4⟩
   rw [decide_eq_false c4, Bool.not_false] at HCF
   have HX : za (res = false) := ⟨by rw [HRES.out]; exact decide_eq_false (fun h => c4 h.2.2.2.2.1)⟩
   go_enter Try.func65, Try.ntmps65
   go_wp2_with (first
    | (go_at_call 43; with_reducible refine HG.out.mono ?_; rintro e w1 ⟨rfl, hb1⟩; have HB1 := za.mk (HB0.out.trans (hb1.mono HB0.out.size)); have HM1 := za.mk hb1; clear hb1)
    | (go_at_call 96; with_reducible refine (HCF.out _ HM1.out).mono ?_; rintro e w2 ⟨rfl, hb2⟩; have HB2 := za.mk (HB1.out.trans (hb2.mono HB1.out.size)); clear hb2))
   go_ret
   exact ⟨by rw [HX.out]; rfl, HB2.out⟩
theorem zkE {P : Program} {α : Type} (enc : α → Value) (d0 : α) {h1 : ∀ x, (enc x).oneCell' = true} (wr w : World) (t e : TypeId) (z : Value) (bytes : Nat) (ht : P.underlying t = some (.slice e))
 (hinfo : (P.info? e).map (fun i => (i.zero, i.size, i.bytes)) = some (some z, 1, bytes)) (hzs : z.cells.size = 1) {A : Option Addr} {k c : Nat} {xs : List α} (h : Kd.R (Kd.scalar enc h1) e wr w.heap.size (fun _ => True) (.slice A k c) xs) (hb : Below w.heap.size w wr) (x : α) (ys : List α) (hys : ys = xs ++ [x])
 (hn : (k + 1) * bytes ≤ 140737488355328) (hb0 : 0 < bytes) : za (∀ W, Below wr.heap.size wr W →
 ∃ B d W', (Builtin.append_ #[t, t] t #[.slice A k c, .slice (some ⟨W.heap.size, 0, none⟩) 1 1]).run P (W.alloc (.cells #[enc x] e)) = .ok (.slice B (k + 1) d) W' ∧ za (Kd.R (Kd.scalar enc h1) e W' w.heap.size (fun _ => True) (.slice B (k + 1) d) ys) ∧ za (Below w.heap.size w W') ∧ za (∀ (g : Nat) (cs : Array Value) (q : TypeId), q ≠ e → wr.heap[g]? = some (Obj.cells cs q (0, 0)) → W'.heap[g]? = some (Obj.cells cs q (0, 0)))) := ⟨fun W hW => by
 subst hys
 have hk : k = xs.length := (Kd.Q_reads' (Kd.Q_of_R h)).1
 subst hk
 obtain ⟨B, d, W', e1, e2, e3, e4⟩ := zjE (P := P) enc d0 (h1 := h1) W w t e z bytes ht hinfo hzs (jo h (Fr.of_below hW (fun _ => False)) (fun _ _ _ _ h => h)) (hb.trans (hW.mono hb.size)) x hn hb0
 refine ⟨B, d, W', e1, ⟨e2⟩, ⟨e3⟩, ⟨fun g cs q hq hg => ?_⟩⟩
 refine e4.blk (zl hg hW) (fun hS => ?_)
 obtain ⟨cells, hc⟩ := Kd.R_typed h g (zV hS)
 rw [hg] at hc
 injection hc with hc
 injection hc with _ hc
 exact hq hc⟩
def jg (T K cols : Nat) (rs : List Ri) (i : Nat) : List Int := ZL T K cols (rs.take i)
theorem zcb (T K cols : Nat) (rs : List Ri) : jg T K cols rs 0 = [((T * cols : Nat) : Int)] := rfl
def zat (T K cols : Nat) (r : Ri) (j : Nat) : List Int := List.replicate j ((zD T K r.kind * cols : Nat) : Int)
theorem JV (T K cols : Nat) (rs : List Ri) (i : Nat) (h : i < rs.length) : jg T K cols rs (i + 1) = jg T K cols rs i ++ zat T K cols (rs.getD i ri0) (rs.getD i ri0).ds.length := by
 unfold jg ZL zat
 rw [zK ri0 rs i h, List.flatMap_append]
 simp only [List.flatMap_cons, List.flatMap_nil, List.append_nil, List.cons_append]
 congr 2
 rw [List.eq_replicate_iff]
 exact ⟨by simp, fun b hb => by obtain ⟨_, _, rfl⟩ := List.mem_map.1 hb; rfl⟩
theorem zdi (T K cols : Nat) (rs : List Ri) (n : Nat) (h : rs.length = n) : jg T K cols rs n = ZL T K cols rs := by unfold jg; rw [List.take_of_length_le (by omega)]
theorem zdW (T K cols : Nat) (r : Ri) (j : Nat) : zat T K cols r (j + 1) = zat T K cols r j ++ [((zD T K r.kind * cols : Nat) : Int)] := by unfold zat; rw [List.replicate_succ']
theorem zam (T K cols : Nat) (rs : List Ri) (m : Nat) (hm : ∀ r ∈ rs, r.ds.length ≤ m) : ∀ i, i ≤ rs.length → (jg T K cols rs i).length ≤ 1 + i * m
 | 0, _ => by rw [zcb]; simp
 | i + 1, h => by
   rw [JV _ _ _ _ _ h, List.length_append]
   have h1 := zam T K cols rs m hm i (by omega)
   have h2 : (rs.getD i ri0).ds.length ≤ m := hm _ (by rw [List.getD_eq_getElem?_getD, List.getElem?_eq_getElem h]; exact List.getElem_mem h)
   have h3 : (i + 1) * m = i * m + m := by rw [Nat.add_mul, Nat.one_mul]
   unfold zat
   rw [List.length_replicate]
   omega
def jZ (N T K E Rm size : Int) (rs : List Ri) : List Int := if zbR N T K E Rm size rs then ZL T.toNat K.toNat (ye size.toNat K.toNat) rs else []
set_option maxRecDepth 100000 in
set_option maxHeartbeats 3200000 in
theorem zky (w : World) (N T K E Rm size : Int) (A : Option Addr) (n c : Nat) (rs : List Ri) (hR : RL w A n rs) (hn : n ≤ 9223372036854775807) (hsm : ∀ r ∈ rs, r.ds.length ≤ 9223372036854775807 ∧ r.sn.length ≤ 9223372036854775807) (hN : -9223372036854775808 ≤ N ∧ N ≤ 9223372036854775807) :
 Calls Try.prog 68 #[zv N T K E Rm, .int .i64 size, .slice A n c] w fun e w' => ∃ B d, e = .returned (.slice B (jZ N T K E Rm size rs).length d) ∧ Kd.R kz 3 w' w.heap.size (fun _ => True) (.slice B (jZ N T K E Rm size rs).length d) (jZ N T K E Rm size rs) ∧ Below w.heap.size w w' := by
 obtain ⟨W0, hW0, hz0, a0, hb0⟩ := zU w (Obj.cells #[.int .i64 N, .int .i64 T, .int .i64 K, .int .i64 E, .int .i64 Rm] 48)
 have HMA := za.mk (zjp W0 N T K E Rm size A n c rs (zA hR hb0) hn hsm hN)
 have HB0 := za.mk hb0
 have HA0 := za.mk a0
 have HR := za.mk hR
 have HNL := za.mk (Zi hR)
 have p0 := zh a0 (j := 0) (v := .int .i64 N) rfl
 rw [hW0] at HMA HB0 HA0
 have hu48 := Try.underlying48
 have hu90 := Try.underlying90
 by_cases hmay : zbR N T K E Rm size rs
 ·have hwl : jZ N T K E Rm size rs = ZL T.toNat K.toNat (ye size.toNat K.toNat) rs := by unfold jZ; rw [if_pos hmay]
  rw [decide_eq_true hmay] at HMA
  obtain ⟨nN, nT, nK, rfl, rfl, rfl, g1, g2, g3, g4, g5, g6, g7⟩ := zaR hmay.1
  obtain ⟨sz, rfl⟩ : ∃ sz : Nat, size = sz := ⟨size.toNat, by have := hmay.2.1; omega⟩
  have hszl : sz ≤ 256 := by have := hmay.2.2.1; omega
  have hnn : n ≤ 1024 := by have := hmay.2.2.2.1; rw [HNL.out] at this; exact this
  have HRO := za.mk hmay.2.2.2.2.1
  simp only [Int.toNat_natCast] at hwl
  obtain ⟨ts, hts⟩ : ∃ ts, ts = jZ nN nT nK E Rm sz rs := ⟨_, rfl⟩
  rw [← hts] at hwl ⊢
  have HTS := za.mk hwl
  have HCO := za.mk (fun W => zcK W sz nK (by omega) (by omega))
  obtain ⟨cols, hcols⟩ : ∃ cols, cols = ye sz nK := ⟨_, rfl⟩
  rw [← hcols] at HCO HTS
  have hcl : cols ≤ 256 := by rw [hcols]; exact Nat.le_trans (Zx sz nK g4) hszl
  have HNE := za.mk (fun W (kind : Int) => zaj W nN nT nK E Rm kind cols (by omega) (by omega) (by omega) (by omega))
  have HEL := za.mk (fun kind => jH nT nK kind (by omega) (by omega))
  have e1 : zD nT nK 1 = nT := by unfold zD; rw [if_pos (.inl rfl)]
  have HN1 := za.mk (fun W => HNE.out W 1)
  rw [e1] at HN1
  obtain ⟨q1, hq1⟩ : ∃ q1, q1 = nT * cols := ⟨_, rfl⟩
  rw [← hq1] at HN1
  have HQ1 := za.mk hq1
  have HG : za (∀ W, Below (w.alloc (Obj.cells #[.int .i64 nN, .int .i64 nT, .int .i64 nK, .int .i64 E, .int .i64 Rm] 48)).heap.size (w.alloc (Obj.cells #[.int .i64 nN, .int .i64 nT, .int .i64 nK, .int .i64 E, .int .i64 Rm] 48)) W → W.cell? ⟨w.heap.size, 0, none⟩ = some (.int .i64 nN) ∧ W.cell? ⟨w.heap.size, 1, none⟩ = some (.int .i64 nT) ∧ W.cell? ⟨w.heap.size, 2, none⟩ = some (.int .i64 nK) ∧ W.cell? ⟨w.heap.size, 3, none⟩ = some (.int .i64 E) ∧ W.cell? ⟨w.heap.size, 4, none⟩ = some (.int .i64 Rm)) := ⟨fun W hW => by
   have h0 := zl HA0.out hW
   exact ⟨zh h0 rfl, zh h0 rfl, zh h0 rfl, zh h0 rfl, zh h0 rfl⟩⟩
  have HB0' : za (Below w.heap.size w (w.alloc (Obj.cells #[.int .i64 nN, .int .i64 nT, .int .i64 nK, .int .i64 E, .int .i64 Rm] 48)) ∧ (w.alloc (Obj.cells #[.int .i64 nN, .int .i64 nT, .int .i64 nK, .int .i64 E, .int .i64 Rm] 48)).heap.size = w.heap.size + 1) := ⟨HB0.out, by simp⟩
  clear hmay hwl hts p0 hW0 hz0 a0 hb0 hcols e1 HB0 hR hsm hq1
  unfold zv at *
  go_enter Try.func68, Try.ntmps68
  go_wp2_with (first
   | (go_at_call 65; with_reducible refine HMA.out.mono ?_; rintro e w1 ⟨rfl, hb1⟩; obtain ⟨p0, p1, p2, p3, p4⟩ := HG.out w1 hb1; have HM1 := za.mk hb1; clear hb1)
   | (go_at_call 38; with_reducible refine (HCO.out _).mono ?_; rintro e w2 ⟨rfl, rfl⟩)
   | (go_at_call 49; with_reducible refine (HN1.out _).mono ?_; rintro e w3 ⟨rfl, hb3⟩; have HM3 := za.mk (HM1.out.trans (hb3.mono HM1.out.size)); clear hb3))
  have hlit : Kd.R kz 3 (w3.alloc (Obj.cells #[.int .i64 (q1 : Int)] 3)) w.heap.size (fun _ => True) (.slice (some ⟨w3.heap.size, 0, none⟩) 1 1) (jg nT nK cols rs 0) := by
   rw [zcb, ← HQ1.out]
   exact Kd.R_of_own (yA (enc := Value.int .i64) w3 w.heap.size 3 [(q1 : Int)] (by have := HM3.out.size; have := HB0'.out.2; omega) (by simp)) (fun _ _ => trivial)
  have HM4 : za (Below (w.alloc (Obj.cells #[.int .i64 nN, .int .i64 nT, .int .i64 nK, .int .i64 E, .int .i64 Rm] 48)).heap.size (w.alloc (Obj.cells #[.int .i64 nN, .int .i64 nT, .int .i64 nK, .int .i64 E, .int .i64 Rm] 48)) (w3.alloc (Obj.cells #[.int .i64 (q1 : Int)] 3))) := ⟨zc HM3.out _⟩
  have HLIT := za.mk hlit
  obtain ⟨W4, hW4⟩ : ∃ W4, W4 = w3.alloc (Obj.cells #[.int .i64 (q1 : Int)] 3) := ⟨_, rfl⟩
  rw [← hW4] at HLIT HM4 ⊢
  have HPB : za (W4.heap[w.heap.size]? = some (zF nN nT nK E Rm)) := ⟨zl HA0.out HM4.out⟩
  have HBB : za (Below w.heap.size w W4) := ⟨HB0'.out.1.trans (HM4.out.mono HB0'.out.1.size)⟩
  clear hlit hW4 HM1 HM3 p0 p1 p2 p3 p4 HMA HN1 HCO HM4 HG HA0 HB0'
  go_loopw [8, 26] (fun v8 v26 wr => ∃ (i m cap : Nat) (B : Option Addr), i ≤ n ∧ v26 = .int .i64 i ∧ v8 = .slice B m cap ∧ za (m = (jg nT nK cols rs i).length) ∧ za (Kd.R kz 3 wr w.heap.size (fun _ => True) (.slice B m cap) (jg nT nK cols rs i)) ∧ za (wr.heap[w.heap.size]? = some (zF nN nT nK E Rm)) ∧ za (Below w.heap.size w wr)) (fun _ v26 _ => n - (intOf v26).toNat)
  case atStart => exact ⟨0, 1, 1, _, by omega, rfl, rfl, ⟨rfl⟩, HLIT, HPB, HBB⟩
  clear HLIT HPB HBB
  obtain ⟨i, m, cap, B, hi, rfl, rfl, HMM, HRW, HPB, HB⟩ := hrel
  by_cases hlt : i < n
  ·obtain ⟨r, ad, D, S, ndd, cd, ns, cs, hr, rfl, h0, h1, h2, h3, l1, _, hD, l2, _, hS⟩ := zdh HR.out i hlt
   have hbw := HB.out
   have hlen : i < rs.length := by rw [HNL.out]; exact hlt
   have hmem : r ∈ rs := by rw [hr, List.getD_eq_getElem?_getD, List.getElem?_eq_getElem hlen]; exact List.getElem_mem hlen
   have hrk := HRO.out r hmem
   have hnd2 : ndd ≤ 256 := by
    have h5 := jO hrk.2.2.2.2.1
    omega
   have HNX := za.mk (JV nT nK cols rs i hlen)
   rw [← hr, l1] at HNX
   have hml : m ≤ 1 + 1024 * 256 := by
    have h5 := zam nT nK cols rs 256 (fun x hx => by have := jO (HRO.out x hx).2.2.2.2.1; omega) i (by omega)
    rw [HMM.out]
    have : i * 256 ≤ 1024 * 256 := Nat.mul_le_mul_right 256 (by omega)
    omega
   have hc0 := (Fr.of_below hbw (fun _ => False)).cell h0 (fun h => h)
   have hc1 := (Fr.of_below hbw (fun _ => False)).cell h1 (fun h => h)
   have hc2 := (Fr.of_below hbw (fun _ => False)).cell h2 (fun h => h)
   have hc3 := (Fr.of_below hbw (fun _ => False)).cell h3 (fun h => h)
   have HNK := za.mk (fun W => HNE.out W r.kind)
   obtain ⟨qk, hqk⟩ : ∃ qk, qk = zD nT nK r.kind * cols := ⟨_, rfl⟩
   rw [← hqk] at HNK
   have HQK := za.mk hqk
   obtain ⟨kind, target, ds, sn⟩ := r
   simp only at hc0 hc1 HNK HQK
   obtain ⟨lx, hlx⟩ : ∃ lx, lx = zat nT nK cols ⟨kind, target, ds, sn⟩ := ⟨_, rfl⟩
   have HLX : za (lx 0 = [] ∧ ∀ j, lx (j + 1) = lx j ++ [(qk : Int)] ∧ (lx j).length = j) := ⟨by
    rw [hlx]
    refine ⟨rfl, fun j => ⟨?_, by simp [zat]⟩⟩
    rw [zdW]
    simp only [HQK.out]⟩
   rw [← hlx] at HNX
   obtain ⟨tl, htl⟩ : ∃ tl, tl = jg nT nK cols rs i := ⟨_, rfl⟩
   rw [← htl] at HNX HRW HMM
   obtain ⟨W2, hW2, hz2, hg2, hb2⟩ := zU wr (.cells #[.int .i64 kind, .int .i64 target, .slice D ndd cd, .slice S ns cs] 90)
   have HRW2 : za (Kd.R kz 3 W2 w.heap.size (fun _ => True) (.slice B m cap) (tl ++ lx 0)) := ⟨by
    rw [HLX.out.1, List.append_nil]
    exact jo HRW.out (Fr.of_below hb2 (fun _ => False)) (fun _ _ _ _ h => h)⟩
   have HB2 : za (Below w.heap.size w W2) := ⟨HB.out.trans (hb2.mono HB.out.size)⟩
   have HG2 : za (W2.heap[wr.heap.size]? = some (.cells #[.int .i64 kind, .int .i64 target, .slice D ndd cd, .slice S ns cs] 90 (0, 0)) ∧ W2.heap[w.heap.size]? = some (zF nN nT nK E Rm)) := ⟨hg2, zl HPB.out hb2⟩
   have HW2 := za.mk hW2
   have hjI : (i : Int) < (n : Int) := by omega
   clear h0 h1 h2 h3 l1 l2 hD hS hr hmem hrk hqk hlx htl hW2 hz2 hg2 hb2 hbw HRW HB HPB
   go_wp2
   rw [← HW2.out]
   obtain ⟨g, hg⟩ : ∃ g, g = wr.heap.size := ⟨_, rfl⟩
   rw [← hg] at HG2 ⊢
   clear hg HW2
   go_loopw [8, 33] (fun v8 v33 wq => ∃ (j cap : Nat) (B : Option Addr), j ≤ ndd ∧ v33 = .int .i64 j ∧ v8 = .slice B (m + j) cap ∧ za (Kd.R kz 3 wq w.heap.size (fun _ => True) (.slice B (m + j) cap) (tl ++ lx j)) ∧ za (wq.heap[g]? = some (.cells #[.int .i64 kind, .int .i64 target, .slice D ndd cd, .slice S ns cs] 90 (0, 0)) ∧ wq.heap[w.heap.size]? = some (zF nN nT nK E Rm)) ∧ za (Below w.heap.size w wq)) (fun _ v33 _ => ndd - (intOf v33).toNat)
   case atStart => exact ⟨0, cap, B, by omega, rfl, rfl, HRW2, HG2, HB2⟩
   clear HRW2 HG2 HB2
   obtain ⟨j, cap, B, hj, rfl, rfl, HRJ, HGJ, HBJ⟩ := hrel
   by_cases hjn : j < ndd
   ·have hpb := HGJ.out.2
    unfold zF at hpb
    have p0 := zh hpb (j := 0) (v := .int .i64 nN) rfl
    have p1 := zh hpb (j := 1) (v := .int .i64 nT) rfl
    have p2 := zh hpb (j := 2) (v := .int .i64 nK) rfl
    have p3 := zh hpb (j := 3) (v := .int .i64 E) rfl
    have p4 := zh hpb (j := 4) (v := .int .i64 Rm) rfl
    have q0 := zh HGJ.out.1 (j := 0) (v := .int .i64 kind) rfl
    have HPU := zkE (P := Try.prog) (Value.int .i64) (0 : Int) (h1 := fun _ => rfl) wr w 50 3 (.int .i64 0) 8 Try.underlying50 zeJ rfl HRJ.out HBJ.out (qk : Int) (tl ++ lx (j + 1)) (by rw [(HLX.out.2 j).1, List.append_assoc]) (by omega) (by omega)
    have hjJ : (j : Int) < (ndd : Int) := by omega
    clear hpb
    go_wp2_with (first
     | (go_at_call 49; with_reducible refine (HNK.out _).mono ?_; rintro e W1 ⟨rfl, hd⟩; obtain ⟨B', d', W', hX, HR', HB', HK'⟩ := HPU.out W1 hd; replace hX := za.mk hX; have HBK : za (W'.heap[g]? = some (.cells #[.int .i64 kind, .int .i64 target, .slice D ndd cd, .slice S ns cs] 90 (0, 0)) ∧ W'.heap[w.heap.size]? = some (zF nN nT nK E Rm)) := ⟨HK'.out _ _ _ (by decide) HGJ.out.1, HK'.out _ _ _ (by decide) HGJ.out.2⟩; clear hd HK')
     | (at_builtin; refine zm rfl _ _ _ _ rfl rfl rfl hX.out ?_))
    go_roundw
    case rel => exact ⟨j + 1, d', B', by omega, by go_num, rfl, HR', HBK, HB'⟩
    simp [intOf]; omega
   obtain rfl : j = ndd := by omega
   have HR1 : za (m + j = (jg nT nK cols rs (i + 1)).length) := ⟨by rw [HNX.out, List.length_append, (HLX.out.2 j).2, ← HMM.out]⟩
   have HR2 : za (Kd.R kz 3 wr w.heap.size (fun _ => True) (.slice B (m + j) cap) (jg nT nK cols rs (i + 1))) := ⟨by rw [HNX.out]; exact HRJ.out⟩
   have HR3 : za (wr.heap[w.heap.size]? = some (zF nN nT nK E Rm)) := ⟨HGJ.out.2⟩
   go_wp2
   go_roundw
   case rel => exact ⟨i + 1, m + j, cap, B, by omega, by go_num, rfl, HR1, HR2, HR3, HBJ⟩
   simp [intOf]; omega
  obtain rfl : i = n := by omega
  go_wp2
  go_ret
  have h := HRW.out
  have hm := HMM.out
  rw [zdi nT nK cols rs i HNL.out, ← HTS.out] at h hm
  rw [hm] at h ⊢
  exact ⟨B, cap, rfl, h, HB.out⟩
 have hwl : jZ N T K E Rm size rs = [] := by unfold jZ; rw [if_neg hmay]
 rw [decide_eq_false hmay] at HMA
 rw [hwl]
 clear hmay hwl HNL HR p0 hW0 hz0 a0 hb0
 unfold zv at *
 go_enter Try.func68, Try.ntmps68
 go_wp2_with (go_at_call 65; with_reducible refine HMA.out.mono ?_; rintro e w1 ⟨rfl, hb1⟩; have HB1 := za.mk (HB0.out.trans (hb1.mono HB0.out.size)); clear hb1)
 go_ret
 exact ⟨_, _, rfl, Kd.R_nil _ _ _ _ _, HB1.out⟩
end Go.Proofs.Ytpeiejkcoadhfaa
