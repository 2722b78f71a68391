/- What the view's laws take, Vt25: VwZ, VwAA, VwAB. -/
import Derived.Test.YtpeiejkcoadhfaaVt24
set_option linter.all false
namespace Go.Proofs.Ytpeiejkcoadhfaa
open Go.RowKit Go.Shelf Go.Proofs.YtpeiejkcoadhfaaW.PrintWords Go.Proofs.YtpeiejkcoadhfaaW.PrintMore
open Go.BigFrame
def EpL (rs : List Ri) (i : Nat) : List (List Int) × List Int := (rs.take i).foldl epStep ([], [])
theorem EpL_zero (rs : List Ri) : EpL rs 0 = ([], []) := rfl
theorem EpL_succ (rs : List Ri) (i : Nat) (h : i < rs.length) : EpL rs (i + 1) = epStep (EpL rs i) (rs.getD i ri0) := ep_take rs i h _
theorem EpL_all (rs : List Ri) : epEnd (EpL rs rs.length) = epochs rs := by unfold EpL epochs; rw [List.take_length]
theorem EpL_len (rs : List Ri) : ∀ i, i ≤ rs.length → (EpL rs i).1.length ≤ i
  | 0, _ => by simp [EpL_zero]
  | i + 1, h => by
    rw [EpL_succ rs i h]
    have := EpL_len rs i (by omega)
    unfold epStep
    split
    · simp; omega
    · simp; omega
theorem EpL_cur (rs : List Ri) (m : Nat) (hm : ∀ r ∈ rs, r.sn.length ≤ m) : ∀ i, i ≤ rs.length → (EpL rs i).2.length ≤ i * m
  | 0, _ => by simp [EpL_zero]
  | i + 1, h => by
    rw [EpL_succ rs i h]
    have h1 := EpL_cur rs m hm i (by omega)
    have h2 : (rs.getD i ri0).sn.length ≤ m := hm _ (by rw [List.getD_eq_getElem?_getD, List.getElem?_eq_getElem h]; exact List.getElem_mem h)
    have h3 : (i + 1) * m = i * m + m := by rw [Nat.add_mul, Nat.one_mul]
    unfold epStep
    split
    · show (rs.getD i ri0).sn.length ≤ _; omega
    · show ((EpL rs i).2 ++ _).length ≤ _; rw [List.length_append]; omega
set_option maxRecDepth 100000 in
set_option maxHeartbeats 3200000 in
theorem seen_any (w : World) (A : Option Addr) (n c : Nat) (rs : List Ri) (hR : RL w A n rs) (hn : n ≤ 1024) (hsn : ∀ r ∈ rs, r.sn.length ≤ 1000 ∧ ∀ x ∈ r.sn, 0 ≤ x ∧ x ≤ 255) :
    Calls Try.prog 100 #[.slice A n c] w fun e w' => ∃ v bl, e = .returned v ∧ SeenI w' w.heap.size v bl (epochs rs) ∧ Below w.heap.size w w' := by
  have HR := Aside0.mk hR
  have HL := Aside0.mk (RL_len hR)
  have HM := Aside0.mk hsn
  clear hR hsn
  have hmm := @run_makeMap Try.prog
  have hu90 := Try.underlying90
  obtain ⟨w1, hw1, hz1, a0, a1, hb1⟩ := heap2 w (Obj.map #[] 0) (Obj.cells #[.map (some w.heap.size)] 122)
  have HS0 : Aside0 (SeenI w1 w.heap.size (.slice (some ⟨w.heap.size + 1, 0, none⟩) 1 1) [w.heap.size] (epEnd (EpL rs 0))) := ⟨by
    rw [EpL_zero]
    refine ⟨?_, rfl, fun j hj => ?_, fun i j hij hj => ?_⟩
    · rw [hw1]
      have := own_lit_of (enc := encM) (w.alloc (.map #[] 0)) w.heap.size 122 [w.heap.size] (by simp) (by simp)
      rw [World.size_alloc] at this
      exact Kd.R_of_own this (fun _ _ => trivial)
    · obtain rfl : j = 0 := by simp [epEnd] at hj; omega
      refine ⟨Nat.le_refl _, ?_⟩
      rw [hw1]
      exact map_fr (S := fun _ => False) (map_new w) (Fr.of_below (below_alloc (Below.refl _ _) _) _) (fun h => h)
    · simp [epEnd] at hj; omega⟩
  have HB0 := Aside0.mk hb1
  have HW := Aside0.mk hw1
  clear hw1 hz1 a0 a1 hb1
  go_enter Try.func100, Try.ntmps100
  go_wp2
  rw [← HW.out]
  go_loopw [3, 15] (fun v3 v15 wr => ∃ (i m o cap : Nat) (B : Option Addr) (bl : List Nat), i ≤ n ∧ v15 = .int .i64 i ∧ v3 = .slice B m cap ∧ Aside0 (o = (EpL rs i).1.length) ∧ Aside0 (m = o + 1) ∧ Aside0 (SeenI wr w.heap.size (.slice B m cap) bl (epEnd (EpL rs i))) ∧ Aside0 (Below w.heap.size w wr)) (fun _ v15 _ => n - (intOf v15).toNat)
  case atStart => exact ⟨0, 1, 0, 1, _, _, by omega, rfl, rfl, ⟨rfl⟩, ⟨rfl⟩, HS0, HB0⟩
  case round =>
    clear HS0 HB0 HW
    obtain ⟨i, m, o, cap, B, bl, hi, rfl, rfl, HO, HMM, HSI, HB⟩ := hrel
    by_cases hlt : i < n
    · obtain ⟨r, ad, D, S, ndd, cd, ns, cs, hr, rfl, h0, h1, h2, h3, l1, _, hD, l2, _, hS⟩ := RL_at HR.out i hlt
      have hlen : i < rs.length := by rw [HL.out]; exact hlt
      have hmem : r ∈ rs := by rw [hr, List.getD_eq_getElem?_getD, List.getElem?_eq_getElem hlen]; exact List.getElem_mem hlen
      have HRS := Aside0.mk (HM.out r hmem)
      have HNX := Aside0.mk (EpL_succ rs i hlen)
      rw [← hr] at HNX
      have hol := EpL_len rs i (by omega)
      have hcl := EpL_cur rs 1000 (fun x hx => (HM.out x hx).1) i (by omega)
      obtain ⟨⟨old, cur⟩, hst⟩ : ∃ st, st = EpL rs i := ⟨_, rfl⟩
      rw [← hst] at HO HSI HNX hol hcl
      have hjI : (i : Int) < (n : Int) := by omega
      have hc0 := (Fr.of_below HB.out (fun _ => False)).cell h0 (fun h => h)
      have hc1 := (Fr.of_below HB.out (fun _ => False)).cell h1 (fun h => h)
      have hc2 := (Fr.of_below HB.out (fun _ => False)).cell h2 (fun h => h)
      have hc3 := (Fr.of_below HB.out (fun _ => False)).cell h3 (fun h => h)
      obtain ⟨kind, target, ds, sn⟩ := r
      simp only at hc0 hc1 HRS HNX l2 hS hcl hol
      obtain ⟨W2, hW2, hz2, hg2, hb2⟩ := heap1 wr (.cells #[.int .i64 kind, .int .i64 target, .slice D ndd cd, .slice S ns cs] 90)
      have HW2 := Aside0.mk hW2
      have HZ2 := Aside0.mk hz2
      have HG2 := Aside0.mk hg2
      have HB2 := Aside0.mk hb2
      have HSC := Aside0.mk hS
      have HSN := Aside0.mk l2
      have hnsz : ns ≤ 1000 := by rw [← l2]; exact HRS.out.1
      have HCL := Aside0.mk hcl
      have HOL := Aside0.mk hol
      clear h0 h1 h2 h3 l1 hD hS l2 hr hmem hst hW2 hz2 hg2 hb2 hcl hol
      go_wp2
      rw [← HW2.out]
      obtain ⟨g, hg⟩ : ∃ g, g = wr.heap.size := ⟨_, rfl⟩
      rw [← hg] at HG2 ⊢
      have HGB := Aside0.mk hg
      have HSI2 : Aside0 (SeenI W2 w.heap.size (.slice B m cap) bl (old ++ [cur ++ sn.take 0])) := ⟨by
        have h := seen_fr HSI.out (Fr.of_below HB2.out (fun _ => False))
        rw [List.take_zero, List.append_nil]
        exact h⟩
      have HBW : Aside0 (Below w.heap.size w W2) := ⟨HB.out.trans (HB2.out.mono HB.out.size)⟩
      obtain ⟨bm, hbm⟩ : ∃ bm, bm = bl.getD old.length 0 := ⟨_, rfl⟩
      have HBM := Aside0.mk hbm
      have HBG : Aside0 (w.heap.size ≤ bm ∧ bm < g) := ⟨by
        have h := HSI.out.2.2.1 old.length (by simp [epEnd])
        rw [← hbm] at h
        exact ⟨h.1, by rw [hg]; exact map_lt h.2⟩⟩
      clear hbm hg HSI HB2 HW2
      go_loopw [22] (fun v22 wq => ∃ (j : Nat), j ≤ ns ∧ v22 = .int .i64 j ∧ Aside0 (SeenI wq w.heap.size (.slice B m cap) bl (old ++ [cur ++ sn.take j])) ∧ Aside0 (Fr (fun k => k = bm) W2 wq)) (fun v22 _ => ns - (intOf v22).toNat)
      case atStart => exact ⟨0, by omega, rfl, HSI2, ⟨Fr.refl _ _⟩⟩
      case round =>
        clear HSI2
        obtain ⟨j, hj, rfl, HSJ, HFJ⟩ := hrel
        by_cases hjn : j < ns
        · obtain ⟨adS, rfl, hx⟩ := z_at HSC.out ((Fr.of_below HBW.out (fun k => w.heap.size ≤ k)).trans' (HFJ.out.mono (fun k hk => by have := HBG.out; omega))) (fun _ h => h) j hjn
          have hjl : j < sn.length := by rw [HSN.out]; exact hjn
          have hxr := HRS.out.2 _ (getI_mem hjl)
          obtain ⟨x, hxe⟩ : ∃ x, x = sn.getD j 0 := ⟨_, rfl⟩
          rw [← hxe] at hx hxr
          obtain ⟨ad2, c2, m2, hm2, hv2, hcell, hlook, wu, hupd, hSU, hFU⟩ := seen_inc HSJ.out x hxr (by rw [List.length_append, List.length_take]; have := HCL.out; omega)
          rw [← HBM.out] at hm2
          subst hm2
          injection hv2 with hv1 hv3 hv4
          subst hv1
          obtain ⟨cnt, hcnt⟩ : ∃ cnt, cnt = (cur ++ sn.take j).count x := ⟨_, rfl⟩
          have hcl2 : cnt ≤ 2000000 := by
            have h1 : (cur ++ sn.take j).count x ≤ (cur ++ sn.take j).length := List.count_le_length
            rw [List.length_append, List.length_take] at h1
            have := HCL.out
            omega
          rw [← hcnt] at hlook hupd
          push_cast at hupd
          have hw1 : wrap64 ((cnt : Int) + 1) = ((cnt + 1 : Nat) : Int) := wr_succ cnt (by omega)
          have hol : old.length = o := HO.out.symm
          rw [hol] at hcell
          have hm1 : wrap64 ((m : Int) - 1) = (o : Int) := by
            have h1 := HMM.out
            have h2 := HOL.out
            rw [wr_pred m (by omega)]; omega
          have hmI : (o : Int) < (m : Int) := by have := HMM.out; omega
          have HSU : Aside0 (SeenI wu w.heap.size (.slice (some ad2) m cap) bl (old ++ [cur ++ sn.take (j + 1)])) := ⟨by
            rw [take_snoc 0 sn j hjl, ← List.append_assoc, ← hxe]
            exact hSU⟩
          have HFU := Aside0.mk (HFJ.out.trans' hFU)
          have hjJ : (j : Int) < (ns : Int) := by omega
          clear hSU hFU hcnt hxe hxr hjl hol hv3 hv4
          go_wp2
          go_roundw
          case rel => exact ⟨j + 1, by omega, by go_num, HSU, HFU⟩
          case measure => simp [intOf]; omega
        · obtain rfl : j = ns := by omega
          have HSE : Aside0 (SeenI wr w.heap.size (.slice B m cap) bl (old ++ [cur ++ sn])) := ⟨by
            have h := HSJ.out
            rwa [List.take_of_length_le (by rw [HSN.out]; exact Nat.le_refl _)] at h⟩
          have hgq := HFJ.out.blk HG2.out (fun e => by have := HBG.out; omega)
          have HGQ := Aside0.mk hgq
          have HBQ : Aside0 (Below w.heap.size w wr) := ⟨HBW.out.trans (HFJ.out.below HBW.out.size (fun k hk => by have := HBG.out; omega))⟩
          have p0 := cell_at hgq (j := 0) (v := .int .i64 kind) rfl
          clear hgq HSJ HFJ
          by_cases hk2 : kind = 2
          · have e2 : (kind != 2) = false := by simp; exact hk2
            have p3 := cell_at (blk_alloc HGQ.out (.map #[] 0)) (j := 3) (v := .slice S j cs) rfl
            have HN : EpL rs (i + 1) = (old ++ [cur ++ sn], sn) := by rw [HNX.out]; unfold epStep; rw [if_pos hk2]
            have HNN := Aside0.mk HN
            obtain ⟨W3, hW3, hz3, _, hb3⟩ := heap1 wr (.map #[] 0)
            have HM3 : Aside0 (MapAt W3 wr.heap.size []) := ⟨by rw [hW3]; exact map_new wr⟩
            have HSE3 : Aside0 (SeenI W3 w.heap.size (.slice B m cap) bl (old ++ [cur ++ sn])) := ⟨seen_fr HSE.out (Fr.of_below hb3 (fun _ => False))⟩
            have HBL : Aside0 (w.heap.size ≤ wr.heap.size ∧ ∀ k, k < (old ++ [cur ++ sn]).length → bl.getD k 0 < wr.heap.size) := ⟨HBQ.out.size, fun k hk => map_lt (HSE.out.2.2.1 k hk).2⟩
            have HB3 : Aside0 (Below w.heap.size w W3) := ⟨HBQ.out.trans (hb3.mono HBQ.out.size)⟩
            have HW3 := Aside0.mk hW3
            clear HN HSE HGQ hk2 hW3 hz3 hb3 HBQ
            go_wp2
            rw [← HW3.out]
            obtain ⟨bn, hbn⟩ : ∃ bn, bn = wr.heap.size := ⟨_, rfl⟩
            rw [← hbn] at HM3 HBL ⊢
            clear hbn HW3
            have HM30 : Aside0 (MapAt W3 bn (sn.take 0)) := ⟨HM3.out⟩
            go_loopw [43] (fun v43 wq => ∃ (k : Nat), k ≤ j ∧ v43 = .int .i64 k ∧ Aside0 (MapAt wq bn (sn.take k)) ∧ Aside0 (Fr (fun q => q = bn) W3 wq)) (fun v43 _ => j - (intOf v43).toNat)
            case atStart => exact ⟨0, by omega, rfl, HM30, ⟨Fr.refl _ _⟩⟩
            case round =>
              clear HM30
              obtain ⟨k, hk, rfl, HMK, HFK⟩ := hrel
              by_cases hkn : k < j
              · obtain ⟨adS, rfl, hx⟩ := z_at HSC.out ((Fr.of_below HB3.out (fun k => w.heap.size ≤ k)).trans' (HFK.out.mono (fun k hk => by have := HBL.out.1; omega))) (fun _ h => h) k hkn
                have hjl : k < sn.length := by rw [HSN.out]; exact hkn
                have hxr := HRS.out.2 _ (getI_mem hjl)
                obtain ⟨x, hxe⟩ : ∃ x, x = sn.getD k 0 := ⟨_, rfl⟩
                rw [← hxe] at hx hxr
                obtain ⟨hlook, wu, hupd, hMU, hFU⟩ := map_inc HMK.out x hxr (by rw [List.length_take]; omega)
                obtain ⟨cnt, hcnt⟩ : ∃ cnt, cnt = (sn.take k).count x := ⟨_, rfl⟩
                have hcl2 : cnt ≤ 2000000 := by
                  have h1 : (sn.take k).count x ≤ (sn.take k).length := List.count_le_length
                  rw [List.length_take] at h1
                  omega
                rw [← hcnt] at hlook hupd
                push_cast at hupd
                have hw1 : wrap64 ((cnt : Int) + 1) = ((cnt + 1 : Nat) : Int) := wr_succ cnt (by omega)
                have HMU : Aside0 (MapAt wu bn (sn.take (k + 1))) := ⟨by
                  rw [take_snoc 0 sn k hjl, ← hxe]
                  exact hMU⟩
                have HFU := Aside0.mk (HFK.out.trans' hFU)
                have hkJ : (k : Int) < (j : Int) := by omega
                clear hMU hFU hcnt hxe hxr hjl
                go_wp2
                go_roundw
                case rel => exact ⟨k + 1, by omega, by go_num, HMU, HFU⟩
                case measure => simp [intOf]; omega
              · obtain rfl : k = j := by omega
                have hMM : MapAt wr bn sn := by
                  have h := HMK.out
                  rwa [List.take_of_length_le (by rw [HSN.out]; exact Nat.le_refl _)] at h
                have hBB : Below w.heap.size w wr := HB3.out.trans (HFK.out.below HB3.out.size (fun q hq => by have := HBL.out.1; omega))
                have hSS : SeenI wr w.heap.size (.slice B m cap) bl (old ++ [cur ++ sn]) := seen_other HSE3.out HM3.out HBL.out.2 HFK.out
                obtain ⟨B', d', W', hrun, hS', hB'⟩ := seen_push hSS hBB hMM HBL.out.1 HBL.out.2 (by rw [List.length_append]; have := HOL.out; simp only [List.length_singleton]; omega)
                have hEl : (old ++ [cur ++ sn]).length = m := by rw [List.length_append, HMM.out, HO.out]; rfl
                rw [hEl] at hrun hS'
                have HR1 : Aside0 (m = (EpL rs (i + 1)).1.length) := ⟨by rw [HNN.out]; exact hEl.symm⟩
                have HR2 : Aside0 (SeenI W' w.heap.size (.slice B' (m + 1) d') (bl ++ [bn]) (epEnd (EpL rs (i + 1)))) := ⟨by rw [HNN.out]; exact hS'⟩
                have HB' := Aside0.mk hB'
                have HRUN := Aside0.mk hrun
                clear hMM hBB hSS hS' hEl hB' hrun
                go_wp2_with (at_builtin; refine wpList_append_run rfl _ _ _ _ rfl rfl rfl HRUN.out ?_)
                go_roundw
                case rel => exact ⟨i + 1, m + 1, m, d', B', bl ++ [bn], by omega, by go_num, rfl, HR1, ⟨rfl⟩, HR2, HB'⟩
                case measure => simp [intOf]; omega
          · have e2 : (kind != 2) = true := by simp; exact hk2
            have HN : EpL rs (i + 1) = (old, cur ++ sn) := by rw [HNX.out]; unfold epStep; rw [if_neg hk2]
            have HR1 : Aside0 (o = (EpL rs (i + 1)).1.length) := ⟨by rw [HN]; exact HO.out⟩
            have HR2 : Aside0 (SeenI wr w.heap.size (.slice B m cap) bl (epEnd (EpL rs (i + 1)))) := ⟨by rw [HN]; exact HSE.out⟩
            clear HN
            go_wp2
            go_roundw
            case rel => exact ⟨i + 1, m, o, cap, B, bl, by omega, by go_num, rfl, HR1, HMM, HR2, HBQ⟩
            case measure => simp [intOf]; omega
    · obtain rfl : i = n := by omega
      go_wp2
      go_ret
      have h := HSI.out
      rw [show i = rs.length from HL.out.symm, EpL_all] at h
      exact ⟨_, bl, rfl, h, HB.out⟩
end Go.Proofs.Ytpeiejkcoadhfaa
namespace Go.Proofs.Ytpeiejkcoadhfaa
open Go.RowKit Go.Shelf Go.Proofs.YtpeiejkcoadhfaaW.PrintWords Go.Proofs.YtpeiejkcoadhfaaW.PrintMore
open Go.BigFrame
set_option maxRecDepth 100000 in
set_option maxHeartbeats 1600000 in
theorem may2_any (w : World) (s b : Nat) (N T K E Rm : Int) (cur : List Int) (hP : w.heap[s]? = some (parCells N T K E Rm)) (hM : MapAt w b cur) :
    Calls Try.prog 101 #[.map (some b), .pointer (some ⟨s, 0, none⟩)] w fun e w' => e = .returned (.bool (!decide (((nd cur).length : Int) ≤ T))) ∧ Drawn0 w w' := by
  have hlen := fun ty => map_len hM ty
  unfold parCells at hP
  have p1 := cell_at hP (j := 1) (v := .int .i64 T) rfl
  have hu48 := Try.underlying48
  obtain ⟨m, hm⟩ : ∃ m, m = (nd cur).length := ⟨_, rfl⟩
  rw [← hm] at hlen ⊢
  clear hP hM hm
  have hl0 := hlen 3
  by_cases hc : (m : Int) ≤ T
  · rw [decide_eq_true hc]
    have hc' : ¬ T < (m : Int) := by omega
    go_enter Try.func101, Try.ntmps101
    go_wp2_with (at_builtin; refine wpList_len_run rfl _ _ rfl rfl hl0 ?_)
    go_ret
    exact ⟨rfl, ⟨0, rfl⟩⟩
  · rw [decide_eq_false hc]
    have hc' : T < (m : Int) := by omega
    go_enter Try.func101, Try.ntmps101
    go_wp2_with (at_builtin; refine wpList_len_run rfl _ _ rfl rfl hl0 ?_)
    go_ret
    exact ⟨rfl, ⟨0, rfl⟩⟩
theorem seen_at {w : World} {b : Nat} {v : Value} {bl : List Nat} {E : List (List Int)} (h : SeenI w b v bl E) : ∃ A c, v = .slice A E.length c ∧ E.length ≤ c ∧ ∀ j, j < E.length → ∃ ad m, A = some ad ∧ w.cell? (ad.add j) = some (.map (some m)) ∧ MapAt w m (E.getD j []) := by
  obtain ⟨h1, h2, h3, h4⟩ := h
  obtain ⟨A, c, rfl⟩ := Kd.R_slice h1
  rw [h2] at h1 ⊢
  have h5 := Kd.R_reads' h1
  refine ⟨A, c, rfl, by have := h5.2.1; omega, fun j hj => ?_⟩
  obtain ⟨g, rfl, _, _, _, hcell, _, _⟩ := R_at (d0 := (0 : Nat)) h1 j hj
  exact ⟨⟨g, 0, none⟩, _, rfl, by rw [add_g0]; exact hcell, (h3 j hj).2⟩
set_option maxRecDepth 100000 in
set_option maxHeartbeats 1600000 in
theorem idx128_any (w : World) (s b : Nat) (N T K E Rm : Int) (hP : w.heap[s]? = some (parCells N T K E Rm)) (v : Value) (bl : List Nat) (Es : List (List Int)) (hS : SeenI w b v bl Es) (hn : Es.length ≤ 9223372036854775807) :
    Calls Try.prog 128 #[v, .func (.func 101) #[] #[.pointer (some ⟨s, 0, none⟩)]] w fun e w' => (∃ i : Int, e = .returned (.int .i64 i) ∧ decide (0 ≤ i) = !decide (∀ c ∈ Es, ((nd c).length : Int) ≤ T)) ∧ Drawn0 w w' := by
  obtain ⟨A, c, rfl, _, hat⟩ := seen_at hS
  have HAT := Aside0.mk hat
  have HP := Aside0.mk hP
  obtain ⟨n, hnl⟩ : ∃ n, n = Es.length := ⟨_, rfl⟩
  have HL := Aside0.mk hnl
  obtain ⟨res, hres⟩ : ∃ res, res = decide (∀ c ∈ Es, ((nd c).length : Int) ≤ T) := ⟨_, rfl⟩
  have HRES := Aside0.mk hres
  rw [← hres]
  rw [← hnl] at hn HAT ⊢
  clear hS hat hP hnl hres
  go_enter Try.func128, Try.ntmps128
  go_wp2
  go_loopw [8] (fun v8 wr => ∃ (k t : Nat), k ≤ n ∧ v8 = .int .i64 k ∧ wr = w.drewN t ∧ Aside0 (∀ c ∈ Es.take k, ((nd c).length : Int) ≤ T)) (fun v8 _ => n - (intOf v8).toNat)
  case atStart => exact ⟨0, 0, by omega, rfl, rfl, ⟨fun r hr => by simp at hr⟩⟩
  case round =>
    obtain ⟨k, t, hk, rfl, rfl, HT⟩ := hrel
    by_cases hlt : k < n
    · obtain ⟨ad, m, rfl, hcell, hm⟩ := HAT.out k hlt
      have hlen : k < Es.length := by rw [← HL.out]; exact hlt
      obtain ⟨cur, hcur⟩ : ∃ cur, cur = Es.getD k [] := ⟨_, rfl⟩
      rw [← hcur] at hm
      have hmem : cur ∈ Es := by rw [hcur, List.getD_eq_getElem?_getD, List.getElem?_eq_getElem hlen]; exact List.getElem_mem hlen
      have HC := Aside0.mk (may2_any (w.drewN t) s m N T K E Rm cur HP.out (map_fr hm (S := fun _ => False) ((Fr.refl _ w).drewN t) (fun h => h)))
      have hjI : (k : Int) < (n : Int) := by omega
      by_cases hok : ((nd cur).length : Int) ≤ T
      · rw [decide_eq_true hok, Bool.not_true] at HC
        have HX : Aside0 (∀ c ∈ Es.take (k + 1), ((nd c).length : Int) ≤ T) := ⟨fun x hx => by
          rw [take_snoc [] Es k hlen, List.mem_append, List.mem_singleton] at hx
          rcases hx with e | e
          · exact HT.out x e
          · rw [e, ← hcur]; exact hok⟩
        clear hm hcur hmem hok
        go_wp2_with (go_at_call 101; with_reducible refine HC.out.mono ?_; rintro e w2 ⟨rfl, ⟨t2, rfl⟩⟩)
        go_roundw
        case rel => exact ⟨k + 1, _, by omega, by go_num, rfl, HX⟩
        case measure => simp [intOf]; omega
      · rw [decide_eq_false hok, Bool.not_false] at HC
        have HX : Aside0 (res = false) := ⟨by rw [HRES.out]; exact decide_eq_false (fun h => hok (h cur hmem))⟩
        clear hm hcur hmem hok
        go_wp2_with (go_at_call 101; with_reducible refine HC.out.mono ?_; rintro e w2 ⟨rfl, ⟨t2, rfl⟩⟩)
        go_ret
        exact ⟨⟨_, rfl, by rw [HX.out]; simp⟩, ⟨_, rfl⟩⟩
    · obtain rfl : k = n := by omega
      have HX : Aside0 (res = true) := ⟨by
        rw [HRES.out, decide_eq_true_iff]
        have h := HT.out
        rwa [List.take_of_length_le (by rw [← HL.out]; exact Nat.le_refl _)] at h⟩
      go_wp2
      go_ret
      exact ⟨⟨_, rfl, by rw [HX.out]; simp⟩, ⟨_, rfl⟩⟩
set_option maxRecDepth 100000 in
set_option maxHeartbeats 1600000 in
theorem cont99_any (w : World) (s b : Nat) (N T K E Rm : Int) (hP : w.heap[s]? = some (parCells N T K E Rm)) (v : Value) (bl : List Nat) (Es : List (List Int)) (hS : SeenI w b v bl Es) (hn : Es.length ≤ 9223372036854775807) :
    Calls Try.prog 99 #[v, .func (.func 101) #[] #[.pointer (some ⟨s, 0, none⟩)]] w fun e w' => e = .returned (.bool (!decide (∀ c ∈ Es, ((nd c).length : Int) ≤ T))) ∧ Drawn0 w w' := by
  have HI := Aside0.mk (idx128_any w s b N T K E Rm hP v bl Es hS hn)
  obtain ⟨res, hres⟩ : ∃ res, res = decide (∀ c ∈ Es, ((nd c).length : Int) ≤ T) := ⟨_, rfl⟩
  rw [← hres] at HI ⊢
  clear hP hS hres
  go_enter Try.func99, Try.ntmps99
  go_wp2_with (go_at_call 128; with_reducible refine HI.out.mono ?_; rintro e w1 ⟨⟨i, rfl, hi⟩, hb⟩)
  go_ret
  exact ⟨by rw [← hi]; rfl, hb⟩
theorem epochs_len (rs : List Ri) : (epochs rs).length ≤ rs.length + 1 := by
  rw [← EpL_all, epEnd, List.length_append]
  have := EpL_len rs rs.length (Nat.le_refl _)
  simp only [List.length_singleton]
  omega
set_option maxRecDepth 100000 in
set_option maxHeartbeats 3200000 in
theorem May_any (w : World) (N T K E Rm size : Int) (A : Option Addr) (n c : Nat) (rs : List Ri) (hR : RL w A n rs) (hn : n ≤ 9223372036854775807) (hsm : ∀ r ∈ rs, r.ds.length ≤ 9223372036854775807 ∧ r.sn.length ≤ 9223372036854775807) (hN : -9223372036854775808 ≤ N ∧ N ≤ 9223372036854775807) :
    Calls Try.prog 65 #[parV N T K E Rm, .int .i64 size, .slice A n c] w fun e w' => e = .returned (.bool (decide (MayP N T K E Rm size rs))) ∧ Below w.heap.size w w' := by
  have hnl := RL_len hR
  obtain ⟨res, hres⟩ : ∃ res, res = decide (MayP N T K E Rm size rs) := ⟨_, rfl⟩
  have HRES := Aside0.mk hres
  rw [← hres]
  obtain ⟨W0, hW0, hz0, a0, hb0⟩ := heap1 w (Obj.cells #[.int .i64 N, .int .i64 T, .int .i64 K, .int .i64 E, .int .i64 Rm] 48)
  have HG := Aside0.mk (Good_any W0 N T K E Rm hN)
  have HB0 := Aside0.mk hb0
  have HA0 := Aside0.mk a0
  have HR := Aside0.mk hR
  have HSM := Aside0.mk hsm
  have HNL := Aside0.mk hnl
  rw [hW0] at HG HB0 HA0
  have hu48 := Try.underlying48
  clear hres hR hsm hnl hW0 hz0 a0 hb0
  cases hg : goodB N T K E Rm with
  | false =>
    rw [hg] at HG
    have HX : Aside0 (res = false) := ⟨by rw [HRES.out]; exact decide_eq_false (fun h => of_decide_eq_false hg h.1)⟩
    clear hg
    unfold parV at *
    go_enter Try.func65, Try.ntmps65
    go_wp2_with (go_at_call 43; with_reducible refine HG.out.mono ?_; rintro e w1 ⟨rfl, hb1⟩; have HB1 := Aside0.mk (HB0.out.trans (hb1.mono HB0.out.size)); clear hb1)
    go_ret
    exact ⟨by rw [HX.out]; rfl, HB1.out⟩
  | true =>
    have hgd := good_true hg
    have hT : 1 ≤ T ∧ T ≤ 255 := ⟨hgd.2.2.1, hgd.2.2.2.1⟩
    have hN2 : 0 ≤ N ∧ N ≤ 255 := ⟨hgd.1, hgd.2.1⟩
    have HGD := Aside0.mk hgd
    rw [hg] at HG
    clear hg hgd
    unfold parV at *
    by_cases c1 : size < 0
    · have HX : Aside0 (res = false) := ⟨by rw [HRES.out]; exact decide_eq_false (fun h => by have := h.2.1; omega)⟩
      go_enter Try.func65, Try.ntmps65
      go_wp2_with (go_at_call 43; with_reducible refine HG.out.mono ?_; rintro e w1 ⟨rfl, hb1⟩; have HB1 := Aside0.mk (HB0.out.trans (hb1.mono HB0.out.size)); clear hb1)
      go_ret
      exact ⟨by rw [HX.out]; rfl, HB1.out⟩
    by_cases c2 : 256 < size
    · have c1' : 0 ≤ size := by omega
      have HX : Aside0 (res = false) := ⟨by rw [HRES.out]; exact decide_eq_false (fun h => by have := h.2.2.1; omega)⟩
      go_enter Try.func65, Try.ntmps65
      go_wp2_with (go_at_call 43; with_reducible refine HG.out.mono ?_; rintro e w1 ⟨rfl, hb1⟩; have HB1 := Aside0.mk (HB0.out.trans (hb1.mono HB0.out.size)); clear hb1)
      go_ret
      exact ⟨by rw [HX.out]; rfl, HB1.out⟩
    have c1' : 0 ≤ size := by omega
    have c2' : size ≤ 256 := by omega
    by_cases c3 : (1024 : Int) < (n : Int)
    · have HX : Aside0 (res = false) := ⟨by rw [HRES.out]; exact decide_eq_false (fun h => by have := h.2.2.2.1; rw [HNL.out] at this; omega)⟩
      go_enter Try.func65, Try.ntmps65
      go_wp2_with (go_at_call 43; with_reducible refine HG.out.mono ?_; rintro e w1 ⟨rfl, hb1⟩; have HB1 := Aside0.mk (HB0.out.trans (hb1.mono HB0.out.size)); clear hb1)
      go_ret
      exact ⟨by rw [HX.out]; rfl, HB1.out⟩
    have c3' : (n : Int) ≤ 1024 := by omega
    have HCF : Aside0 (∀ W, Below ((w.alloc (Obj.cells #[.int .i64 N, .int .i64 T, .int .i64 K, .int .i64 E, .int .i64 Rm] 48)).heap.size) (w.alloc (Obj.cells #[.int .i64 N, .int .i64 T, .int .i64 K, .int .i64 E, .int .i64 Rm] 48)) W → Calls Try.prog 96 #[.slice A n c, .func (.func 97) #[] #[.pointer (some ⟨w.heap.size, 0, none⟩)]] W fun e w' => e = .returned (.bool (!decide (∀ r ∈ rs, roundOk N T r))) ∧ Below W.heap.size W w') :=
      ⟨fun W hW => cont96_any W w.heap.size N T K E Rm (blk_below HA0.out hW) A n c rs (RL_below HR.out (HB0.out.trans (hW.mono HB0.out.size))) hn HSM.out hT⟩
    by_cases c4 : ∀ r ∈ rs, roundOk N T r
    · rw [decide_eq_true c4, Bool.not_true] at HCF
      have HSE := Aside0.mk (fun W (hW : Below w.heap.size w W) => seen_any W A n c rs (RL_below HR.out hW) (by omega) (fun r hr => by
        have h5 := (c4 r hr).2.2.2.2.2.1
        refine ⟨by have := ris_len h5; omega, fun x hx => by have := ris_mem h5 hx; omega⟩))
      have HEL : Aside0 ((epochs rs).length ≤ 9223372036854775807) := ⟨by have := epochs_len rs; rw [HNL.out] at this; omega⟩
      have HX : Aside0 (res = decide (∀ c ∈ epochs rs, ((nd c).length : Int) ≤ T)) := ⟨by
        rw [HRES.out, decide_eq_decide]
        exact ⟨fun h => h.2.2.2.2.2, fun h => ⟨HGD.out, c1', c2', by rw [HNL.out]; omega, c4, h⟩⟩⟩
      go_enter Try.func65, Try.ntmps65
      go_wp2_with (first
        | (go_at_call 43; with_reducible refine HG.out.mono ?_; rintro e w1 ⟨rfl, hb1⟩; have HB1 := Aside0.mk (HB0.out.trans (hb1.mono HB0.out.size)); have HM1 := Aside0.mk hb1; clear hb1)
        | (go_at_call 96; with_reducible refine (HCF.out _ HM1.out).mono ?_; rintro e w2 ⟨rfl, hb2⟩; have HB2 := Aside0.mk (HB1.out.trans (hb2.mono HB1.out.size)); have HM2 := Aside0.mk (HM1.out.trans (hb2.mono HM1.out.size)); clear hb2)
        | (go_at_call 100; with_reducible refine (HSE.out _ HB2.out).mono ?_; rintro e w3 ⟨v, bl, rfl, hS, hb3⟩; have HS3 := Aside0.mk hS; have HB3 := Aside0.mk (HB2.out.trans (hb3.mono HB2.out.size)); have HM3 := Aside0.mk (HM2.out.trans (hb3.mono HM2.out.size)); clear hb3 hS)
        | (go_at_call 99; with_reducible refine (cont99_any _ w.heap.size _ N T K E Rm (blk_below HA0.out HM3.out) v bl _ HS3.out HEL.out).mono ?_; rintro e w4 ⟨rfl, ⟨t4, rfl⟩⟩))
      go_ret
      exact ⟨by rw [HX.out]; rfl, pw_below_drewN HB3.out t4⟩
    · rw [decide_eq_false c4, Bool.not_false] at HCF
      have HX : Aside0 (res = false) := ⟨by rw [HRES.out]; exact decide_eq_false (fun h => c4 h.2.2.2.2.1)⟩
      go_enter Try.func65, Try.ntmps65
      go_wp2_with (first
        | (go_at_call 43; with_reducible refine HG.out.mono ?_; rintro e w1 ⟨rfl, hb1⟩; have HB1 := Aside0.mk (HB0.out.trans (hb1.mono HB0.out.size)); have HM1 := Aside0.mk hb1; clear hb1)
        | (go_at_call 96; with_reducible refine (HCF.out _ HM1.out).mono ?_; rintro e w2 ⟨rfl, hb2⟩; have HB2 := Aside0.mk (HB1.out.trans (hb2.mono HB1.out.size)); clear hb2))
      go_ret
      exact ⟨by rw [HX.out]; rfl, HB2.out⟩
end Go.Proofs.Ytpeiejkcoadhfaa
namespace Go.Proofs.Ytpeiejkcoadhfaa
open Go.RowKit Go.Shelf Go.Proofs.YtpeiejkcoadhfaaW.PrintWords Go.Proofs.YtpeiejkcoadhfaaW.PrintMore
open Go.BigFrame
theorem R_pushes2 {P : Program} {α : Type} (enc : α → Value) (d0 : α) {h1 : ∀ x, (enc x).oneCell' = true} (wr w : World) (t e : TypeId) (z : Value) (bytes : Nat) (ht : P.underlying t = some (.slice e))
    (hinfo : (P.info? e).map (fun i => (i.zero, i.size, i.bytes)) = some (some z, 1, bytes)) (hzs : z.cells.size = 1) {A : Option Addr} {k c : Nat} {xs : List α} (h : Kd.R (Kd.scalar enc h1) e wr w.heap.size (fun _ => True) (.slice A k c) xs) (hb : Below w.heap.size w wr) (x : α) (ys : List α) (hys : ys = xs ++ [x])
    (hn : (k + 1) * bytes ≤ 140737488355328) (hb0 : 0 < bytes) : Aside0 (∀ W, Below wr.heap.size wr W →
    ∃ B d W', (Builtin.append_ #[t, t] t #[.slice A k c, .slice (some ⟨W.heap.size, 0, none⟩) 1 1]).run P (W.alloc (.cells #[enc x] e)) = .ok (.slice B (k + 1) d) W' ∧ Aside0 (Kd.R (Kd.scalar enc h1) e W' w.heap.size (fun _ => True) (.slice B (k + 1) d) ys) ∧ Aside0 (Below w.heap.size w W') ∧ Aside0 (∀ (g : Nat) (cs : Array Value) (q : TypeId), q ≠ e → wr.heap[g]? = some (Obj.cells cs q (0, 0)) → W'.heap[g]? = some (Obj.cells cs q (0, 0)))) := ⟨fun W hW => by
  subst hys
  have hk : k = xs.length := (Kd.Q_reads' (Kd.Q_of_R h)).1
  subst hk
  obtain ⟨B, d, W', e1, e2, e3, e4⟩ := R_push' (P := P) enc d0 (h1 := h1) W w t e z bytes ht hinfo hzs (R_fr h (Fr.of_below hW (fun _ => False)) (fun _ _ _ _ h => h)) (hb.trans (hW.mono hb.size)) x hn hb0
  refine ⟨B, d, W', e1, ⟨e2⟩, ⟨e3⟩, ⟨fun g cs q hq hg => ?_⟩⟩
  refine e4.blk (blk_below hg hW) (fun hS => ?_)
  obtain ⟨cells, hc⟩ := Kd.R_typed h g (ob_own hS)
  rw [hg] at hc
  injection hc with hc
  injection hc with _ hc
  exact hq hc⟩
def tapesTo (T K cols : Nat) (rs : List Ri) (i : Nat) : List Int := tapesL T K cols (rs.take i)
theorem tapesTo_zero (T K cols : Nat) (rs : List Ri) : tapesTo T K cols rs 0 = [((T * cols : Nat) : Int)] := rfl
def laidE (T K cols : Nat) (r : Ri) (j : Nat) : List Int := List.replicate j ((eachN T K r.kind * cols : Nat) : Int)
theorem tapesTo_succ (T K cols : Nat) (rs : List Ri) (i : Nat) (h : i < rs.length) : tapesTo T K cols rs (i + 1) = tapesTo T K cols rs i ++ laidE T K cols (rs.getD i ri0) (rs.getD i ri0).ds.length := by
  unfold tapesTo tapesL laidE
  rw [take_snoc ri0 rs i h, List.flatMap_append]
  simp only [List.flatMap_cons, List.flatMap_nil, List.append_nil, List.cons_append]
  congr 2
  rw [List.eq_replicate_iff]
  exact ⟨by simp, fun b hb => by obtain ⟨_, _, rfl⟩ := List.mem_map.1 hb; rfl⟩
theorem tapesTo_all (T K cols : Nat) (rs : List Ri) (n : Nat) (h : rs.length = n) : tapesTo T K cols rs n = tapesL T K cols rs := by unfold tapesTo; rw [List.take_of_length_le (by omega)]
theorem laidE_succ (T K cols : Nat) (r : Ri) (j : Nat) : laidE T K cols r (j + 1) = laidE T K cols r j ++ [((eachN T K r.kind * cols : Nat) : Int)] := by unfold laidE; rw [List.replicate_succ']
theorem tapesTo_len (T K cols : Nat) (rs : List Ri) (m : Nat) (hm : ∀ r ∈ rs, r.ds.length ≤ m) : ∀ i, i ≤ rs.length → (tapesTo T K cols rs i).length ≤ 1 + i * m
  | 0, _ => by rw [tapesTo_zero]; simp
  | i + 1, h => by
    rw [tapesTo_succ _ _ _ _ _ h, List.length_append]
    have h1 := tapesTo_len T K cols rs m hm i (by omega)
    have h2 : (rs.getD i ri0).ds.length ≤ m := hm _ (by rw [List.getD_eq_getElem?_getD, List.getElem?_eq_getElem h]; exact List.getElem_mem h)
    have h3 : (i + 1) * m = i * m + m := by rw [Nat.add_mul, Nat.one_mul]
    unfold laidE
    rw [List.length_replicate]
    omega
def wantL (N T K E Rm size : Int) (rs : List Ri) : List Int := if MayP N T K E Rm size rs then tapesL T.toNat K.toNat (ncol size.toNat K.toNat) rs else []
set_option maxRecDepth 100000 in
set_option maxHeartbeats 3200000 in
theorem Tapes_any (w : World) (N T K E Rm size : Int) (A : Option Addr) (n c : Nat) (rs : List Ri) (hR : RL w A n rs) (hn : n ≤ 9223372036854775807) (hsm : ∀ r ∈ rs, r.ds.length ≤ 9223372036854775807 ∧ r.sn.length ≤ 9223372036854775807) (hN : -9223372036854775808 ≤ N ∧ N ≤ 9223372036854775807) :
    Calls Try.prog 68 #[parV N T K E Rm, .int .i64 size, .slice A n c] w fun e w' => ∃ B d, e = .returned (.slice B (wantL N T K E Rm size rs).length d) ∧ Kd.R kz 3 w' w.heap.size (fun _ => True) (.slice B (wantL N T K E Rm size rs).length d) (wantL N T K E Rm size rs) ∧ Below w.heap.size w w' := by
  obtain ⟨W0, hW0, hz0, a0, hb0⟩ := heap1 w (Obj.cells #[.int .i64 N, .int .i64 T, .int .i64 K, .int .i64 E, .int .i64 Rm] 48)
  have HMA := Aside0.mk (May_any W0 N T K E Rm size A n c rs (RL_below hR hb0) hn hsm hN)
  have HB0 := Aside0.mk hb0
  have HA0 := Aside0.mk a0
  have HR := Aside0.mk hR
  have HNL := Aside0.mk (RL_len hR)
  have p0 := cell_at a0 (j := 0) (v := .int .i64 N) rfl
  rw [hW0] at HMA HB0 HA0
  have hu48 := Try.underlying48
  have hu90 := Try.underlying90
  by_cases hmay : MayP N T K E Rm size rs
  · have hwl : wantL N T K E Rm size rs = tapesL T.toNat K.toNat (ncol size.toNat K.toNat) rs := by unfold wantL; rw [if_pos hmay]
    rw [decide_eq_true hmay] at HMA
    obtain ⟨nN, nT, nK, rfl, rfl, rfl, g1, g2, g3, g4, g5, g6, g7⟩ := gd_nat2 hmay.1
    obtain ⟨sz, rfl⟩ : ∃ sz : Nat, size = sz := ⟨size.toNat, by have := hmay.2.1; omega⟩
    have hszl : sz ≤ 256 := by have := hmay.2.2.1; omega
    have hnn : n ≤ 1024 := by have := hmay.2.2.2.1; rw [HNL.out] at this; exact this
    have HRO := Aside0.mk hmay.2.2.2.2.1
    simp only [Int.toNat_natCast] at hwl
    obtain ⟨ts, hts⟩ : ∃ ts, ts = wantL nN nT nK E Rm sz rs := ⟨_, rfl⟩
    rw [← hts] at hwl ⊢
    have HTS := Aside0.mk hwl
    have HCO := Aside0.mk (fun W => Columns_yes W sz nK (by omega) (by omega))
    obtain ⟨cols, hcols⟩ : ∃ cols, cols = ncol sz nK := ⟨_, rfl⟩
    rw [← hcols] at HCO HTS
    have hcl : cols ≤ 256 := by rw [hcols]; exact Nat.le_trans (ncol_le sz nK g4) hszl
    have HNE := Aside0.mk (fun W (kind : Int) => Need_any W nN nT nK E Rm kind cols (by omega) (by omega) (by omega) (by omega))
    have HEL := Aside0.mk (fun kind => eachN_le nT nK kind (by omega) (by omega))
    have e1 : eachN nT nK 1 = nT := by unfold eachN; rw [if_pos (.inl rfl)]
    have HN1 := Aside0.mk (fun W => HNE.out W 1)
    rw [e1] at HN1
    obtain ⟨q1, hq1⟩ : ∃ q1, q1 = nT * cols := ⟨_, rfl⟩
    rw [← hq1] at HN1
    have HQ1 := Aside0.mk hq1
    have HG : Aside0 (∀ W, Below (w.alloc (Obj.cells #[.int .i64 nN, .int .i64 nT, .int .i64 nK, .int .i64 E, .int .i64 Rm] 48)).heap.size (w.alloc (Obj.cells #[.int .i64 nN, .int .i64 nT, .int .i64 nK, .int .i64 E, .int .i64 Rm] 48)) W → W.cell? ⟨w.heap.size, 0, none⟩ = some (.int .i64 nN) ∧ W.cell? ⟨w.heap.size, 1, none⟩ = some (.int .i64 nT) ∧ W.cell? ⟨w.heap.size, 2, none⟩ = some (.int .i64 nK) ∧ W.cell? ⟨w.heap.size, 3, none⟩ = some (.int .i64 E) ∧ W.cell? ⟨w.heap.size, 4, none⟩ = some (.int .i64 Rm)) := ⟨fun W hW => by
      have h0 := blk_below HA0.out hW
      exact ⟨cell_at h0 rfl, cell_at h0 rfl, cell_at h0 rfl, cell_at h0 rfl, cell_at h0 rfl⟩⟩
    have HB0' : Aside0 (Below w.heap.size w (w.alloc (Obj.cells #[.int .i64 nN, .int .i64 nT, .int .i64 nK, .int .i64 E, .int .i64 Rm] 48)) ∧ (w.alloc (Obj.cells #[.int .i64 nN, .int .i64 nT, .int .i64 nK, .int .i64 E, .int .i64 Rm] 48)).heap.size = w.heap.size + 1) := ⟨HB0.out, by simp⟩
    clear hmay hwl hts p0 hW0 hz0 a0 hb0 hcols e1 HB0 hR hsm hq1
    unfold parV at *
    go_enter Try.func68, Try.ntmps68
    go_wp2_with (first
      | (go_at_call 65; with_reducible refine HMA.out.mono ?_; rintro e w1 ⟨rfl, hb1⟩; obtain ⟨p0, p1, p2, p3, p4⟩ := HG.out w1 hb1; have HM1 := Aside0.mk hb1; clear hb1)
      | (go_at_call 38; with_reducible refine (HCO.out _).mono ?_; rintro e w2 ⟨rfl, rfl⟩)
      | (go_at_call 49; with_reducible refine (HN1.out _).mono ?_; rintro e w3 ⟨rfl, hb3⟩; have HM3 := Aside0.mk (HM1.out.trans (hb3.mono HM1.out.size)); clear hb3))
    have hlit : Kd.R kz 3 (w3.alloc (Obj.cells #[.int .i64 (q1 : Int)] 3)) w.heap.size (fun _ => True) (.slice (some ⟨w3.heap.size, 0, none⟩) 1 1) (tapesTo nT nK cols rs 0) := by
      rw [tapesTo_zero, ← HQ1.out]
      exact Kd.R_of_own (own_lit_of (enc := Value.int .i64) w3 w.heap.size 3 [(q1 : Int)] (by have := HM3.out.size; have := HB0'.out.2; omega) (by simp)) (fun _ _ => trivial)
    have HM4 : Aside0 (Below (w.alloc (Obj.cells #[.int .i64 nN, .int .i64 nT, .int .i64 nK, .int .i64 E, .int .i64 Rm] 48)).heap.size (w.alloc (Obj.cells #[.int .i64 nN, .int .i64 nT, .int .i64 nK, .int .i64 E, .int .i64 Rm] 48)) (w3.alloc (Obj.cells #[.int .i64 (q1 : Int)] 3))) := ⟨below_alloc HM3.out _⟩
    have HLIT := Aside0.mk hlit
    obtain ⟨W4, hW4⟩ : ∃ W4, W4 = w3.alloc (Obj.cells #[.int .i64 (q1 : Int)] 3) := ⟨_, rfl⟩
    rw [← hW4] at HLIT HM4 ⊢
    have HPB : Aside0 (W4.heap[w.heap.size]? = some (parCells nN nT nK E Rm)) := ⟨blk_below HA0.out HM4.out⟩
    have HBB : Aside0 (Below w.heap.size w W4) := ⟨HB0'.out.1.trans (HM4.out.mono HB0'.out.1.size)⟩
    clear hlit hW4 HM1 HM3 p0 p1 p2 p3 p4 HMA HN1 HCO HM4 HG HA0 HB0'
    go_loopw [8, 26] (fun v8 v26 wr => ∃ (i m cap : Nat) (B : Option Addr), i ≤ n ∧ v26 = .int .i64 i ∧ v8 = .slice B m cap ∧ Aside0 (m = (tapesTo nT nK cols rs i).length) ∧ Aside0 (Kd.R kz 3 wr w.heap.size (fun _ => True) (.slice B m cap) (tapesTo nT nK cols rs i)) ∧ Aside0 (wr.heap[w.heap.size]? = some (parCells nN nT nK E Rm)) ∧ Aside0 (Below w.heap.size w wr)) (fun _ v26 _ => n - (intOf v26).toNat)
    case atStart => exact ⟨0, 1, 1, _, by omega, rfl, rfl, ⟨rfl⟩, HLIT, HPB, HBB⟩
    case round =>
      clear HLIT HPB HBB
      obtain ⟨i, m, cap, B, hi, rfl, rfl, HMM, HRW, HPB, HB⟩ := hrel
      by_cases hlt : i < n
      · obtain ⟨r, ad, D, S, ndd, cd, ns, cs, hr, rfl, h0, h1, h2, h3, l1, _, hD, l2, _, hS⟩ := RL_at HR.out i hlt
        have hbw := HB.out
        have hlen : i < rs.length := by rw [HNL.out]; exact hlt
        have hmem : r ∈ rs := by rw [hr, List.getD_eq_getElem?_getD, List.getElem?_eq_getElem hlen]; exact List.getElem_mem hlen
        have hrk := HRO.out r hmem
        have hnd2 : ndd ≤ 256 := by
          have h5 := ris_len hrk.2.2.2.2.1
          omega
        have HNX := Aside0.mk (tapesTo_succ nT nK cols rs i hlen)
        rw [← hr, l1] at HNX
        have hml : m ≤ 1 + 1024 * 256 := by
          have h5 := tapesTo_len nT nK cols rs 256 (fun x hx => by have := ris_len (HRO.out x hx).2.2.2.2.1; omega) i (by omega)
          rw [HMM.out]
          have : i * 256 ≤ 1024 * 256 := Nat.mul_le_mul_right 256 (by omega)
          omega
        have hc0 := (Fr.of_below hbw (fun _ => False)).cell h0 (fun h => h)
        have hc1 := (Fr.of_below hbw (fun _ => False)).cell h1 (fun h => h)
        have hc2 := (Fr.of_below hbw (fun _ => False)).cell h2 (fun h => h)
        have hc3 := (Fr.of_below hbw (fun _ => False)).cell h3 (fun h => h)
        have HNK := Aside0.mk (fun W => HNE.out W r.kind)
        obtain ⟨qk, hqk⟩ : ∃ qk, qk = eachN nT nK r.kind * cols := ⟨_, rfl⟩
        rw [← hqk] at HNK
        have HQK := Aside0.mk hqk
        obtain ⟨kind, target, ds, sn⟩ := r
        simp only at hc0 hc1 HNK HQK
        obtain ⟨lx, hlx⟩ : ∃ lx, lx = laidE nT nK cols ⟨kind, target, ds, sn⟩ := ⟨_, rfl⟩
        have HLX : Aside0 (lx 0 = [] ∧ ∀ j, lx (j + 1) = lx j ++ [(qk : Int)] ∧ (lx j).length = j) := ⟨by
          rw [hlx]
          refine ⟨rfl, fun j => ⟨?_, by simp [laidE]⟩⟩
          rw [laidE_succ]
          simp only [HQK.out]⟩
        rw [← hlx] at HNX
        obtain ⟨tl, htl⟩ : ∃ tl, tl = tapesTo nT nK cols rs i := ⟨_, rfl⟩
        rw [← htl] at HNX HRW HMM
        obtain ⟨W2, hW2, hz2, hg2, hb2⟩ := heap1 wr (.cells #[.int .i64 kind, .int .i64 target, .slice D ndd cd, .slice S ns cs] 90)
        have HRW2 : Aside0 (Kd.R kz 3 W2 w.heap.size (fun _ => True) (.slice B m cap) (tl ++ lx 0)) := ⟨by
          rw [HLX.out.1, List.append_nil]
          exact R_fr HRW.out (Fr.of_below hb2 (fun _ => False)) (fun _ _ _ _ h => h)⟩
        have HB2 : Aside0 (Below w.heap.size w W2) := ⟨HB.out.trans (hb2.mono HB.out.size)⟩
        have HG2 : Aside0 (W2.heap[wr.heap.size]? = some (.cells #[.int .i64 kind, .int .i64 target, .slice D ndd cd, .slice S ns cs] 90 (0, 0)) ∧ W2.heap[w.heap.size]? = some (parCells nN nT nK E Rm)) := ⟨hg2, blk_below HPB.out hb2⟩
        have HW2 := Aside0.mk hW2
        have hjI : (i : Int) < (n : Int) := by omega
        clear h0 h1 h2 h3 l1 l2 hD hS hr hmem hrk hqk hlx htl hW2 hz2 hg2 hb2 hbw HRW HB HPB
        go_wp2
        rw [← HW2.out]
        obtain ⟨g, hg⟩ : ∃ g, g = wr.heap.size := ⟨_, rfl⟩
        rw [← hg] at HG2 ⊢
        clear hg HW2
        go_loopw [8, 33] (fun v8 v33 wq => ∃ (j cap : Nat) (B : Option Addr), j ≤ ndd ∧ v33 = .int .i64 j ∧ v8 = .slice B (m + j) cap ∧ Aside0 (Kd.R kz 3 wq w.heap.size (fun _ => True) (.slice B (m + j) cap) (tl ++ lx j)) ∧ Aside0 (wq.heap[g]? = some (.cells #[.int .i64 kind, .int .i64 target, .slice D ndd cd, .slice S ns cs] 90 (0, 0)) ∧ wq.heap[w.heap.size]? = some (parCells nN nT nK E Rm)) ∧ Aside0 (Below w.heap.size w wq)) (fun _ v33 _ => ndd - (intOf v33).toNat)
        case atStart => exact ⟨0, cap, B, by omega, rfl, rfl, HRW2, HG2, HB2⟩
        case round =>
          clear HRW2 HG2 HB2
          obtain ⟨j, cap, B, hj, rfl, rfl, HRJ, HGJ, HBJ⟩ := hrel
          by_cases hjn : j < ndd
          · have hpb := HGJ.out.2
            unfold parCells at hpb
            have p0 := cell_at hpb (j := 0) (v := .int .i64 nN) rfl
            have p1 := cell_at hpb (j := 1) (v := .int .i64 nT) rfl
            have p2 := cell_at hpb (j := 2) (v := .int .i64 nK) rfl
            have p3 := cell_at hpb (j := 3) (v := .int .i64 E) rfl
            have p4 := cell_at hpb (j := 4) (v := .int .i64 Rm) rfl
            have q0 := cell_at HGJ.out.1 (j := 0) (v := .int .i64 kind) rfl
            have HPU := R_pushes2 (P := Try.prog) (Value.int .i64) (0 : Int) (h1 := fun _ => rfl) wr w 50 3 (.int .i64 0) 8 Try.underlying50 info3' rfl HRJ.out HBJ.out (qk : Int) (tl ++ lx (j + 1)) (by rw [(HLX.out.2 j).1, List.append_assoc]) (by omega) (by omega)
            have hjJ : (j : Int) < (ndd : Int) := by omega
            clear hpb
            go_wp2_with (first
              | (go_at_call 49; with_reducible refine (HNK.out _).mono ?_; rintro e W1 ⟨rfl, hd⟩; obtain ⟨B', d', W', hX, HR', HB', HK'⟩ := HPU.out W1 hd; replace hX := Aside0.mk hX; have HBK : Aside0 (W'.heap[g]? = some (.cells #[.int .i64 kind, .int .i64 target, .slice D ndd cd, .slice S ns cs] 90 (0, 0)) ∧ W'.heap[w.heap.size]? = some (parCells nN nT nK E Rm)) := ⟨HK'.out _ _ _ (by decide) HGJ.out.1, HK'.out _ _ _ (by decide) HGJ.out.2⟩; clear hd HK')
              | (at_builtin; refine wpList_append_run rfl _ _ _ _ rfl rfl rfl hX.out ?_))
            go_roundw
            case rel => exact ⟨j + 1, d', B', by omega, by go_num, rfl, HR', HBK, HB'⟩
            case measure => simp [intOf]; omega
          · obtain rfl : j = ndd := by omega
            have HR1 : Aside0 (m + j = (tapesTo nT nK cols rs (i + 1)).length) := ⟨by rw [HNX.out, List.length_append, (HLX.out.2 j).2, ← HMM.out]⟩
            have HR2 : Aside0 (Kd.R kz 3 wr w.heap.size (fun _ => True) (.slice B (m + j) cap) (tapesTo nT nK cols rs (i + 1))) := ⟨by rw [HNX.out]; exact HRJ.out⟩
            have HR3 : Aside0 (wr.heap[w.heap.size]? = some (parCells nN nT nK E Rm)) := ⟨HGJ.out.2⟩
            go_wp2
            go_roundw
            case rel => exact ⟨i + 1, m + j, cap, B, by omega, by go_num, rfl, HR1, HR2, HR3, HBJ⟩
            case measure => simp [intOf]; omega
      · obtain rfl : i = n := by omega
        go_wp2
        go_ret
        have h := HRW.out
        have hm := HMM.out
        rw [tapesTo_all nT nK cols rs i HNL.out, ← HTS.out] at h hm
        rw [hm] at h ⊢
        exact ⟨B, cap, rfl, h, HB.out⟩
  · have hwl : wantL N T K E Rm size rs = [] := by unfold wantL; rw [if_neg hmay]
    rw [decide_eq_false hmay] at HMA
    rw [hwl]
    clear hmay hwl HNL HR p0 hW0 hz0 a0 hb0
    unfold parV at *
    go_enter Try.func68, Try.ntmps68
    go_wp2_with (go_at_call 65; with_reducible refine HMA.out.mono ?_; rintro e w1 ⟨rfl, hb1⟩; have HB1 := Aside0.mk (HB0.out.trans (hb1.mono HB0.out.size)); clear hb1)
    go_ret
    exact ⟨_, _, rfl, Kd.R_nil _ _ _ _ _, HB1.out⟩
end Go.Proofs.Ytpeiejkcoadhfaa
