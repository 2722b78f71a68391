/- The law DealNothing, walked. -/
import Derived.Test.YtpeiejkcoadhfaaDlG
set_option linter.all false
namespace Go.Proofs.Ytpeiejkcoadhfaa
open Go.RowKit Go.Shelf Go.Proofs.YtpeiejkcoadhfaaW.PrintWords Go.Proofs.YtpeiejkcoadhfaaW.PrintMore
open Go.BigFrame
attribute [local go_sem] Oper.semAt_some

/-- A row, appended to a row of one's own. -/
theorem append_row (W : World) (base : Nat) (A B : Option Addr) (n c m d : Nat) (xs ys : List F) (hR : Kd.R fk 5 W base (fun _ => True) (.slice A n c) xs) (hb : base ≤ W.heap.size) (hC : Kd.C fk W B m ys) (hn : n + m ≤ 1000000) :
    ∃ A' c' W', (Builtin.append_ #[36, 36] 36 #[.slice A n c, .slice B m d]).run Try.prog W = .ok (.slice A' (n + m) c') W' ∧ Kd.R fk 5 W' base (fun _ => True) (.slice A' (n + m) c') (xs ++ ys) ∧ Fr (fun k => OB A k) W W' := by
  have hn' : n = xs.length := (Kd.R_reads' hR).1
  subst hn'
  obtain rfl : ys.length = m := Kd.C_len hC
  obtain ⟨v', W', hrun, hq, hg, _⟩ := R_append_row (P := Try.prog) encF (0 : F) W base 36 36 5 _ 1 Try.underlying36 info5 rfl (ys := ys) (c := d) hR hC (by omega) (by omega) hb (fun _ _ => trivial)
  obtain ⟨A', c', rfl⟩ := Kd.R_slice hq
  rw [List.length_append] at hrun hq
  exact ⟨A', c', W', hrun, hq, Fr.of_grown hg (fun k hk => .inl (own_ob hk))⟩
/-- A slice's length. -/
def lenOf : Value → Nat
  | .slice _ n _ => n
  | _ => 0

set_option maxRecDepth 100000 in
set_option maxHeartbeats 6400000 in
theorem nothing_law (w : World) (cs : Array Value) (p : Par) (hK : kpar.K w p cs.toList) (hw : wfPar p) (A : Option Addr) (n c : Nat) (la : List Int) (hla : la.length = n) (hCa : Kd.C u8 w A n la) (hc : n ≤ c) (hwa : ∀ a ∈ la, (Lit.int .u8 a).wf = true)
    (B : Option Addr) (m d : Nat) (lb : List Int) (hlb : lb.length = m) (hCb : Kd.C u8 w B m lb) (hd : m ≤ d) (hwb : ∀ a ∈ lb, (Lit.int .u8 a).wf = true)
    (R : Option Addr) (r rc : Nat) (lr : List Int) (hlr : lr.length = r) (hCr : Kd.C u8 w R r lr) (hrc : r ≤ rc) (hwr : ∀ a ∈ lr, (Lit.int .u8 a).wf = true) (seen : Int) (hse : (Lit.int .u8 seen).wf = true) :
    Calls Try.prog 17 #[.agg cs, .slice A n c, .slice B m d, .slice R r rc, .int .u8 seen] w fun e w' => e = .returned (.bool true) ∧ Below w.heap.size w w' := by
  rw [par_cs hK]
  obtain ⟨N, T, K, E, Rm⟩ := p
  have hNb := i64_bd hw.1
  obtain ⟨data, rfl⟩ := bytes_F la hwa
  obtain ⟨other, rfl⟩ := bytes_F lb hwb
  obtain ⟨rnd, rfl⟩ := bytes_F lr hwr
  obtain ⟨sn, rfl, hsn⟩ := u8_nt hse
  have ha := C_bs.1 hCa
  have hb := C_bs.1 hCb
  have hr := C_bs.1 hCr
  have HGR := Aside0.mk (fun W => RGood_any W N T K E Rm hNb)
  have HAN := Aside0.mk answers10
  have hma := Kd.C_max ha
  have hmb := Kd.C_max hb
  clear hCa hCb hCr hwa hwb hwr hla hlb hlr hw hK hse
  have hu48 := Try.underlying48
  by_cases hg : goodB N T K E Rm = true
  · obtain ⟨N, T, K, rfl, rfl, rfl, hn, ht1, ht, hk1, hk, hnk, htk⟩ := gd_nat (good_true hg)
    rw [hg] at HGR
    obtain ⟨w0, hw0, hz0, a0, hb0⟩ := heap1 w (Obj.cells #[.int .i64 N, .int .i64 T, .int .i64 K, .int .i64 E, .int .i64 Rm] 48)
    obtain ⟨s, hs⟩ : ∃ s, s = w.heap.size := ⟨_, rfl⟩
    rw [← hs] at a0
    have HG : Aside0 (∀ W, Fr (fun _ => False) w0 W → W.cell? ⟨s, 0, none⟩ = some (.int .i64 N) ∧ W.cell? ⟨s, 1, none⟩ = some (.int .i64 T) ∧ W.cell? ⟨s, 2, none⟩ = some (.int .i64 K) ∧ W.cell? ⟨s, 3, none⟩ = some (.int .i64 E) ∧ W.cell? ⟨s, 4, none⟩ = some (.int .i64 Rm)) :=
      ⟨fun W hW => by
        have h1 := hW.blk a0 (fun h => h)
        exact ⟨cell_at h1 rfl, cell_at h1 rfl, cell_at h1 rfl, cell_at h1 rfl, cell_at h1 rfl⟩⟩
    have HB : Aside0 (∀ W, Fr (fun _ => False) w0 W → Below w.heap.size w W) := ⟨fun W hW => hb0.trans (hW.f_below.mono hb0.size)⟩
    have HS := Aside0.mk hs
    have HW0 := Aside0.mk hw0
    by_cases hsm : n = m ∧ n ≤ 30 ∧ N ≤ 30
    · obtain ⟨rfl, hn30, hN30⟩ := hsm
      have HNW := Aside0.mk (fun W => New_any W)
      have hdl := Kd.C_len ha
      have hol := Kd.C_len hb
      have hncl := ncol_le n K hk1
      obtain ⟨fr, hfr, hfrl⟩ : ∃ fr : Nat, (sn : Int) % ((N : Int) - (T : Int) + 1) = (fr : Int) ∧ fr + T ≤ N := by
        have h1 : (N : Int) - (T : Int) + 1 = ((N - T + 1 : Nat) : Int) := by omega
        have h2 := Nat.mod_lt sn (show 0 < N - T + 1 by omega)
        exact ⟨sn % (N - T + 1), by rw [h1]; omega, by omega⟩
      obtain ⟨nc, hnc⟩ : ∃ nc, nc = ncol n K := ⟨_, rfl⟩
      rw [← hnc] at hncl
      obtain ⟨L, hL⟩ : ∃ L, L = noL N T K fr data rnd other := ⟨_, rfl⟩
      obtain ⟨Q, hQ⟩ : ∃ Q, Q = noQ N T K fr data rnd other := ⟨_, rfl⟩
      obtain ⟨ff, hff⟩ : ∃ ff, ff = noF N T K data rnd other := ⟨_, rfl⟩
      obtain ⟨xs, hxs⟩ : ∃ xs, xs = secL N K := ⟨_, rfl⟩
      obtain ⟨zs, hzs⟩ : ∃ zs, zs = roots xs := ⟨_, rfl⟩
      obtain ⟨cp, hcp⟩ : ∃ cp, cp = colP N T K data rnd := ⟨_, rfl⟩
      obtain ⟨pl, hpl⟩ : ∃ pl, pl = fun j => thruP xs (colF other K j) := ⟨_, rfl⟩
      have HSH2 := Aside0.mk (fun W g (G : Option Addr) (gl gc : Nat) (hgl : gl = nc * T) (hW : Fr (fun _ => False) w0 W) (hF : Fld W g) (hC : Kd.C fk W G gl (noL N T K fr data rnd other nc)) (hcp : gl ≤ gc) => share_yes W g N T K E Rm B G n d gl gc other (noL N T K fr data rnd other nc) hF (Kd.C_below hb (HB.out W hW)) hC hd hcp (by omega) (by omega) (by omega) hk hk1 hnk (by rw [hgl, hnc, Nat.mul_comm]))
      have HEQ : Aside0 (∀ h, fr ≤ h → h < fr + T → (sharesL N (polysL N T K other (noL N T K fr data rnd other nc))).getD h [] = (sharesL N (polysL N T K data rnd)).getD h []) := ⟨fun h h1 h2 => no_row N T K fr data rnd other (by omega) nc (by rw [hdl]; exact hnc) h h1 h2 hfrl hnk⟩
      have HLL : Aside0 (∀ j, (L j).length = j * T) := ⟨fun j => by rw [hL]; exact noL_length N T K fr data rnd other j⟩
      have HLS : Aside0 (∀ j, L (j + 1) = L j ++ padL (Q j) T) := ⟨fun j => by rw [hL, hQ]; exact noL_snoc N T K fr data rnd other j⟩
      have HL0 : Aside0 (L 0 = []) := ⟨by rw [hL]; rfl⟩
      have HQL : Aside0 (∀ j, (Q j).length ≤ T) := ⟨fun j => by rw [hQ]; exact noQ_len N T K fr data rnd other j⟩
      have HQT : Aside0 (∀ j t, Thru (ptsL fr T) (funL (ff j) fr T) t → t = Q j) := ⟨fun j t h => by rw [hQ]; rw [hff] at h; exact (thruP_eq (ptsL_unl fr T (by omega)) h).symm⟩
      have HFF : Aside0 (∀ j x, ff j x = (ev (cp j) x + ev (pl j) x) * (ev zs x).inv) := ⟨fun j x => by rw [hff, hcp, hpl, hzs, hxs]; rfl⟩
      have HZN : Aside0 (∀ h, h < N → ev zs (ptF h) ≠ 0) := ⟨fun h hh => by rw [hzs, hxs]; exact sec_ne N K h hh hnk⟩
      have HPT : Aside0 (∀ j t, Thru xs (colF other K j) t → t = pl j) := ⟨fun j t h => by rw [hpl]; exact (thruP_eq (by rw [hxs]; exact secL_unl N K hnk) h).symm⟩
      have HPLL : Aside0 (∀ j, (pl j).length ≤ K) := ⟨fun j => by
        have h := thruP_len xs (colF other K j)
        rw [hxs, secL_length] at h
        rw [hpl, hxs]; exact h⟩
      have HXU : Aside0 (Unl xs) := ⟨by rw [hxs]; exact secL_unl N K hnk⟩
      have HSP := Aside0.mk (fun W (hW : Fr (fun _ => False) w0 W) => RSplitL_any W B n d K other (Kd.C_below hb (HB.out W hW)) hd hk1 hk (by omega))
      have HPG : Aside0 (∀ j, j < nc → (polysL N T K data rnd).getD j [] = cp j) := ⟨fun j hj => by rw [hcp]; exact polysL_get N T K data rnd j (by rw [hdl, ← hnc]; exact hj)⟩
      have HPL : Aside0 ((polysL N T K data rnd).length = nc) := ⟨by rw [polysL_length, hdl, ← hnc]⟩
      have HPL2 : Aside0 ((polysL N T K other (noL N T K fr data rnd other nc)).length = nc) := ⟨by rw [polysL_length, hol, ← hnc]⟩
      have HSG : Aside0 (∀ j, j < nc → (splitL (bs other) K).getD j [] = bs (colF other K j)) := ⟨fun j hj => by
        rw [List.getD_eq_getElem?_getD, splitL_get _ _ _ (by rw [bs_length, hol, ← hnc]; exact hj)]
        exact colF_bs other K j⟩
      have HXA := Aside0.mk (fun W => RSecrets_any W N T K E Rm (by omega) (by omega))
      rw [← hnc] at HSP
      rw [← hxs] at HXA
      have HXB := HXA
      have HRO := Aside0.mk (fun W D dd (hC : Kd.C fk W D K xs) => RRoots_any W D K dd xs hC (by omega))
      rw [← hzs] at HRO
      rw [← hL] at HSH2 HEQ HPL2
      obtain ⟨qs, hqs⟩ : ∃ qs, qs = polysL N T K data rnd := ⟨_, rfl⟩
      obtain ⟨qs2, hqs2⟩ : ∃ qs2, qs2 = polysL N T K other (L nc) := ⟨_, rfl⟩
      rw [← hqs2] at HSH2 HPL2 HEQ
      rw [← hqs] at HPG HPL HEQ
      have hne : ((n : Int) != (n : Int)) = false := by simp
      have hnI : ¬ (30 : Int) < (n : Int) := by omega
      have hNI : ¬ (30 : Int) < (N : Int) := by omega
      have hNT : (1 : Int) ≤ (N : Int) - (T : Int) + 1 := by omega
      have HK := Aside0.mk hnk
      by_cases hok : r = T * nc
      · have HSH := Aside0.mk (fun W g (hW : Fr (fun _ => False) w0 W) (hF : Fld W g) => share_yes W g N T K E Rm A R n c r rc data rnd hF (Kd.C_below ha (HB.out W hW)) (Kd.C_below hr (HB.out W hW)) hc hrc (by omega) (by omega) (by omega) hk hk1 hnk (by rw [← hnc]; exact hok))
        rw [← hqs] at HSH
        clear a0 hb0 hz0 hw0 hs ha hb hr hg hok hnc hdl hol hma hmb hL hQ hff hxs hzs hcp hpl hqs hqs2 hNb
        unfold parV at *
        go_enter Try.func17, Try.ntmps17
        go_wp2_with (first
          | (go_at_call 44; rw [← HW0.out, ← HS.out]; with_reducible refine (HGR.out _).mono ?_; rintro e W1 ⟨rfl, hb1⟩; have HF1 := Aside0.mk (Fr.of_below hb1 (fun _ => False)); obtain ⟨v0, v1, v2, v3, v4⟩ := HG.out W1 HF1.out; clear hb1)
          | (go_at_call 28; with_reducible refine (HNW.out _).mono ?_; rintro e W2 ⟨g, rfl, -, -, hF, hf2⟩; have HF2 := Aside0.mk (HF1.out.trans' hf2); obtain ⟨u0, u1, u2, u3, u4⟩ := HG.out W2 HF2.out; have HFl2 := Aside0.mk hF; have HSH3 := Aside0.mk (HSH.out W2 g HF2.out hF); clear hf2 hF)
          | (go_at_call 51; with_reducible refine HSH3.out.mono ?_; rintro e W3 ⟨x, rfl, -, hrows, hf3⟩; have HRW := Aside0.mk hrows; have HFl := Aside0.mk (HFl2.out.fr hf3 (fun h => h)); have HF3 := Aside0.mk (HF2.out.trans' hf3); obtain ⟨t0, t1, t2, t3, t4⟩ := HG.out W3 HF3.out; clear hrows hf3 HSH3))
        have S3 := HG.out W3 HF3.out
        clear HSH HFl2 HNW HGR u0 u1 u2 u3 u4 v0 v1 v2 v3 v4 t0 t1 t2 t3 t4
        go_region_held3 (fun W => W.cell? ⟨s, 0, none⟩ = some (.int .i64 N) ∧ W.cell? ⟨s, 1, none⟩ = some (.int .i64 T) ∧ W.cell? ⟨s, 2, none⟩ = some (.int .i64 K) ∧ W.cell? ⟨s, 3, none⟩ = some (.int .i64 E) ∧ W.cell? ⟨s, 4, none⟩ = some (.int .i64 Rm))
          (first | exact S6 | exact S5 | exact S4 | exact HG.out _ (HF3.out.trans' ((Fr.refl _ W3).drew)))
          (first
            | (go_at_call 48; with_reducible refine (HXA.out _).mono ?_; rintro e W4 ⟨D4, d4, rfl, hd4, hC4, hb4⟩; have HF34 := Aside0.mk (((Fr.refl (fun _ => False) W3).drew).below_ hb4); have HC4 := Aside0.mk hC4; have HD4 := Aside0.mk hd4; have S4 := HG.out W4 (HF3.out.trans' HF34.out); clear HXA hd4 hC4 hb4)
            | (go_at_call 48; with_reducible refine (HXB.out _).mono ?_; rintro e W5 ⟨D5, d5, rfl, hd5, hC5, hb5⟩; have HF45 := Aside0.mk ((Fr.refl (fun _ => False) W4).below_ hb5); have HROX := Aside0.mk (HRO.out W5 D5 d5 hC5); have S5 := HG.out W5 (HF3.out.trans' (HF34.out.trans' HF45.out)); clear HXB hd5 hC5 hb5)
            | (go_at_call 57; with_reducible refine HROX.out.mono ?_; rintro e W6 ⟨D6, d6, rfl, hd6, hC6, hb6⟩; have HF46 := Aside0.mk (HF45.out.below_ hb6); have HF6 := Aside0.mk (HF3.out.trans' (HF34.out.trans' HF46.out)); have HC6 := Aside0.mk hC6; have S6 := HG.out W6 HF6.out; clear HROX hd6 hC6 hb6))
        obtain ⟨u0, u1, u2, u3, u4⟩ := HG.out W6 HF6.out
        clear S3 S4 S5 S6
        go_wp2_with (go_at_call 41; with_reducible refine (HSP.out _ HF6.out).mono ?_; rintro e W7 ⟨B7, d7, rfl, hd7, hC7, hb7⟩; have HF67 := Aside0.mk ((Fr.refl (fun _ => False) W6).below_ hb7); have HC7 := Aside0.mk hC7; clear hC7 hb7)
        have HF7 := Aside0.mk (HF6.out.trans' HF67.out)
        have HCX := Aside0.mk (Kd.C_below HC4.out (HF46.out.trans' HF67.out).f_below)
        have HCZ := Aside0.mk (Kd.C_below HC6.out HF67.out.f_below)
        have HRW7 := Aside0.mk (rows_fr HRW.out (HF34.out.trans' (HF46.out.trans' HF67.out)))
        have HFl7 := Aside0.mk (HFl.out.fr (HF34.out.trans' (HF46.out.trans' HF67.out)) (fun h => h))
        clear HC4 HC6 HRW HFl HF34 HF45 HF46 HF67 HF6 HSP HRO u0 u1 u2 u3 u4
        go_loopw [17, 19] (fun v17 v19 wr => ∃ (j jl gc : Nat) (G : Option Addr), j ≤ nc ∧ v19 = .int .i64 (j : Int) ∧ v17 = .slice G jl gc ∧ Aside0 (jl = j * T) ∧ Aside0 (Kd.R fk 5 wr W7.heap.size (fun _ => True) (.slice G jl gc) (L j)) ∧ Aside0 (Fr (fun _ => False) W7 wr)) (fun _ v19 _ => nc - (intOf v19).toNat)
        case atStart => exact ⟨0, 0, 0, none, by omega, rfl, rfl, ⟨by omega⟩, ⟨by rw [HL0.out]; exact Kd.R_nil _ _ _ _ _⟩, ⟨Fr.refl _ _⟩⟩
        case round =>
          obtain ⟨j, jl, gc, G, hj, rfl, rfl, HJL, HG0, HFO⟩ := hrel
          obtain ⟨wo, rfl⟩ : ∃ wo : World, wo = wr := ⟨_, rfl⟩
          by_cases hlt : j < nc
          · obtain ⟨ad, A0, c0, rfl, hcol, hcc, hCol⟩ := row_at (Kd.C_below HC7.out HFO.out.f_below) j hlt
            rw [HSG.out j hlt, bs_length, colF_length] at hcol hcc hCol
            have hCf := C_bs.1 hCol
            have HTA := Aside0.mk (RThrough_any wo D4 A0 K d4 c0 xs (colF other K j) (Kd.C_below HCX.out HFO.out.f_below) hCf HD4.out (by omega) HXU.out)
            have HPJ := Aside0.mk (HPT.out j)
            have HQJ := Aside0.mk (HQT.out j)
            have HFJ := Aside0.mk (HFF.out j)
            have hqg := HPG.out j hlt
            obtain ⟨cf0, hcf⟩ : ∃ cf0, cf0 = colF other K j := ⟨_, rfl⟩
            obtain ⟨f, hf⟩ : ∃ f, f = ff j := ⟨_, rfl⟩
            obtain ⟨q, hq⟩ : ∃ q, q = cp j := ⟨_, rfl⟩
            rw [← hcf] at HTA HPJ
            rw [← hf] at HQJ HFJ
            rw [← hq] at HFJ hqg
            have HQG := Aside0.mk hqg
            clear hcc hCol hCf hcf hf hq hqg
            obtain ⟨u0, u1, u2, u3, u4⟩ := HG.out wo (HF7.out.trans' HFO.out)
            go_wp2_with (go_at_call 55; with_reducible refine HTA.out.mono ?_; rintro e W8 ⟨D8, d8, s8, rfl, -, hC8, hth, hb8⟩; have HF08 := Aside0.mk ((Fr.refl (fun _ => False) wo).below_ hb8); have HF8 := Aside0.mk (HFO.out.trans' HF08.out); have HC8 := Aside0.mk hC8; have HS8 := Aside0.mk (HPJ.out s8 hth); clear hC8 hth hb8)
            have hsl : s8.length ≤ 1000 := by
              have h1 := HPLL.out j
              rw [HS8.out]; omega
            rw [← HS8.out] at HFJ
            obtain ⟨sl, hsle⟩ : ∃ sl, sl = s8.length := ⟨_, rfl⟩
            rw [← hsle] at HC8 hsl ⊢
            have HRW8 := Aside0.mk (rows_fr HRW7.out HF8.out)
            clear hsle HTA HPJ HS8 hcol u0 u1 u2 u3 u4
            go_loopw [21, 22, 23] (fun v21 v22 v23 wr => ∃ (h i dx dy : Nat) (Ax Ay : Option Addr), h = fr + i ∧ i ≤ T ∧ v23 = .int .i64 (h : Int) ∧ v21 = .slice Ax i dx ∧ v22 = .slice Ay i dy ∧ Aside0 (Two wr W8.heap.size Ax i dx (ptsL fr i) Ay i dy (funL f fr i)) ∧ Aside0 (Fr (fun _ => False) W8 wr)) (fun _ _ v23 _ => fr + T - (intOf v23).toNat)
            case atStart => exact ⟨fr, 0, 0, 0, none, none, by omega, by omega, rfl, rfl, rfl, ⟨two_nil _ _⟩, ⟨Fr.refl _ _⟩⟩
            case round =>
              obtain ⟨h, i, dx, dy, Ax, Ay, hhe, hi, rfl, rfl, rfl, HT, HFI⟩ := hrel
              obtain ⟨u0, u1, u2, u3, u4⟩ := HG.out wr (HF7.out.trans' (HF8.out.trans' HFI.out))
              have HHE := Aside0.mk hhe
              by_cases hit : i < T
              · obtain ⟨Bx, dq, hcx, hdx, hCx⟩ := rows_cell HRW8.out h (by omega)
                rw [share_len _ _ _ (by omega), HPL.out] at hcx hdx hCx
                obtain ⟨adx, rfl, hcel⟩ := C_at hCx (Fr.refl (fun _ => False) W8) (fun _ h => h.elim) j hlt
                rw [share_row _ _ _ (by omega)] at hcel
                have hv : (qs.map fun q => ev q (ptF h)).getD j 0 = ev q (ptF h) := by
                  have h1 := HQG.out
                  rw [List.getD_eq_getElem?_getD] at h1 ⊢
                  rw [List.getElem?_map]
                  have hjq : j < qs.length := by rw [HPL.out]; exact hlt
                  rw [List.getElem?_eq_getElem hjq] at h1 ⊢
                  rw [show qs[j] = q from h1]
                  rfl
                rw [hv] at hcel
                have hpt : (h : Int) + 1 = ((ptF h).v : Int) := by rw [ptF_v]; omega
                have hps := ptsL_snoc fr i
                have hvs := funL_snoc f fr i
                have hzn := HZN.out h (by omega)
                have hfx := HFJ.out (ptF h)
                rw [← hhe] at hps hvs
                obtain ⟨x1, hx1⟩ : ∃ x1, x1 = ptF h := ⟨_, rfl⟩
                rw [← hx1] at hcel hpt hps hvs hzn hfx
                obtain ⟨s1, hs1⟩ : ∃ s1, s1 = ev q x1 := ⟨_, rfl⟩
                obtain ⟨p1, hp1⟩ : ∃ p1, p1 = ev s8 x1 := ⟨_, rfl⟩
                obtain ⟨v1, hv1⟩ : ∃ v1, v1 = ev zs x1 := ⟨_, rfl⟩
                obtain ⟨y1, hy1⟩ : ∃ y1, y1 = f x1 := ⟨_, rfl⟩
                rw [← hs1] at hcel hfx
                rw [← hp1] at hfx
                rw [← hv1] at hfx hzn
                rw [← hy1] at hfx hvs
                have hxr := xorF s1 p1
                obtain ⟨sm, hsm⟩ : ∃ sm, sm = s1 + p1 := ⟨_, rfl⟩
                rw [← hsm] at hxr hfx
                have HI1 := Aside0.mk (fun W => RInvF W v1 hzn)
                have HM1 := Aside0.mk (fun W => RMulF W sm v1.inv)
                rw [← hfx] at HM1
                obtain ⟨vi, hvi⟩ : ∃ vi, vi = v1.inv := ⟨_, rfl⟩
                rw [← hvi] at HI1 HM1
                have HPS := Aside0.mk hps
                have HVS := Aside0.mk hvs
                have HAX : Aside0 (∀ k, OB Ax k → W8.heap.size ≤ k ∧ k < wr.heap.size) := ⟨fun k hk => ⟨(ob_base (Kd.Q_of_R HT.out.1) k hk).1, R_lt' HT.out.1 k hk⟩⟩
                have HAY : Aside0 (∀ k, OB Ay k → W8.heap.size ≤ k ∧ k < wr.heap.size) := ⟨fun k hk => ⟨(ob_base (Kd.Q_of_R HT.out.2.1) k hk).1, R_lt' HT.out.2.1 k hk⟩⟩
                have HF8W : Aside0 (∀ W, Fr (fun k => OB Ax k) wr W → Fr (fun _ => False) W8 W) := ⟨fun W hW => HFI.out.trans hW (fun k hk => .inr (HAX.out k hk).1)⟩
                have HE1 := Aside0.mk (fun W (hW : Fr (fun k => OB Ax k) wr W) => REval_any W D8 sl d8 s8 x1 (Kd.C_below HC8.out (HF8W.out W hW).f_below) (by omega))
                have HE2 := Aside0.mk (fun W (hW : Fr (fun k => OB Ax k) wr W) => REval_any W D6 (K + 1) d6 zs x1 (Kd.C_below HCZ.out (HF8.out.trans' (HF8W.out W hW)).f_below) (by omega))
                rw [← hp1] at HE1
                rw [← hv1] at HE2
                have HCEL : Aside0 (∀ W, Fr (fun k => OB Ax k ∨ OB Ay k) wr W → W.cell? ⟨x, h, none⟩ = some (.slice (some adx) nc dq) ∧ W.cell? (adx.add j) = some (.int .u8 s1.v)) := ⟨fun W hW => by
                  have hf : Fr (fun k => OB Ax k ∨ OB Ay k) W8 W := (HFI.out.mono (fun _ h => h.elim)).trans' hW
                  have h1 := World.block_lt_of_cell? W8 _ hcx
                  have h2 := World.block_lt_of_cell? W8 _ hcel
                  refine ⟨hf.cell hcx (fun hk => ?_), hf.cell hcel (fun hk => ?_)⟩
                  · rcases hk with hk | hk
                    · have := (HAX.out _ hk).1; simp only at this h1; omega
                    · have := (HAY.out _ hk).1; simp only at this h1; omega
                  · rcases hk with hk | hk
                    · have := (HAX.out _ hk).1; omega
                    · have := (HAY.out _ hk).1; omega⟩
                have HA1 : Aside0 (∀ W L, Fr (fun _ => False) wr W → W.heap[L]? = some (.cells #[.int .u8 x1.v] 5 (0, 0)) → ∃ A' n' c' W', (Builtin.append_ #[36, 36] 36 #[.slice Ax i dx, .slice (some ⟨L, 0, none⟩) 1 1]).run Try.prog W = .ok (.slice A' n' c') W' ∧ (n' = i + 1 ∧ Kd.R fk 5 W' W8.heap.size (fun _ => True) (.slice A' (i + 1) c') (ptsL fr i ++ [x1]) ∧ Fr (fun k => OB Ax k) W W' ∧ ∀ k, OB A' k → OB Ax k ∨ W.heap.size ≤ k)) := ⟨fun W L hW hL => by
                  obtain ⟨A', c', W', h1, h2, h3, h4⟩ := push_blk W W8.heap.size Ax i dx (ptsL fr i) (R_fr HT.out.1 hW (fun _ _ _ _ h => h)) (Nat.le_trans HFI.out.size hW.size) L x1 hL (by omega)
                  exact ⟨A', _, c', W', h1, rfl, h2, h3, h4⟩⟩
                have HA2 : Aside0 (∀ W L, Fr (fun k => OB Ax k) wr W → W.heap[L]? = some (.cells #[.int .u8 y1.v] 5 (0, 0)) → ∃ A' n' c' W', (Builtin.append_ #[36, 36] 36 #[.slice Ay i dy, .slice (some ⟨L, 0, none⟩) 1 1]).run Try.prog W = .ok (.slice A' n' c') W' ∧ (n' = i + 1 ∧ Kd.R fk 5 W' W8.heap.size (fun _ => True) (.slice A' (i + 1) c') (funL f fr i ++ [y1]) ∧ Fr (fun k => OB Ay k) W W' ∧ ∀ k, OB A' k → OB Ay k ∨ W.heap.size ≤ k)) := ⟨fun W L hW hL => by
                  obtain ⟨A', c', W', h1, h2, h3, h4⟩ := push_blk W W8.heap.size Ay i dy (funL f fr i) (R_fr1 HT.out.2.1 hW (fun k hk hk2 => HT.out.2.2 k hk2 hk)) (Nat.le_trans HFI.out.size hW.size) L y1 hL (by omega)
                  exact ⟨A', _, c', W', h1, rfl, h2, h3, h4⟩⟩
                have HPX := Aside0.mk hpt
                have hlo : (h : Int) < (fr : Int) + (T : Int) := by omega
                have hhN : (h : Int) < (N : Int) := by omega
                have S0 := HCEL.out wr (Fr.refl _ _)
                clear hps hvs hx1 hs1 hp1 hv1 hy1 hsm hvi hfx hzn hv hcx hcel hCx hdx hhe hpt
                go_wp2
                rw [HPX.out]
                clear u0 u1 u2 u3 u4 hlo
                go_region_held3 (fun W => W.cell? ⟨x, h, none⟩ = some (.slice (some adx) nc dq) ∧ W.cell? (adx.add j) = some (.int .u8 s1.v))
                  (first | exact S15 | exact S13a | exact S13 | exact S12 | exact S11 | exact S10 | exact S9 | exact HCEL.out _ (by first | exact (Fr.refl _ wr).drew | exact ((Fr.refl _ wr).drew).alloc _))
                  (first
                    | (refine step_append_cps rfl _ _ _ _ rfl rfl rfl (HA1.out _ _ (((Fr.refl _ wr).drew).alloc _) (blk_new _ _)) ?_; rintro A1 n1 c1 W9 ⟨rfl, hR1, hfr1, hob1⟩; have HF19 := Aside0.mk hfr1; have HF9 := Aside0.mk (show Fr (fun k => OB Ax k) wr W9 from Fr.trans' (((Fr.refl _ wr).drew).alloc _) hfr1); have HR1 := Aside0.mk hR1; have HO1 := Aside0.mk hob1; have S9 := HCEL.out W9 (HF9.out.mono (fun _ h => .inl h)); clear hR1 hob1 hfr1 HA1)
                    | (go_at_call 56; with_reducible refine (HE1.out _ HF9.out).mono ?_; rintro e W10 ⟨rfl, hd10⟩; have HG10 := Aside0.mk (Fr.of_drawn0 (S := fun _ => False) hd10); have HF10 := Aside0.mk (HF9.out.trans' (HG10.out.mono (fun _ h => h.elim))); have S10 := HCEL.out W10 (HF10.out.mono (fun _ h => .inl h)); clear hd10 HE1)
                    | (go_at_call 56; with_reducible refine (HE2.out _ HF10.out).mono ?_; rintro e W11 ⟨rfl, hd11⟩; have HG11 := Aside0.mk (HG10.out.trans' (Fr.of_drawn0 (S := fun _ => False) hd11)); have HF11 := Aside0.mk (HF9.out.trans' (HG11.out.mono (fun _ h => h.elim))); have S11 := HCEL.out W11 (HF11.out.mono (fun _ h => .inl h)); clear hd11 HE2)
                    | (go_at_call 35; with_reducible refine (HI1.out _).mono ?_; rintro e W12 ⟨rfl, hd12⟩; have HG12 := Aside0.mk (HG11.out.trans' (Fr.of_drawn0 (S := fun _ => False) hd12)); have HF12 := Aside0.mk (HF9.out.trans' (HG12.out.mono (fun _ h => h.elim))); have S12 := HCEL.out W12 (HF12.out.mono (fun _ h => .inl h)); clear hd12 HI1)
                    | (go_at_call 34; with_reducible refine (HM1.out _).mono ?_; rintro e W13 ⟨rfl, hd13⟩; have HG13 := Aside0.mk (HG12.out.trans' (Fr.of_drawn0 (S := fun _ => False) hd13)); have HF13 := Aside0.mk (HF9.out.trans' (HG13.out.mono (fun _ h => h.elim))); have S13 := HCEL.out W13 (HF13.out.mono (fun _ h => .inl h)); have S13a := HCEL.out (W13.alloc (.cells #[.int .u8 y1.v] 5)) ((HF13.out.mono (fun _ h => .inl h)).alloc _); clear hd13 HM1)
                    | (refine step_append_cps rfl _ _ _ _ rfl rfl rfl (HA2.out _ _ (HF13.out.alloc _) (blk_new _ _)) ?_; rintro B1 m1 e1 W15 ⟨rfl, hR2, hfr2, hob2⟩; have HR2 := Aside0.mk hR2; have HF15 := Aside0.mk hfr2; have HO2 := Aside0.mk hob2; have S15 := HCEL.out W15 (((HF13.out.mono (fun _ h => .inl h)).alloc _).trans' (hfr2.mono (fun _ h => .inr h))); clear hR2 hob2 hfr2 HA2))
                have hTW : Two W15 W8.heap.size A1 (i + 1) c1 (ptsL fr i ++ [x1]) B1 (i + 1) e1 (funL f fr i ++ [y1]) := two_push HT.out (((Fr.refl _ wr).drew).alloc _) HR1.out HF19.out HO1.out (HG13.out.alloc _) HR2.out HF15.out HO2.out
                rw [← HPS.out, ← HVS.out] at hTW
                have HTW := Aside0.mk hTW
                have hfW : Fr (fun k => W8.heap.size ≤ k) wr W15 := ((HF13.out.mono (fun k hk => (HAX.out k hk).1)).alloc _).trans' (HF15.out.mono (fun k hk => (HAY.out k hk).1))
                have HFN := Aside0.mk (HFI.out.trans hfW (fun k hk => .inr hk))
                clear hTW hfW S0 S9 S10 S11 S12 S13 S13a S15 hxr
                go_wp2
                go_roundw
                case rel => exact ⟨h + 1, i + 1, c1, e1, A1, B1, by have := HHE.out; omega, by omega, by go_num, rfl, rfl, HTW, HFN⟩
                case measure => have := HHE.out; simp [intOf]; omega
              · obtain rfl : i = T := by omega
                have hhi : (fr : Int) + (i : Int) ≤ (h : Int) := by omega
                obtain ⟨wi, rfl⟩ : ∃ wi : World, wi = wr := ⟨_, rfl⟩
                have HTH := Aside0.mk (RThrough_own wi Ax Ay i dx dy (ptsL fr i) (funL f fr i) (R_C HT.out.1) (R_C HT.out.2.1) (R_cap HT.out.1) (by omega) (ptsL_unl fr i (by omega)))
                clear hhe
                go_wp2_with (go_at_call 55; with_reducible refine HTH.out.mono ?_; rintro e W16 ⟨D16, d16, s16, rfl, hR16, hth, hb16⟩; have HF16 := Aside0.mk ((Fr.refl (fun _ => False) wi).below_ hb16); have HR16 := Aside0.mk hR16; have HS16 := Aside0.mk (HQJ.out s16 hth); clear hR16 hth hb16)
                have hsl16 : s16.length ≤ i := by rw [HS16.out]; exact HQL.out j
                obtain ⟨tl, htl⟩ : ∃ tl, tl = s16.length := ⟨_, rfl⟩
                rw [← htl] at HR16 hsl16 ⊢
                have HTL := Aside0.mk htl
                clear HTH HT htl hhi u0 u1 u2 u3 u4
                go_loopw [25] (fun v25 wr => ∃ (k pl qc : Nat) (D : Option Addr), pl ≤ i ∧ v25 = .slice D pl qc ∧ Aside0 (pl = tl + k) ∧ Aside0 (Kd.R fk 5 wr wi.heap.size (fun _ => True) (.slice D pl qc) (s16 ++ List.replicate k 0)) ∧ Aside0 (Fr (fun _ => False) wi wr)) (fun v25 _ => i - lenOf v25)
                case atStart => exact ⟨0, tl, d16, D16, hsl16, rfl, ⟨by omega⟩, ⟨by rw [List.replicate_zero, List.append_nil]; exact HR16.out⟩, HF16⟩
                case round =>
                  obtain ⟨k, pn, qc, D, hple, rfl, HPE, HRQ, HFQ⟩ := hrel
                  obtain ⟨u0, u1, u2, u3, u4⟩ := HG.out wr (HF7.out.trans' (HF8.out.trans' (HFI.out.trans' HFQ.out)))
                  by_cases hpt : pn < i
                  · have hlo : (pn : Int) < (i : Int) := by omega
                    obtain ⟨D', qc', W17, hrun, hR17, hf17, -⟩ := push_blk (wr.alloc (.cells #[.int .u8 0] 5)) wi.heap.size D pn qc _ (R_fr HRQ.out ((Fr.refl (fun _ => False) wr).alloc _) (fun _ _ _ _ h => h)) (Nat.le_trans HFQ.out.size (by simp)) wr.heap.size 0 (blk_new _ _) (by omega)
                    have hrun' : (Builtin.append_ #[36, 36] 36 #[.slice D pn qc, .slice (some ⟨wr.heap.size, 0, none⟩) 1 1]).run Try.prog (wr.alloc (.cells #[.int .u8 0] 5)) = .ok (.slice D' (pn + 1) qc') W17 := hrun
                    have HRUN := Aside0.mk hrun'
                    rw [List.append_assoc, ← List.replicate_succ'] at hR17
                    have HR17 := Aside0.mk hR17
                    have HFN := Aside0.mk (HFQ.out.trans (((Fr.refl (fun k => OB D k) wr).alloc (.cells #[.int .u8 0] 5)).trans' hf17) (fun k hk => .inr (ob_base (Kd.Q_of_R HRQ.out) k hk).1))
                    clear hrun hrun' hR17 hf17
                    go_wp2_with (at_builtin; refine wpList_append_run rfl _ _ _ _ rfl rfl rfl HRUN.out ?_)
                    go_roundw
                    case rel => exact ⟨k + 1, pn + 1, qc', D', by omega, rfl, ⟨by have := HPE.out; omega⟩, HR17, HFN⟩
                    case measure => simp [lenOf]; omega
                  · obtain rfl : pn = i := by omega
                    have hjl : jl + pn ≤ 1000000 := by
                      have h1 := HJL.out
                      have h2 : j * pn ≤ 30 * 255 := Nat.mul_le_mul (by omega) (by omega)
                      omega
                    have hfo : Fr (fun _ => False) wo wr := HF08.out.trans' (HFI.out.trans' HFQ.out)
                    obtain ⟨G', gc', W18, hrun, hR18, hf18⟩ := append_row wr W7.heap.size G D jl gc pn qc (L j) _ (R_fr HG0.out hfo (fun _ _ _ _ h => h)) (Nat.le_trans HFO.out.size hfo.size) (R_C HRQ.out) hjl
                    have hpad : s16 ++ List.replicate k 0 = padL (Q j) pn := by
                      have h1 := HPE.out
                      have h2 := HTL.out
                      rw [← HS16.out]
                      unfold padL
                      rw [show pn - s16.length = k by omega]
                    rw [hpad, ← HLS.out j] at hR18
                    have HRUN := Aside0.mk hrun
                    have HR18 := Aside0.mk hR18
                    have HFN := Aside0.mk ((HFO.out.trans' hfo).trans hf18 (fun k hk => .inr (ob_base (Kd.Q_of_R HG0.out) k hk).1))
                    have HJN : Aside0 (jl + pn = (j + 1) * pn) := ⟨by have h1 := HJL.out; rw [Nat.succ_mul]; omega⟩
                    clear hrun hR18 hf18 hfo hpad
                    go_wp2_with (at_builtin; refine wpList_append_run rfl _ _ _ _ rfl rfl rfl HRUN.out ?_)
                    go_roundw
                    case rel => exact ⟨j + 1, jl + pn, gc', G', by omega, by go_num, rfl, HJN, HR18, HFN⟩
                    case measure => simp [intOf]; omega
          · obtain rfl : j = nc := by omega
            have HSH4 := Aside0.mk (HSH2.out wo g G jl gc HJL.out (HF7.out.trans' HFO.out) (HFl7.out.fr HFO.out (fun h => h)) (R_C HG0.out) (R_cap HG0.out))
            obtain ⟨u0, u1, u2, u3, u4⟩ := HG.out wo (HF7.out.trans' HFO.out)
            go_wp2_with (go_at_call 51; with_reducible refine HSH4.out.mono ?_; rintro e W20 ⟨x2, rfl, -, hrows2, hf20⟩; have HRW2 := Aside0.mk hrows2; have HF20 := Aside0.mk (HFO.out.trans' hf20); clear hrows2 hf20 HSH4)
            clear u0 u1 u2 u3 u4
            go_loopw [28] (fun v28 wr => ∃ h i : Nat, h = fr + i ∧ i ≤ T ∧ v28 = .int .i64 (h : Int) ∧ Aside0 (Fr (fun _ => False) W20 wr)) (fun v28 _ => fr + T - (intOf v28).toNat)
            case atStart => exact ⟨fr, 0, by omega, by omega, rfl, ⟨Fr.refl _ _⟩⟩
            case round =>
              obtain ⟨h, i, hhe, hi, rfl, HFR⟩ := hrel
              obtain ⟨y0, y1, y2, y3, y4⟩ := HG.out wr (HF7.out.trans' (HF20.out.trans' HFR.out))
              have HHE := Aside0.mk hhe
              by_cases hit : i < T
              · obtain ⟨Bx, dx, hcx, hdx, hCx⟩ := rows_cell (rows_fr HRW7.out (HF20.out.trans' HFR.out)) h (by omega)
                obtain ⟨By, dy, hcy, hdy, hCy⟩ := rows_cell (rows_fr HRW2.out HFR.out) h (by omega)
                have hrow := HEQ.out h (by omega) (by omega)
                rw [share_len _ _ _ (by omega), HPL.out] at hcx hdx hCx
                rw [share_len _ _ _ (by omega), HPL2.out] at hcy hdy hCy
                rw [hrow] at hCy
                obtain ⟨rx, hrx⟩ : ∃ r, r = (sharesL N qs).getD h [] := ⟨_, rfl⟩
                rw [← hrx] at hCx hCy
                have hlo : (h : Int) < (fr : Int) + (T : Int) := by omega
                have hhN : (h : Int) < (N : Int) := by omega
                have q0 := fun m => Kd.C_string (P := Try.prog) (c := dy) Try.underlying36 Try.underlying5 Try.underlying9 (C_drewN (C_bs.2 hCy) m)
                have q1 := fun m => Kd.C_string (P := Try.prog) (c := dx) Try.underlying36 Try.underlying5 Try.underlying9 (C_drewN (C_bs.2 hCx) m)
                obtain ⟨st, hst⟩ : ∃ st, st = strOfNums (bs rx) := ⟨_, rfl⟩
                rw [← hst] at q0 q1
                clear hst hrow hrx hCx hCy hhe hdx hdy
                go_wp2
                go_quiet (fail)
                go_wp2
                go_roundw
                case rel => exact ⟨h + 1, i + 1, by have := HHE.out; omega, by omega, by go_num, ⟨HFR.out.drewN _⟩⟩
                case measure => have := HHE.out; simp [intOf]; omega
              · obtain rfl : i = T := by omega
                have hhi : (fr : Int) + (i : Int) ≤ (h : Int) := by omega
                clear hhe
                go_wp2_with (go_at_call 42; with_reducible refine (HAN.out _).mono ?_; rintro e W12 ⟨rfl, hf12⟩)
                go_ret
                exact ⟨rfl, HB.out _ (HF7.out.trans' (HF20.out.trans' (HFR.out.trans' hf12)))⟩
      · have HSH := Aside0.mk (fun W g (hW : Fr (fun _ => False) w0 W) => share_no W g N T K E Rm A R n c r rc data (Kd.C_below ha (HB.out W hW)) hc (by omega) (by omega) hk hk1 (by rw [← hnc]; exact hok))
        clear a0 hb0 hz0 hw0 hs ha hb hr hg hok hnc hdl hol hma hmb hL hQ hff hxs hzs hcp hpl hqs hqs2 hsn hNb HSH2
        unfold parV at *
        go_enter Try.func17, Try.ntmps17
        go_wp2_with (first
          | (go_at_call 44; rw [← HW0.out, ← HS.out]; with_reducible refine (HGR.out _).mono ?_; rintro e W1 ⟨rfl, hb1⟩; have HF1 := Aside0.mk (Fr.of_below hb1 (fun _ => False)); obtain ⟨v0, v1, v2, v3, v4⟩ := HG.out W1 HF1.out; clear hb1)
          | (go_at_call 28; with_reducible refine (HNW.out _).mono ?_; rintro e W2 ⟨g, rfl, -, -, -, hf2⟩; have HF2 := Aside0.mk (HF1.out.trans' hf2); obtain ⟨u0, u1, u2, u3, u4⟩ := HG.out W2 HF2.out; have HSH3 := Aside0.mk (HSH.out W2 g HF2.out); clear hf2)
          | (go_at_call 51; with_reducible refine HSH3.out.mono ?_; rintro e W3 ⟨rfl, hf3⟩; have HF3 := Aside0.mk (HF2.out.trans' hf3); clear hf3 HSH3)
          | (go_at_call 42; with_reducible refine (HAN.out _).mono ?_; rintro e W4 ⟨rfl, hf4⟩))
        go_ret
        exact ⟨rfl, HB.out _ (HF3.out.trans' hf4)⟩
    · have HX : (((n : Int) != (m : Int)) = true) ∨ (((n : Int) != (m : Int)) = false ∧ (30 : Int) < (n : Int)) ∨ (((n : Int) != (m : Int)) = false ∧ ¬ ((30 : Int) < (n : Int)) ∧ (30 : Int) < (N : Int)) := by
        by_cases h1 : n = m
        · have h2 : ((n : Int) != (m : Int)) = false := by rw [h1]; simp
          by_cases h3 : n ≤ 30
          · exact .inr (.inr ⟨h2, by omega, by omega⟩)
          · exact .inr (.inl ⟨h2, by omega⟩)
        · exact .inl (by simp; omega)
      clear a0 hb0 hz0 hw0 hs ha hb hr hg hsm hma hmb
      unfold parV at *
      rcases HX with h1 | ⟨h1, h2⟩ | ⟨h1, h2, h3⟩
      all_goals
        go_enter Try.func17, Try.ntmps17
        go_wp2_with (first | (go_at_call 44; rw [← HW0.out, ← HS.out]; with_reducible refine (HGR.out _).mono ?_; rintro e W1 ⟨rfl, hb1⟩; have HF1 := Aside0.mk (Fr.of_below hb1 (fun _ => False)); obtain ⟨v0, v1, v2, v3, v4⟩ := HG.out W1 HF1.out; clear hb1) | (go_at_call 42; with_reducible refine (HAN.out _).mono ?_; rintro e W2 ⟨rfl, hf2⟩))
        go_ret
        exact ⟨rfl, HB.out _ (HF1.out.trans' hf2)⟩
  · have hg' : goodB N T K E Rm = false := by simpa using hg
    rw [hg'] at HGR
    unfold parV at *
    clear hg hg' ha hb hr hNb hma hmb
    go_enter Try.func17, Try.ntmps17
    go_wp2_with (first | (go_at_call 44; with_reducible refine (HGR.out _).mono ?_; rintro e W1 ⟨rfl, hb1⟩; have HF1 := Aside0.mk (Fr.of_below hb1 (fun _ => False)); clear hb1) | (go_at_call 42; with_reducible refine (HAN.out _).mono ?_; rintro e W2 ⟨rfl, hf2⟩))
    go_ret
    exact ⟨rfl, (((Fr.refl (fun _ => False) w).alloc _).trans' (HF1.out.trans' hf2)).f_below⟩
end Go.Proofs.Ytpeiejkcoadhfaa
