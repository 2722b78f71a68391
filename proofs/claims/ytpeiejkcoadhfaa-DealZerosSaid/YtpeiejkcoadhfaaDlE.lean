/- The law DealZeros, walked. -/
import Derived.Test.YtpeiejkcoadhfaaDlD
set_option linter.all false
namespace Go.Proofs.Ytpeiejkcoadhfaa
open Go.RowKit Go.Shelf Go.Proofs.YtpeiejkcoadhfaaW.PrintWords Go.Proofs.YtpeiejkcoadhfaaW.PrintMore
open Go.BigFrame
attribute [local go_sem] Oper.semAt_some

theorem zeros_rows (N T K : Nat) (data a b : List F) (hl : a.length = b.length) (h : Nat) (hh : h < N) :
    (sharesL N (polysL N T K data (xorL a b))).getD h [] = xorL ((sharesL N (polysL N T K data a)).getD h []) ((sharesL N (dealtL (ncol data.length K) T (roots (secL N K)) b)).getD h []) := by
  rw [share_row _ _ _ hh, share_row _ _ _ hh, share_row _ _ _ hh]
  unfold dealtL polysL
  rw [row_map, row_map, row_map]
  symm
  refine xor_rows _ _ _ _ (fun j _ => ?_)
  simp only [ev_trim, ev_add, ev_mul]
  rw [ev_sum (piece_xor a b hl T j), F.mul_add, F.add_assoc]

set_option maxRecDepth 100000 in
set_option maxHeartbeats 6400000 in
theorem zeros_law (w : World) (cs : Array Value) (p : Par) (hK : kpar.K w p cs.toList) (hw : wfPar p)
    (A : Option Addr) (n c : Nat) (la : List Int) (hla : la.length = n) (hCa : Kd.C u8 w A n la) (hc : n ≤ c) (hwa : ∀ a ∈ la, (Lit.int .u8 a).wf = true)
    (B : Option Addr) (m d : Nat) (lb : List Int) (hlb : lb.length = m) (hCb : Kd.C u8 w B m lb) (hd : m ≤ d) (hwb : ∀ a ∈ lb, (Lit.int .u8 a).wf = true) (hsb : m * 1 ≤ 140737488351232)
    (Z : Option Addr) (l e : Nat) (lz : List Int) (hlz : lz.length = l) (hCz : Kd.C u8 w Z l lz) (he : l ≤ e) (hwz : ∀ a ∈ lz, (Lit.int .u8 a).wf = true) (hsz : l * 1 ≤ 140737488351232) :
    Calls Try.prog 20 #[.agg cs, .slice A n c, .slice B m d, .slice Z l e] w fun e w' => e = .returned (.bool true) ∧ Below w.heap.size w w' := by
  rw [par_cs hK]
  obtain ⟨N, T, K, E, Rm⟩ := p
  have hNb := i64_bd hw.1
  obtain ⟨data, rfl⟩ := bytes_F la hwa
  obtain ⟨a, rfl⟩ := bytes_F lb hwb
  obtain ⟨b, rfl⟩ := bytes_F lz hwz
  have hdt := C_bs.1 hCa
  have ha := C_bs.1 hCb
  have hb := C_bs.1 hCz
  have hmx := Kd.C_max hdt
  have HGR := Aside0.mk (fun W => RGood_any W N T K E Rm hNb)
  have HAN := Aside0.mk answers10
  clear hCa hCb hCz hwa hwb hwz hla hlb hlz hw hK
  have hu48 := Try.underlying48
  by_cases hg : goodB N T K E Rm = true
  · obtain ⟨N, T, K, rfl, rfl, rfl, hn, ht1, ht, hk1, hk, hnk, htk⟩ := gd_nat (good_true hg)
    rw [hg] at HGR
    obtain ⟨w0, hw0, hz0, a0, hb0⟩ := heap1 w (Obj.cells #[.int .i64 N, .int .i64 T, .int .i64 K, .int .i64 E, .int .i64 Rm] 48)
    obtain ⟨s, hs⟩ : ∃ s, s = w.heap.size := ⟨_, rfl⟩
    rw [← hs] at a0
    have HG : Aside0 (∀ W, Fr (fun _ => False) w0 W → W.cell? ⟨s, 0, none⟩ = some (.int .i64 N) ∧ W.cell? ⟨s, 1, none⟩ = some (.int .i64 T) ∧ W.cell? ⟨s, 2, none⟩ = some (.int .i64 K) ∧ W.cell? ⟨s, 3, none⟩ = some (.int .i64 E) ∧ W.cell? ⟨s, 4, none⟩ = some (.int .i64 Rm)) :=
      ⟨fun W hW => by
        have h1 := hW.blk a0 (fun h => h)
        exact ⟨cell_at h1 rfl, cell_at h1 rfl, cell_at h1 rfl, cell_at h1 rfl, cell_at h1 rfl⟩⟩
    have HB : Aside0 (∀ W, Fr (fun _ => False) w0 W → Below w.heap.size w W) := ⟨fun W hW => hb0.trans (hW.f_below.mono hb0.size)⟩
    have HS := Aside0.mk hs
    have HW0 := Aside0.mk hw0
    by_cases hall : N ≤ 30 ∧ n ≤ 30 ∧ m = l
    · obtain ⟨h30, hn30, hml⟩ := hall
      subst hml
      have HNW := Aside0.mk (fun W => New_any W)
      have hal := Kd.C_len ha
      have hbl := Kd.C_len hb
      have hdl := Kd.C_len hdt
      have hncl := ncol_le n K hk1
      obtain ⟨ok, hok⟩ : ∃ ok, ok = decide (m = T * ncol n K) := ⟨_, rfl⟩
      have HM1 := Aside0.mk (fun W g (hW : Fr (fun _ => False) w0 W) (hF : Fld W g) => Share_any W g N T K E Rm A B n c m d data a hF (Kd.C_below hdt (HB.out W hW)) (Kd.C_below ha (HB.out W hW)) hc hd (by omega) (by omega) (by omega) hk hk1 hnk)
      have HM2 := Aside0.mk (fun W g (hW : Fr (fun _ => False) w0 W) (hF : Fld W g) => Zeros_any W g N T K E Rm (ncol n K) Z m e b hF (Kd.C_below hb (HB.out W hW)) he (by omega) (by omega) (by omega) (by omega) (by omega) ok (by rw [each2]; exact hok))
      have HM3 := Aside0.mk (fun W g R mc (hW : Fr (fun _ => False) w0 W) (hF : Fld W g) (hr : Kd.C fk W R m (xorL a b)) (hmc : m ≤ mc) => Share_any W g N T K E Rm A R n c m mc data (xorL a b) hF (Kd.C_below hdt (HB.out W hW)) hr hc hmc (by omega) (by omega) (by omega) hk hk1 hnk)
      rw [← hok] at HM1 HM3
      rw [each2] at HM2
      have HSP := Aside0.mk (fun W (hW : Fr (fun _ => False) w0 W) => RSplitL_any W A n c K data (Kd.C_below hdt (HB.out W hW)) hc hk1 hk (by omega))
      have HXO := Aside0.mk (fun W (hW : Fr (fun _ => False) w0 W) => RXor_any W B Z m m d e a b (Kd.C_below ha (HB.out W hW)) (Kd.C_below hb (HB.out W hW)) (by omega) (by omega))
      have HRX : Aside0 (∀ h, h < N → (sharesL N (polysL N T K data (xorL a b))).getD h [] = xorL ((sharesL N (polysL N T K data a)).getD h []) ((sharesL N (dealtL (ncol n K) T (roots (secL N K)) b)).getD h [])) := ⟨fun h hh => by rw [← hdl]; exact zeros_rows N T K data a b (by omega) h hh⟩
      obtain ⟨xs, hxs⟩ : ∃ xs, xs = polysL N T K data a := ⟨_, rfl⟩
      obtain ⟨ys, hys⟩ : ∃ ys, ys = dealtL (ncol n K) T (roots (secL N K)) b := ⟨_, rfl⟩
      obtain ⟨zs, hzs⟩ : ∃ zs, zs = polysL N T K data (xorL a b) := ⟨_, rfl⟩
      have HLX : Aside0 (xs.length = ncol n K ∧ ys.length = ncol n K ∧ zs.length = ncol n K) := ⟨by rw [hxs, hys, hzs]; simp [dealtL_length, polysL_length, hdl]⟩
      rw [← hxs] at HM1 HRX
      rw [← hys] at HM2 HRX
      rw [← hzs] at HM3 HRX
      obtain ⟨q, hq⟩ : ∃ q, q = ncol n K := ⟨_, rfl⟩
      rw [← hq] at HM2 HLX HSP hncl
      have h30I : ¬ (30 : Int) < (N : Int) := by omega
      have hn30I : ¬ (30 : Int) < (n : Int) := by omega
      have hne : ((m : Int) != (m : Int)) = false := by simp
      clear a0 hb0 hz0 hw0 hs ha hb hdt hg hok h30 hxs hys hzs hal hbl hdl hq hsb hsz hn30 hmx
      unfold parV at *
      go_enter Try.func20, Try.ntmps20
      go_wp2_with (first
        | (go_at_call 44; rw [← HW0.out, ← HS.out]; with_reducible refine (HGR.out _).mono ?_; rintro e W1 ⟨rfl, hb1⟩; have HF1 := Aside0.mk (Fr.of_below hb1 (fun _ => False)); obtain ⟨v0, v1, v2, v3, v4⟩ := HG.out W1 HF1.out; clear hb1)
        | (go_at_call 28; with_reducible refine (HNW.out _).mono ?_; rintro e W2 ⟨g, rfl, -, -, hF, hf2⟩; have HF2 := Aside0.mk (HF1.out.trans' hf2); obtain ⟨u0, u1, u2, u3, u4⟩ := HG.out W2 HF2.out; have HMX := Aside0.mk (HM1.out W2 g HF2.out hF); have HFl := Aside0.mk hF; clear hf2 hF)
        | (go_at_call 51; with_reducible refine HMX.out.mono ?_; rintro e W3 ⟨Y3, l3, c3, rfl, hsv3, hf3⟩; have HF3 := Aside0.mk (HF2.out.trans' hf3); have HF23 := Aside0.mk hf3; have HSV3 := Aside0.mk hsv3; clear hf3 hsv3 HMX))
      have S3 := HG.out W3 HF3.out
      clear u0 u1 u2 u3 u4 v0 v1 v2 v3 v4
      go_region_held3 (fun W => W.cell? ⟨s, 0, none⟩ = some (.int .i64 N) ∧ W.cell? ⟨s, 1, none⟩ = some (.int .i64 T) ∧ W.cell? ⟨s, 2, none⟩ = some (.int .i64 K) ∧ W.cell? ⟨s, 3, none⟩ = some (.int .i64 E) ∧ W.cell? ⟨s, 4, none⟩ = some (.int .i64 Rm))
        (first | exact S5 | exact S4 | exact HG.out _ (HF3.out.trans' ((Fr.refl _ W3).drew)))
        (first
          | (go_at_call 41; with_reducible refine (HSP.out _ (HF3.out.trans' ((Fr.refl _ W3).drew))).mono ?_; rintro e W4 ⟨B4, d4, rfl, hd4, hC4, hb4⟩; have HF34 := Aside0.mk ((Fr.refl (fun _ => False) W3).drew.below_ hb4); have HF4 := Aside0.mk (HF3.out.trans' HF34.out); have S4 := HG.out W4 HF4.out; have HMY := Aside0.mk (HM2.out W4 g HF4.out (HFl.out.fr (HF23.out.trans' HF34.out) (fun h => h))); clear hC4 hb4)
          | (go_at_call 58; with_reducible refine HMY.out.mono ?_; rintro e W5 ⟨Y5, l5, c5, rfl, hsv5, hf5⟩; have HF35 := Aside0.mk (HF34.out.trans' hf5); have HF5 := Aside0.mk (HF3.out.trans' HF35.out); have S5 := HG.out W5 HF5.out; have HSV5 := Aside0.mk hsv5; clear hf5 hsv5 HMY))
      go_wp2
      go_region_held3 (fun W => W.cell? ⟨s, 0, none⟩ = some (.int .i64 N) ∧ W.cell? ⟨s, 1, none⟩ = some (.int .i64 T) ∧ W.cell? ⟨s, 2, none⟩ = some (.int .i64 K) ∧ W.cell? ⟨s, 3, none⟩ = some (.int .i64 E) ∧ W.cell? ⟨s, 4, none⟩ = some (.int .i64 Rm))
        (first | exact S7 | exact S6 | exact HG.out _ (HF5.out.trans' ((Fr.refl _ W5).drew)))
        (first
          | (go_at_call 62; with_reducible refine (HXO.out _ (HF5.out.trans' ((Fr.refl _ W5).drew))).mono ?_; rintro e W6 ⟨D6, c6, rfl, hR6, hb6⟩; have HF56 := Aside0.mk ((Fr.refl (fun _ => False) W5).drew.below_ hb6); have HF6 := Aside0.mk (HF5.out.trans' HF56.out); have S6 := HG.out W6 HF6.out; have HMZ := Aside0.mk (HM3.out W6 g D6 c6 HF6.out (HFl.out.fr ((HF23.out.trans' HF35.out).trans' HF56.out) (fun h => h)) (R_C hR6) (R_cap hR6)); clear hR6 hb6)
          | (go_at_call 51; with_reducible refine HMZ.out.mono ?_; rintro e W7 ⟨Y7, l7, c7, rfl, hsv7, hf7⟩; have HF57 := Aside0.mk (HF56.out.trans' hf7); have HF7 := Aside0.mk (HF5.out.trans' HF57.out); have S7 := HG.out W7 HF7.out; have HSV7 := Aside0.mk hsv7; clear hf7 hsv7 HMZ))
      have hsv3 := SV_fr HSV3.out (HF35.out.trans' HF57.out)
      have hsv5 := SV_fr HSV5.out HF57.out
      have hsv7 := HSV7.out
      clear S3 S4 S5 S6 S7 HSV3 HSV5 HSV7 HM1 HM2 HM3 HXO HNW HGR HSP
      cases ok with
      | false =>
        clear hsv3 hsv5 hsv7
        go_wp2_with (go_at_call 42; with_reducible refine (HAN.out _).mono ?_; rintro e W8 ⟨rfl, hf8⟩)
        go_ret
        exact ⟨by first | rfl | simp, HB.out _ (HF7.out.trans' hf8)⟩
      | true =>
        obtain ⟨gx, rfl, ex1, ex2, _, hrx⟩ := SV_yes hsv3 rfl
        obtain ⟨gy, rfl, ey1, ey2, _, hry⟩ := SV_yes hsv5 rfl
        obtain ⟨gz, rfl, ez1, ez2, _, hrz⟩ := SV_yes hsv7 rfl
        obtain rfl : N = l3 := ex1.symm
        obtain rfl : N = c3 := ex2.symm
        obtain rfl : N = l5 := ey1.symm
        obtain rfl : N = c5 := ey2.symm
        obtain rfl : N = l7 := ez1.symm
        obtain rfl : N = c7 := ez2.symm
        have HRWX := Aside0.mk hrx
        have HRWY := Aside0.mk hry
        have HRWZ := Aside0.mk hrz
        clear hsv3 hsv5 hsv7 hrx hry hrz
        go_wp2
        go_loopw [16] (fun v16 wr => ∃ h : Nat, h ≤ N ∧ v16 = .int .i64 (h : Int) ∧ Aside0 (Fr (fun _ => False) W7 wr)) (fun v16 _ => N - (intOf v16).toNat)
        case atStart => exact ⟨0, by omega, rfl, ⟨Fr.refl _ _⟩⟩
        case round =>
          obtain ⟨h, hh, rfl, HFR⟩ := hrel
          obtain ⟨y0, y1, y2, y3, y4⟩ := HG.out wr (HF7.out.trans' HFR.out)
          by_cases hlt : h < N
          · obtain ⟨Bx, dx, hcx, hdx, hCx⟩ := rows_cell (rows_fr HRWX.out HFR.out) h hlt
            obtain ⟨By, dy, hcy, hdy, hCy⟩ := rows_cell (rows_fr HRWY.out HFR.out) h hlt
            obtain ⟨Bz, dz, hcz, hdz, hCz⟩ := rows_cell (rows_fr HRWZ.out HFR.out) h hlt
            have hrow := HRX.out h hlt
            obtain ⟨hlx, hly, hlz⟩ := HLX.out
            rw [share_len _ _ _ hlt, hlx] at hcx hdx hCx
            rw [share_len _ _ _ hlt, hly] at hcy hdy hCy
            rw [share_len _ _ _ hlt, hlz, hrow] at hCz
            rw [share_len _ _ _ hlt, hlz] at hcz hdz
            obtain ⟨rx, hrx⟩ : ∃ r, r = (sharesL N xs).getD h [] := ⟨_, rfl⟩
            obtain ⟨ry, hry⟩ : ∃ r, r = (sharesL N ys).getD h [] := ⟨_, rfl⟩
            rw [← hrx] at hCx hCz
            rw [← hry] at hCy hCz
            have HSY := Aside0.mk (Sum_yes wr.drew Bx By q dx dy rx ry (Kd.C_below hCx (below_drew (Below.refl _ _))) (Kd.C_below hCy (below_drew (Below.refl _ _))) (by omega))
            have HCZ := Aside0.mk hCz
            have HCEL : Aside0 (∀ W, Fr (fun _ => False) wr W → W.cell? ⟨gx, h, none⟩ = some (.slice Bx q dx) ∧ W.cell? ⟨gy, h, none⟩ = some (.slice By q dy) ∧ W.cell? ⟨gz, h, none⟩ = some (.slice Bz q dz)) := ⟨fun W hW => ⟨hW.cell hcx (fun h => h), hW.cell hcy (fun h => h), hW.cell hcz (fun h => h)⟩⟩
            have hltI : (h : Int) < (N : Int) := by omega
            have S0 := HCEL.out wr (Fr.refl _ _)
            clear hrow hlx hly hlz hrx hry hCx hCy hCz hcx hcy hcz hdx hdy hdz
            go_wp2
            go_region_held3 (fun W => W.cell? ⟨gx, h, none⟩ = some (.slice Bx q dx) ∧ W.cell? ⟨gy, h, none⟩ = some (.slice By q dy) ∧ W.cell? ⟨gz, h, none⟩ = some (.slice Bz q dz))
              (first | exact S1 | exact HCEL.out _ ((Fr.refl _ wr).drew))
              (first | (go_at_call 63; with_reducible refine HSY.out.mono ?_; rintro e W8 ⟨D8, c8, rfl, hR8, hb8⟩; have HF8 := Aside0.mk ((Fr.refl (fun _ => False) wr).drew.below_ hb8); have S1 := HCEL.out W8 HF8.out; have HC8 := Aside0.mk (R_C hR8); clear hR8 hb8))
            obtain ⟨_, _, hz8⟩ := HCEL.out W8 HF8.out
            have q0 := fun m => Kd.C_string (P := Try.prog) (c := c8) Try.underlying36 Try.underlying5 Try.underlying9 (C_drewN (C_bs.2 HC8.out) m)
            have q1 := fun m => Kd.C_string (P := Try.prog) (c := dz) Try.underlying36 Try.underlying5 Try.underlying9 (C_drewN (C_bs.2 (Kd.C_below HCZ.out HF8.out.f_below)) m)
            obtain ⟨st, hst⟩ : ∃ st, st = strOfNums (bs (xorL rx ry)) := ⟨_, rfl⟩
            rw [← hst] at q0 q1
            clear S0 S1 hst HSY y0 y1 y2 y3 y4
            go_wp2
            go_quiet (fail)
            go_wp2
            go_roundw
            case rel => exact ⟨h + 1, by omega, by go_num, ⟨(HFR.out.trans' HF8.out).drewN _⟩⟩
            case measure => simp [intOf]; omega
          · obtain rfl : h = N := by omega
            go_wp2_with (go_at_call 42; with_reducible refine (HAN.out _).mono ?_; rintro e W12 ⟨rfl, hf12⟩)
            go_ret
            exact ⟨by first | rfl | simp, HB.out _ (HF7.out.trans' (HFR.out.trans' hf12))⟩
    · have HX : (30 : Int) < (N : Int) ∨ ((¬ (30 : Int) < (N : Int)) ∧ (30 : Int) < (n : Int)) ∨ ((¬ (30 : Int) < (N : Int)) ∧ (¬ (30 : Int) < (n : Int)) ∧ ((m : Int) != (l : Int)) = true) := by
        by_cases h1 : N ≤ 30
        · by_cases h2 : n ≤ 30
          · exact .inr (.inr ⟨by omega, by omega, by simp; omega⟩)
          · exact .inr (.inl ⟨by omega, by omega⟩)
        · exact .inl (by omega)
      clear a0 hb0 hz0 hw0 hs ha hb hdt hg hall hsb hsz hmx
      unfold parV at *
      rcases HX with h1 | ⟨h1, h2⟩ | ⟨h1, h2, h3⟩
      all_goals
        go_enter Try.func20, Try.ntmps20
        go_wp2_with (first | (go_at_call 44; rw [← HW0.out, ← HS.out]; with_reducible refine (HGR.out _).mono ?_; rintro e W1 ⟨rfl, hb1⟩; have HF1 := Aside0.mk (Fr.of_below hb1 (fun _ => False)); obtain ⟨v0, v1, v2, v3, v4⟩ := HG.out W1 HF1.out; clear hb1) | (go_at_call 42; with_reducible refine (HAN.out _).mono ?_; rintro e W2 ⟨rfl, hf2⟩))
        go_ret
        exact ⟨rfl, HB.out _ (HF1.out.trans' hf2)⟩
  · have hg' : goodB N T K E Rm = false := by simpa using hg
    rw [hg'] at HGR
    unfold parV at *
    clear hg hg' ha hb hdt hNb hsb hsz hmx
    go_enter Try.func20, Try.ntmps20
    go_wp2_with (first | (go_at_call 44; with_reducible refine (HGR.out _).mono ?_; rintro e W1 ⟨rfl, hb1⟩; have HF1 := Aside0.mk (Fr.of_below hb1 (fun _ => False)); clear hb1) | (go_at_call 42; with_reducible refine (HAN.out _).mono ?_; rintro e W2 ⟨rfl, hf2⟩))
    go_ret
    exact ⟨rfl, (((Fr.refl (fun _ => False) w).alloc _).trans' (HF1.out.trans' hf2)).f_below⟩
end Go.Proofs.Ytpeiejkcoadhfaa
