/- The law DealSums, walked. -/
import Derived.Test.YtpeiejkcoadhfaaDlC
set_option linter.all false
namespace Go.Proofs.Ytpeiejkcoadhfaa
open Go.RowKit Go.Shelf Go.Proofs.YtpeiejkcoadhfaaW.PrintWords Go.Proofs.YtpeiejkcoadhfaaW.PrintMore
open Go.BigFrame
attribute [local go_sem] Oper.semAt_some

theorem cf_xorL (a b : List F) (h : a.length = b.length) (i : Nat) : cf (xorL a b) i = cf a i + cf b i := by
  by_cases hi : i < a.length
  · exact getD_range _ _ _ _ hi
  · rw [cf_ge _ _ (by rw [xorL_length]; omega), cf_ge a i (by omega), cf_ge b i (by omega), F.add_zero]
theorem ev_sum {u v t : List F} (h : ∀ i, cf t i = cf u i + cf v i) (x : F) : ev t x = ev u x + ev v x := by
  rw [ev_eqv t (addP u v) (fun i => by rw [cf_add, h i]), ev_add]
theorem cf_piece (a : List F) (en j i : Nat) : cf (pieceL a en j) i = if i < en then cf a (j * en + i) else 0 := by
  unfold cf pieceL
  rw [List.getD_eq_getElem?_getD, List.getD_eq_getElem?_getD, List.getElem?_take]
  by_cases h : i < en
  · rw [if_pos h, if_pos h, List.getElem?_drop]
  · rw [if_neg h, if_neg h]; rfl
theorem piece_xor (a b : List F) (h : a.length = b.length) (en j i : Nat) : cf (pieceL (xorL a b) en j) i = cf (pieceL a en j) i + cf (pieceL b en j) i := by
  rw [cf_piece, cf_piece, cf_piece]
  by_cases hi : i < en
  · rw [if_pos hi, if_pos hi, if_pos hi, cf_xorL a b h]
  · rw [if_neg hi, if_neg hi, if_neg hi, F.add_zero]
/-- A row of shares. -/
theorem share_row (N : Nat) (qs : List (List F)) (h : Nat) (hh : h < N) : (sharesL N qs).getD h [] = qs.map fun q => ev q (ptF h) := getD_range _ _ _ _ hh
theorem row_map (f : Nat → List F) (n : Nat) (x : F) : ((List.range n).map f).map (fun q => ev q x) = (List.range n).map fun j => ev (f j) x := by rw [List.map_map]; rfl
theorem xor_rows (n : Nat) (f g k : Nat → F) (h : ∀ j, j < n → k j = f j + g j) : xorL ((List.range n).map f) ((List.range n).map g) = (List.range n).map k := by
  apply List.ext_getElem
  · simp [xorL]
  · intro i h1 h2
    have hi : i < n := by simpa [xorL] using h1
    simp only [xorL, List.getElem_map, List.getElem_range]
    rw [h i hi]
    unfold cf
    rw [getD_range _ _ _ _ hi, getD_range _ _ _ _ hi]
theorem sums_rows (N q en : Nat) (fs a b : List F) (hl : a.length = b.length) (h : Nat) (hh : h < N) :
    (sharesL N (dealtL q en fs (xorL a b))).getD h [] = xorL ((sharesL N (dealtL q en fs a)).getD h []) ((sharesL N (dealtL q en fs b)).getD h []) := by
  rw [share_row _ _ _ hh, share_row _ _ _ hh, share_row _ _ _ hh]
  unfold dealtL
  rw [row_map, row_map, row_map]
  symm
  refine xor_rows q _ _ _ (fun j _ => ?_)
  rw [ev_trim, ev_trim, ev_trim, ev_mul, ev_mul, ev_mul, ev_sum (piece_xor a b hl en j), F.mul_add]
theorem share_len (N : Nat) (qs : List (List F)) (h : Nat) (hh : h < N) : ((sharesL N qs).getD h []).length = qs.length := by rw [share_row _ _ _ hh, List.length_map]

/-- 'append([]byte{}, ys...)'. -/
theorem R_copy1 (W w : World) (hb : Below w.heap.size w W) (A : Option Addr) (n c : Nat) (ys : List F) (h1 : Kd.C fk W A n ys) (hl : n ≤ 1000000) :
    ∃ B1 d1 W1, (Builtin.append_ #[36, 36] 36 #[.slice (some ⟨W.heap.size, 0, none⟩) 0 0, .slice A n c]).run Try.prog (W.alloc (.cells #[] 5)) = .ok (.slice B1 n d1) W1 ∧ Kd.R fk 5 W1 w.heap.size (fun _ => True) (.slice B1 n d1) ys ∧ Below w.heap.size w W1 := by
  obtain rfl : ys.length = n := Kd.C_len h1
  have hb0 : Below W.heap.size W (W.alloc (.cells #[] 5)) := below_alloc (Below.refl _ _) _
  obtain ⟨v1, W1, hrun1, hq1, hg1, hat1⟩ := R_append_row (P := Try.prog) encF (0 : F) (W.alloc (.cells #[] 5)) w.heap.size 36 36 5 _ 1 Try.underlying36 info5 rfl (ys := ys) (c := c) (R_empty fk 5 W w.heap.size hb.size) (Kd.C_below h1 hb0) (by simp; omega) (by omega) (Nat.le_trans hb.size hb0.size) (fun _ _ => trivial)
  obtain ⟨B1, d1, rfl⟩ := Kd.R_slice hq1
  rw [List.nil_append] at hrun1 hq1
  have hb1 : Below W.heap.size W W1 := hb0.grown hg1 hb0.size (fun k hk => by have : k = W.heap.size := by simpa [Value.ownBlock] using hk.symm
                                                                              omega)
  exact ⟨B1, d1, W1, hrun1, hq1, hb.trans (hb1.mono hb.size)⟩
set_option maxRecDepth 100000 in
set_option maxHeartbeats 6400000 in
theorem sums_law (w : World) (cs : Array Value) (p : Par) (hK : kpar.K w p cs.toList) (hw : wfPar p) (cols : Int) (hcols : (Lit.int .u8 cols).wf = true)
    (A : Option Addr) (n c : Nat) (la : List Int) (hla : la.length = n) (hCa : Kd.C u8 w A n la) (hc : n ≤ c) (hwa : ∀ a ∈ la, (Lit.int .u8 a).wf = true) (hsa : n * 1 ≤ 140737488351232)
    (B : Option Addr) (m d : Nat) (lb : List Int) (hlb : lb.length = m) (hCb : Kd.C u8 w B m lb) (hd : m ≤ d) (hwb : ∀ a ∈ lb, (Lit.int .u8 a).wf = true) (hsb : m * 1 ≤ 140737488351232) :
    Calls Try.prog 19 #[.agg cs, .int .u8 cols, .slice A n c, .slice B m d] w fun e w' => e = .returned (.bool true) ∧ Below w.heap.size w w' := by
  rw [par_cs hK]
  obtain ⟨N, T, K, E, Rm⟩ := p
  have hNb := i64_bd hw.1
  obtain ⟨a, rfl⟩ := bytes_F la hwa
  obtain ⟨b, rfl⟩ := bytes_F lb hwb
  have ha := C_bs.1 hCa
  have hb := C_bs.1 hCb
  have HGR := Aside0.mk (fun W => RGood_any W N T K E Rm hNb)
  have HAN := Aside0.mk answers10
  obtain ⟨cn, q, rfl, hcn, hq, hq9⟩ := u8_mod hcols
  clear hCa hCb hwa hwb hla hlb hw hK hcols
  have hu48 := Try.underlying48
  by_cases hg : goodB N T K E Rm = true
  · obtain ⟨N, T, K, rfl, rfl, rfl, hn, ht1, ht, hk1, hk, hnk, htk⟩ := gd_nat (good_true hg)
    rw [hg] at HGR
    obtain ⟨w0, hw0, hz0, a0, hb0⟩ := heap1 w (Obj.cells #[.int .i64 N, .int .i64 T, .int .i64 K, .int .i64 E, .int .i64 Rm] 48)
    obtain ⟨s, hs⟩ : ∃ s, s = w.heap.size := ⟨_, rfl⟩
    rw [← hs] at a0
    have HG : Aside0 (∀ W, Fr (fun _ => False) w0 W → W.cell? ⟨s, 0, none⟩ = some (.int .i64 N) ∧ W.cell? ⟨s, 1, none⟩ = some (.int .i64 T) ∧ W.cell? ⟨s, 2, none⟩ = some (.int .i64 K) ∧ W.cell? ⟨s, 3, none⟩ = some (.int .i64 E) ∧ W.cell? ⟨s, 4, none⟩ = some (.int .i64 Rm)) :=
      ⟨fun W hW => by
        have h1 := hW.blk a0 (fun h => h)
        exact ⟨cell_at h1 rfl, cell_at h1 rfl, cell_at h1 rfl, cell_at h1 rfl, cell_at h1 rfl⟩⟩
    have HB : Aside0 (∀ W, Fr (fun _ => False) w0 W → Below w.heap.size w W) := ⟨fun W hW => hb0.trans (hW.f_below.mono hb0.size)⟩
    have HS := Aside0.mk hs
    have HW0 := Aside0.mk hw0
    by_cases h30 : N ≤ 30
    · by_cases hnm : n = m
      · subst hnm
        have HNW := Aside0.mk (fun W => New_any W)
        have hal := Kd.C_len ha
        have hbl := Kd.C_len hb
        obtain ⟨ok, hok⟩ : ∃ ok, ok = decide (n = (T + K) * q) := ⟨_, rfl⟩
        have hMA := fun W g (R : Option Addr) (mc : Nat) (rnd : List F) (hF : Fld W g) (hr : Kd.C fk W R n rnd) (hmc : n ≤ mc) => Masks_any W g N T K E Rm q R n mc rnd hF hr hmc (by omega) (by omega) (by omega) (by omega) (by omega) ok (by rw [each4]; exact hok)
        have hm3 : (T + K) * q ≤ 510 * 9 := Nat.mul_le_mul (by omega) hq9
        have HM1 := Aside0.mk (fun W g (hW : Fr (fun _ => False) w0 W) (hF : Fld W g) => hMA W g A c a hF (Kd.C_below ha (HB.out W hW)) hc)
        have HM2 := Aside0.mk (fun W g (hW : Fr (fun _ => False) w0 W) (hF : Fld W g) => hMA W g B d b hF (Kd.C_below hb (HB.out W hW)) hd)
        have HM3 := Aside0.mk (fun W g R mc hF hr hmc => hMA W g R mc (xorL a b) hF hr hmc)
        have HXO := Aside0.mk (fun W (hW : Fr (fun _ => False) w0 W) => RXor_any W A B n n c d a b (Kd.C_below ha (HB.out W hW)) (Kd.C_below hb (HB.out W hW)) (by omega) (by omega))
        have HRX : Aside0 (∀ h, h < N → (sharesL N (dealtL q (eachN T K 4) [1] (xorL a b))).getD h [] = xorL ((sharesL N (dealtL q (eachN T K 4) [1] a)).getD h []) ((sharesL N (dealtL q (eachN T K 4) [1] b)).getD h [])) := ⟨fun h hh => sums_rows N q _ _ a b (by omega) h hh⟩
        obtain ⟨xs, hxs⟩ : ∃ xs, xs = dealtL q (eachN T K 4) [1] a := ⟨_, rfl⟩
        obtain ⟨ys, hys⟩ : ∃ ys, ys = dealtL q (eachN T K 4) [1] b := ⟨_, rfl⟩
        obtain ⟨zs, hzs⟩ : ∃ zs, zs = dealtL q (eachN T K 4) [1] (xorL a b) := ⟨_, rfl⟩
        have HLX : Aside0 (xs.length = q ∧ ys.length = q ∧ zs.length = q) := ⟨by rw [hxs, hys, hzs]; simp [dealtL_length]⟩
        rw [← hxs] at HM1 HRX
        rw [← hys] at HM2 HRX
        rw [← hzs] at HM3 HRX
        have h30I : ¬ (30 : Int) < (N : Int) := by omega
        have hne : ((n : Int) != (n : Int)) = false := by simp
        have HOK := Aside0.mk hok
        have HA := Aside0.mk ha
        have HBB := Aside0.mk hb
        have HM := Aside0.mk hm3
        clear a0 hb0 hz0 hw0 hs ha hb hg hok h30 hxs hys hzs hMA hal hbl hm3 hsa hsb
        unfold parV at *
        go_enter Try.func19, Try.ntmps19
        go_wp2_with (first
          | (go_at_call 44; rw [← HW0.out, ← HS.out]; with_reducible refine (HGR.out _).mono ?_; rintro e W1 ⟨rfl, hb1⟩; have HF1 := Aside0.mk (Fr.of_below hb1 (fun _ => False)); obtain ⟨v0, v1, v2, v3, v4⟩ := HG.out W1 HF1.out; clear hb1)
          | (go_at_call 28; with_reducible refine (HNW.out _).mono ?_; rintro e W2 ⟨g, rfl, -, -, hF, hf2⟩; have HF2 := Aside0.mk (HF1.out.trans' hf2); obtain ⟨u0, u1, u2, u3, u4⟩ := HG.out W2 HF2.out; have HMX := Aside0.mk (HM1.out W2 g HF2.out hF); have HFl := Aside0.mk hF; clear hf2 hF)
          | (go_at_call 60; first
              | (with_reducible refine HMX.out.mono ?_; rintro e W3 ⟨Y3, l3, c3, rfl, hsv3, hf3⟩; have HF3 := Aside0.mk (HF2.out.trans' hf3); have HF23 := Aside0.mk hf3; obtain ⟨t0, t1, t2, t3, t4⟩ := HG.out W3 HF3.out; have HSV3 := Aside0.mk hsv3; have HMY := Aside0.mk (HM2.out W3 g HF3.out (HFl.out.fr hf3 (fun h => h))); clear hf3 hsv3 HMX)
              | (with_reducible refine HMY.out.mono ?_; rintro e W4 ⟨Y4, l4, c4, rfl, hsv4, hf4⟩; have HF4 := Aside0.mk (HF3.out.trans' hf4); have HF34 := Aside0.mk hf4; have HF24 := Aside0.mk (HF23.out.trans' hf4); have HSV4 := Aside0.mk hsv4; clear hf4 hsv4 HMY)))
        have S4 := HG.out W4 HF4.out
        clear u0 u1 u2 u3 u4 v0 v1 v2 v3 v4 t0 t1 t2 t3 t4
        go_region_held3 (fun W => W.cell? ⟨s, 0, none⟩ = some (.int .i64 N) ∧ W.cell? ⟨s, 1, none⟩ = some (.int .i64 T) ∧ W.cell? ⟨s, 2, none⟩ = some (.int .i64 K) ∧ W.cell? ⟨s, 3, none⟩ = some (.int .i64 E) ∧ W.cell? ⟨s, 4, none⟩ = some (.int .i64 Rm))
          (first | exact S6 | exact S5 | exact HG.out _ (HF4.out.trans' ((Fr.refl _ W4).drew)))
          (first
            | (go_at_call 62; with_reducible refine (HXO.out _ (HF4.out.trans' ((Fr.refl _ W4).drew))).mono ?_; rintro e W5 ⟨D5, c5, rfl, hR5, hb5⟩; have HF45 := Aside0.mk ((Fr.refl (fun _ => False) W4).drew.below_ hb5); have S5 := HG.out W5 (HF4.out.trans' HF45.out); have HMZ := Aside0.mk (HM3.out W5 g D5 c5 (HFl.out.fr (HF24.out.trans' HF45.out) (fun h => h)) (R_C hR5) (R_cap hR5)); clear hR5 hb5)
            | (go_at_call 60; with_reducible refine HMZ.out.mono ?_; rintro e W6 ⟨Y6, l6, c6, rfl, hsv6, hf6⟩; have HF46 := Aside0.mk (HF45.out.trans' hf6); have HF6 := Aside0.mk (HF4.out.trans' HF46.out); have S6 := HG.out W6 HF6.out; have HSV6 := Aside0.mk hsv6; clear hf6 hsv6 HMZ))
        have hsv3 := SV_fr HSV3.out (HF34.out.trans' HF46.out)
        have hsv4 := SV_fr HSV4.out HF46.out
        have hsv6 := HSV6.out
        clear S4 S5 HSV3 HSV4 HSV6 HM1 HM2 HM3 HXO HNW HGR
        cases ok with
        | false =>
          clear hsv3 hsv4 hsv6
          go_wp2_with (go_at_call 42; with_reducible refine (HAN.out _).mono ?_; rintro e W7 ⟨rfl, hf7⟩)
          go_ret
          exact ⟨by first | rfl | simp, HB.out _ (HF6.out.trans' hf7)⟩
        | true =>
          obtain ⟨gx, rfl, ex1, ex2, _, hrx⟩ := SV_yes hsv3 rfl
          obtain ⟨gy, rfl, ey1, ey2, _, hry⟩ := SV_yes hsv4 rfl
          obtain ⟨gz, rfl, ez1, ez2, _, hrz⟩ := SV_yes hsv6 rfl
          obtain rfl : N = l3 := ex1.symm
          obtain rfl : N = c3 := ex2.symm
          obtain rfl : N = l4 := ey1.symm
          obtain rfl : N = c4 := ey2.symm
          obtain rfl : N = l6 := ez1.symm
          obtain rfl : N = c6 := ez2.symm
          have HNQ := Aside0.mk (of_decide_eq_true HOK.out.symm)
          have HRWX := Aside0.mk hrx
          have HRWY := Aside0.mk hry
          have HRWZ := Aside0.mk hrz
          clear hsv3 hsv4 hsv6 hrx hry hrz HOK S6
          go_wp2
          go_loopw [17] (fun v17 wr => ∃ h : Nat, h ≤ N ∧ v17 = .int .i64 (h : Int) ∧ Aside0 (Fr (fun _ => False) W6 wr)) (fun v17 _ => N - (intOf v17).toNat)
          case atStart => exact ⟨0, by omega, rfl, ⟨Fr.refl _ _⟩⟩
          case round =>
            obtain ⟨h, hh, rfl, HFR⟩ := hrel
            obtain ⟨y0, y1, y2, y3, y4⟩ := HG.out wr (HF6.out.trans' HFR.out)
            by_cases hlt : h < N
            · obtain ⟨Bx, dx, hcx, hdx, hCx⟩ := rows_cell (rows_fr HRWX.out HFR.out) h hlt
              obtain ⟨By, dy, hcy, hdy, hCy⟩ := rows_cell (rows_fr HRWY.out HFR.out) h hlt
              obtain ⟨Bz, dz, hcz, hdz, hCz⟩ := rows_cell (rows_fr HRWZ.out HFR.out) h hlt
              have hrow := HRX.out h hlt
              obtain ⟨hlx, hly, hlz⟩ := HLX.out
              rw [share_len _ _ _ hlt, hlx] at hcx hdx hCx
              rw [share_len _ _ _ hlt, hly] at hcy hdy hCy
              rw [share_len _ _ _ hlt, hlz, hrow] at hCz
              rw [share_len _ _ _ hlt, hlz] at hcz hdz
              obtain ⟨rx, hrx⟩ : ∃ r, r = (sharesL N xs).getD h [] := ⟨_, rfl⟩
              obtain ⟨ry, hry⟩ : ∃ r, r = (sharesL N ys).getD h [] := ⟨_, rfl⟩
              rw [← hrx] at hCx hCz
              rw [← hry] at hCy hCz
              have HSY := Aside0.mk (Sum_yes wr.drew Bx By q dx dy rx ry (Kd.C_below hCx (below_drew (Below.refl _ _))) (Kd.C_below hCy (below_drew (Below.refl _ _))) (by omega))
              have HCZ := Aside0.mk hCz
              have HCEL : Aside0 (∀ W, Fr (fun _ => False) wr W → W.cell? ⟨gx, h, none⟩ = some (.slice Bx q dx) ∧ W.cell? ⟨gy, h, none⟩ = some (.slice By q dy) ∧ W.cell? ⟨gz, h, none⟩ = some (.slice Bz q dz)) := ⟨fun W hW => ⟨hW.cell hcx (fun h => h), hW.cell hcy (fun h => h), hW.cell hcz (fun h => h)⟩⟩
              have hltI : (h : Int) < (N : Int) := by omega
              have S0 := HCEL.out wr (Fr.refl _ _)
              clear hrow hlx hly hlz hrx hry hCx hCy hCz hcx hcy hcz hdx hdy hdz
              go_wp2
              go_region_held3 (fun W => W.cell? ⟨gx, h, none⟩ = some (.slice Bx q dx) ∧ W.cell? ⟨gy, h, none⟩ = some (.slice By q dy) ∧ W.cell? ⟨gz, h, none⟩ = some (.slice Bz q dz))
                (first | exact S1 | exact HCEL.out _ ((Fr.refl _ wr).drew))
                (first | (go_at_call 63; with_reducible refine HSY.out.mono ?_; rintro e W7 ⟨D7, c7, rfl, hR7, hb7⟩; have HF7 := Aside0.mk ((Fr.refl (fun _ => False) wr).drew.below_ hb7); have S1 := HCEL.out W7 HF7.out; have HC7 := Aside0.mk (R_C hR7); clear hR7 hb7))
              obtain ⟨_, _, hz7⟩ := HCEL.out W7 HF7.out
              have q0 := fun m => Kd.C_string (P := Try.prog) (c := c7) Try.underlying36 Try.underlying5 Try.underlying9 (C_drewN (C_bs.2 HC7.out) m)
              have q1 := fun m => Kd.C_string (P := Try.prog) (c := dz) Try.underlying36 Try.underlying5 Try.underlying9 (C_drewN (C_bs.2 (Kd.C_below HCZ.out HF7.out.f_below)) m)
              obtain ⟨st, hst⟩ : ∃ st, st = strOfNums (bs (xorL rx ry)) := ⟨_, rfl⟩
              rw [← hst] at q0 q1
              clear S0 S1 hst HSY y0 y1 y2 y3 y4
              go_wp2
              go_quiet (fail)
              go_wp2
              go_roundw
              case rel => exact ⟨h + 1, by omega, by go_num, ⟨(HFR.out.trans' HF7.out).drewN _⟩⟩
              case measure => simp [intOf]; omega
            · obtain rfl : h = N := by omega
              have hn4 : n ≤ 1000000 := by have h1 := HNQ.out; have h2 := HM.out; omega
              have hbw := HB.out wr (HF6.out.trans' HFR.out)
              obtain ⟨D1, d1, W8, hrun1, hR1, hb1⟩ := R_copy1 wr wr (Below.refl _ _) A n c a (Kd.C_below HA.out hbw) hn4
              obtain ⟨D2, d2, W9, hrun2, hR2, hb2⟩ := R_copy1 W8 wr hb1 B n d b (Kd.C_below (Kd.C_below HBB.out hbw) hb1) hn4
              obtain ⟨D3, d3, W10, hrun3, hR3, hb3⟩ := R_push (P := Try.prog) encF 0 (h1 := fun _ => rfl) W9 wr 36 5 (.int .u8 0) 1 Try.underlying36 info5 rfl hR2 hb2 1 (by rw [Kd.C_len (Kd.C_below HBB.out hbw)]; omega) (by omega)
              rw [Kd.C_len (Kd.C_below HBB.out hbw)] at hrun3
              have hrun3' : (Builtin.append_ #[36, 36] 36 #[.slice D2 n d2, .slice (some ⟨W9.heap.size, 0, none⟩) 1 1]).run Try.prog (W9.alloc (.cells #[.int .u8 1] 5)) = .ok (.slice D3 (n + 1) d3) W10 := hrun3
              have HR1 := Aside0.mk hrun1
              have HR2 := Aside0.mk hrun2
              have HR3 := Aside0.mk hrun3'
              have HSN := Aside0.mk (Sum_no W10 D1 D3 n (n + 1) d1 d3 (by omega))
              have HF10 := Aside0.mk (Fr.of_below hb3 (fun _ => False))
              clear hrun1 hrun2 hrun3 hrun3' hR1 hR2 hR3 hb1 hb2 hb3 hbw y0 y1 y2 y3 y4
              obtain ⟨z0, z1, z2, z3, z4⟩ := HG.out wr (HF6.out.trans' HFR.out)
              go_wp2_with (first
                | (at_builtin; refine wpList_append_run rfl _ _ _ _ rfl rfl rfl HR1.out ?_; clear HR1)
                | (at_builtin; refine wpList_append_run rfl _ _ _ _ rfl rfl rfl HR2.out ?_; clear HR2)
                | (at_builtin; refine wpList_append_run rfl _ _ _ _ rfl rfl rfl HR3.out ?_; clear HR3)
                | (go_at_call 63; with_reducible refine HSN.out.mono ?_; rintro e W11 ⟨rfl, hb11⟩; replace hb11 := Aside0.mk hb11)
                | (go_at_call 42; with_reducible refine (HAN.out _).mono ?_; rintro e W12 ⟨rfl, hf12⟩))
              go_ret
              exact ⟨by first | rfl | simp, HB.out _ (HF6.out.trans' (HFR.out.trans' (HF10.out.trans' ((Fr.of_below hb11.out _).trans' hf12))))⟩
      · have hne : ((n : Int) != (m : Int)) = true := by simp; omega
        have h30I : ¬ (30 : Int) < (N : Int) := by omega
        clear a0 hb0 hz0 hw0 hs ha hb hg hnm h30 hsa hsb
        unfold parV at *
        go_enter Try.func19, Try.ntmps19
        go_wp2_with (first | (go_at_call 44; rw [← HW0.out, ← HS.out]; with_reducible refine (HGR.out _).mono ?_; rintro e W1 ⟨rfl, hb1⟩; have HF1 := Aside0.mk (Fr.of_below hb1 (fun _ => False)); obtain ⟨v0, v1, v2, v3, v4⟩ := HG.out W1 HF1.out; clear hb1) | (go_at_call 42; with_reducible refine (HAN.out _).mono ?_; rintro e W2 ⟨rfl, hf2⟩))
        go_ret
        exact ⟨rfl, HB.out _ (HF1.out.trans' hf2)⟩
    · have h30I : (30 : Int) < (N : Int) := by omega
      clear a0 hb0 hz0 hw0 hs ha hb hg h30 hsa hsb
      unfold parV at *
      go_enter Try.func19, Try.ntmps19
      go_wp2_with (first | (go_at_call 44; rw [← HW0.out, ← HS.out]; with_reducible refine (HGR.out _).mono ?_; rintro e W1 ⟨rfl, hb1⟩; have HF1 := Aside0.mk (Fr.of_below hb1 (fun _ => False)); obtain ⟨v0, v1, v2, v3, v4⟩ := HG.out W1 HF1.out; clear hb1) | (go_at_call 42; with_reducible refine (HAN.out _).mono ?_; rintro e W2 ⟨rfl, hf2⟩))
      go_ret
      exact ⟨rfl, HB.out _ (HF1.out.trans' hf2)⟩
  · have hg' : goodB N T K E Rm = false := by simpa using hg
    rw [hg'] at HGR
    unfold parV at *
    clear hg hg' ha hb hNb hsa hsb
    go_enter Try.func19, Try.ntmps19
    go_wp2_with (first | (go_at_call 44; with_reducible refine (HGR.out _).mono ?_; rintro e W1 ⟨rfl, hb1⟩; have HF1 := Aside0.mk (Fr.of_below hb1 (fun _ => False)); clear hb1) | (go_at_call 42; with_reducible refine (HAN.out _).mono ?_; rintro e W2 ⟨rfl, hf2⟩))
    go_ret
    exact ⟨rfl, (((Fr.refl (fun _ => False) w).alloc _).trans' (HF1.out.trans' hf2)).f_below⟩
end Go.Proofs.Ytpeiejkcoadhfaa
