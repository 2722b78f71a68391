/- The law DealShares, walked. -/
import Derived.Test.YtpeiejkcoadhfaaDkG
set_option linter.all false
namespace Go.Proofs.Ytpeiejkcoadhfaa
open Go.RowKit Go.Shelf Go.Proofs.YtpeiejkcoadhfaaW.PrintWords Go.Proofs.YtpeiejkcoadhfaaW.PrintMore
open Go.BigFrame
attribute [local go_sem] Oper.semAt_some

set_option maxRecDepth 100000 in
set_option maxHeartbeats 3200000 in
theorem shares_law (w : World) (cs : Array Value) (p : Par) (hK : kpar.K w p cs.toList) (hw : wfPar p) (A : Option Addr) (n c : Nat) (l : List Int) (hl : l.length = n) (hC : Kd.C u8 w A n l) (hc : n ≤ c) (hwl : ∀ a ∈ l, (Lit.int .u8 a).wf = true)
    (R : Option Addr) (m mc : Nat) (lr : List Int) (hlr : lr.length = m) (hCr : Kd.C u8 w R m lr) (hmc : m ≤ mc) (hwr : ∀ a ∈ lr, (Lit.int .u8 a).wf = true) :
    Calls Try.prog 15 #[.agg cs, .slice A n c, .slice R m mc] w fun e w' => e = .returned (.bool true) ∧ Below w.heap.size w w' := by
  rw [par_cs hK]
  obtain ⟨N, T, K, E, Rm⟩ := p
  have hNb := i64_bd hw.1
  obtain ⟨data, rfl⟩ := bytes_F l hwl
  obtain ⟨rnd, rfl⟩ := bytes_F lr hwr
  have hd := C_bs.1 hC
  have hr := C_bs.1 hCr
  have HGR := Aside0.mk (fun W => RGood_any W N T K E Rm hNb)
  have HAN := Aside0.mk answers10
  have hmx := Kd.C_max hr
  have hnx := Kd.C_max hd
  clear hC hCr hwl hwr hl hlr hw hK
  by_cases hg : goodB N T K E Rm = true
  · obtain ⟨N, T, K, rfl, rfl, rfl, hn, ht1, ht, hk1, hk, hnk, htk⟩ := gd_nat (good_true hg)
    rw [hg] at HGR
    by_cases hsm : n ≤ 60 ∧ N ≤ 40
    · obtain ⟨hn60, hN40⟩ := hsm
      have HNW := Aside0.mk (fun W => New_any W)
      have HD := Aside0.mk hd
      have HR := Aside0.mk hr
      have hncl := ncol_le n K hk1
      obtain ⟨ok, hok⟩ : ∃ ok, ok = decide (m = T * ncol n K) := ⟨_, rfl⟩
      obtain ⟨qs, hqs⟩ : ∃ qs, qs = polysL N T K data rnd := ⟨_, rfl⟩
      have hql : ∀ q ∈ qs, q.length ≤ 1099511627776 := fun q hq => by rw [hqs] at hq; have := polysL_len N T K data rnd q hq; omega
      have HSH := Aside0.mk (fun W g (hW : Below w.heap.size w W) (hF : Fld W g) => Share_any W g N T K E Rm A R n c m mc data rnd hF (Kd.C_below hd hW) (Kd.C_below hr hW) hc hmc (by omega) (by omega) (by omega) hk hk1 hnk)
      rw [← hok, ← hqs] at HSH
      have HSP := Aside0.mk (fun W (hW : Below w.heap.size w W) => RSplitL_any W A n c K data (Kd.C_below hd hW) hc hk1 hk (by omega))
      have HPO : Aside0 (ok = true → ∀ W, Below w.heap.size w W → Calls Try.prog 54 #[parV N T K E Rm, .slice A n c, .slice R m mc] W fun e w' => ∃ B d, e = .returned (.slice B (ncol n K) d) ∧ PolyW w' W.heap.size (.slice B (ncol n K) d) qs ∧ Below W.heap.size W w') := ⟨fun h W hW => by
        rw [hqs]
        exact RPolys_any W N T K E Rm A R n c m mc data rnd (Kd.C_below hd hW) (Kd.C_below hr hW) hc hmc (by omega) (by omega) (by omega) hk hk1 hnk (of_decide_eq_true (hok ▸ h))⟩
      have hT40 : T ≤ 40 := by omega
      have hmul : T * ncol n K ≤ 40 * 60 := Nat.mul_le_mul hT40 (by omega)
      obtain ⟨nc, hnc⟩ : ∃ nc, nc = ncol n K := ⟨_, rfl⟩
      rw [← hnc] at HSP HPO hncl hok hmul
      have HSA := Aside0.mk (fun W D cd (hP : PL W D nc qs) => RShares_any W N T K E Rm D nc cd qs hP (by omega) (by omega) hql)
      have HSM := Aside0.mk (fun W A B c d (h1 : PL W A N (sharesL N qs)) (h2 : PL W B N (sharesL N qs)) => RSame_any W A B N N c d _ _ h1 h2 (by omega) (by omega))
      have hmulI : IntKind.i64.wrap ((T : Int) * (nc : Int)) = ((T * nc : Nat) : Int) := by
        rw [← Int.natCast_mul, IntWalk.i64_in _ ⟨by omega, by omega⟩]
      obtain ⟨tn, htn⟩ : ∃ tn, tn = T * nc := ⟨_, rfl⟩
      rw [← htn] at hmulI hok hmul
      have hne : ((m : Int) != (tn : Int)) = !ok := by
        rw [hok]
        by_cases e : m = tn
        · subst e; simp
        · rw [decide_eq_false e]
          simp; omega
      obtain ⟨w0, hw0, hz0, a0, hb0⟩ := heap1 w (Obj.cells #[.int .i64 N, .int .i64 T, .int .i64 K, .int .i64 E, .int .i64 Rm] 48)
      obtain ⟨s, hs⟩ : ∃ s, s = w.heap.size := ⟨_, rfl⟩
      rw [← hs] at a0
      have HG : Aside0 (∀ W, Fr (fun _ => False) w0 W → W.cell? ⟨s, 0, none⟩ = some (.int .i64 N) ∧ W.cell? ⟨s, 1, none⟩ = some (.int .i64 T) ∧ W.cell? ⟨s, 2, none⟩ = some (.int .i64 K) ∧ W.cell? ⟨s, 3, none⟩ = some (.int .i64 E) ∧ W.cell? ⟨s, 4, none⟩ = some (.int .i64 Rm)) :=
        ⟨fun W hW => by
          have h1 := hW.blk a0 (fun h => h)
          exact ⟨cell_at h1 rfl, cell_at h1 rfl, cell_at h1 rfl, cell_at h1 rfl, cell_at h1 rfl⟩⟩
      have HB : Aside0 (∀ W, Fr (fun _ => False) w0 W → Below w.heap.size w W) := ⟨fun W hW => hb0.trans (hW.f_below.mono hb0.size)⟩
      have HS := Aside0.mk hs
      have HW0 := Aside0.mk hw0
      have HOK := Aside0.mk hok
      clear a0 hb0 hz0 hw0 hs hd hr hg hok hqs hql hnc htn hmx hnx hmul
      have hu48 := Try.underlying48
      unfold parV at *
      go_enter Try.func15, Try.ntmps15
      go_wp2_with (go_at_call 44; rw [← HW0.out, ← HS.out]; with_reducible refine (HGR.out _).mono ?_; rintro e W1 ⟨rfl, hb1⟩; have HF1 := Aside0.mk (Fr.of_below hb1 (fun _ => False)); obtain ⟨v0, v1, v2, v3, v4⟩ := HG.out W1 HF1.out; clear hb1)
      clear v0 v1 v2 v3 v4
      go_region_held3 (fun W => W.cell? ⟨s, 0, none⟩ = some (.int .i64 N) ∧ W.cell? ⟨s, 1, none⟩ = some (.int .i64 T) ∧ W.cell? ⟨s, 2, none⟩ = some (.int .i64 K) ∧ W.cell? ⟨s, 3, none⟩ = some (.int .i64 E) ∧ W.cell? ⟨s, 4, none⟩ = some (.int .i64 Rm))
        (first | exact S3 | exact S2 | exact HG.out _ (HF1.out.trans' ((Fr.refl _ W1).drew)))
        (first
          | (go_at_call 28; with_reducible refine (HNW.out _).mono ?_; rintro e W2 ⟨g, rfl, -, -, hF, hf2⟩; have HF2 := Aside0.mk (HF1.out.trans' (((Fr.refl _ W1).drew).trans' hf2)); have HSH2 := Aside0.mk (HSH.out W2 g (HB.out W2 HF2.out) hF); have S2 := HG.out W2 HF2.out; clear hf2 hF)
          | (go_at_call 51; with_reducible refine HSH2.out.mono ?_; rintro e W3 ⟨Y, yl, yc, rfl, hsv, hf3⟩; have HSV := Aside0.mk hsv; have HF3 := Aside0.mk (HF2.out.trans' hf3); have S3 := HG.out W3 HF3.out; clear hsv hf3))
      clear HSH HSH2 HNW
      have hp3 := HB.out W3 HF3.out
      have HSP3 := Aside0.mk (HSP.out W3.drew (hp3.trans ((below_drew (Below.refl _ _)).mono hp3.size)))
      clear HSP S2 S3 hp3
      cases ok with
      | false =>
        obtain ⟨rfl, rfl, rfl⟩ := SV_no HSV.out rfl
        simp only [Bool.not_false] at hne
        clear HSV HPO HSA HSM
        go_wp2
        go_region_held3 (fun W => W.cell? ⟨s, 0, none⟩ = some (.int .i64 N) ∧ W.cell? ⟨s, 1, none⟩ = some (.int .i64 T) ∧ W.cell? ⟨s, 2, none⟩ = some (.int .i64 K) ∧ W.cell? ⟨s, 3, none⟩ = some (.int .i64 E) ∧ W.cell? ⟨s, 4, none⟩ = some (.int .i64 Rm))
          (first | exact S4 | exact HG.out _ (HF3.out.trans' ((Fr.refl _ W3).drew)))
          (first | (go_at_call 41; with_reducible refine HSP3.out.mono ?_; rintro e W4 ⟨B4, d4, rfl, hd4, hC4, hb4⟩; have HF34 := Aside0.mk ((Fr.refl (fun _ => False) W3).drew.below_ hb4); have HF4 := Aside0.mk (HF3.out.trans' HF34.out); have S4 := HG.out W4 HF4.out; clear hC4 hb4))
        go_wp2_with (go_at_call 42; with_reducible refine (HAN.out _).mono ?_; rintro e W5 ⟨rfl, hf5⟩)
        go_ret
        exact ⟨rfl, HB.out _ (HF4.out.trans' hf5)⟩
      | true =>
        obtain ⟨x, rfl, e1, e2, _, hrows⟩ := SV_yes HSV.out rfl
        obtain rfl : N = yl := e1.symm
        obtain rfl : N = yc := e2.symm
        have HRW := Aside0.mk hrows
        have HPO' := Aside0.mk (HPO.out rfl)
        simp only [Bool.not_true] at hne
        clear HSV hrows HPO
        go_wp2
        go_region_held3 (fun W => W.cell? ⟨s, 0, none⟩ = some (.int .i64 N) ∧ W.cell? ⟨s, 1, none⟩ = some (.int .i64 T) ∧ W.cell? ⟨s, 2, none⟩ = some (.int .i64 K) ∧ W.cell? ⟨s, 3, none⟩ = some (.int .i64 E) ∧ W.cell? ⟨s, 4, none⟩ = some (.int .i64 Rm))
          (first | exact S4 | exact HG.out _ (HF3.out.trans' ((Fr.refl _ W3).drew)))
          (first | (go_at_call 41; with_reducible refine HSP3.out.mono ?_; rintro e W4 ⟨B4, d4, rfl, hd4, hC4, hb4⟩; have HF34 := Aside0.mk ((Fr.refl (fun _ => False) W3).drew.below_ hb4); have HF4 := Aside0.mk (HF3.out.trans' HF34.out); have S4 := HG.out W4 HF4.out; clear hC4 hb4))
        clear HSP3
        go_wp2
        go_region_held3 (fun W => W.cell? ⟨s, 0, none⟩ = some (.int .i64 N) ∧ W.cell? ⟨s, 1, none⟩ = some (.int .i64 T) ∧ W.cell? ⟨s, 2, none⟩ = some (.int .i64 K) ∧ W.cell? ⟨s, 3, none⟩ = some (.int .i64 E) ∧ W.cell? ⟨s, 4, none⟩ = some (.int .i64 Rm))
          (first | exact S8 | exact S7 | exact S6 | exact S5 | exact HG.out _ (HF4.out.trans' ((Fr.refl _ W4).drew)))
          (first
            | (go_at_call 42; with_reducible refine (HAN.out _).mono ?_; rintro e W5 ⟨rfl, hf5⟩; have HF45 := Aside0.mk ((Fr.refl _ W4).drew.trans' hf5); have S5 := HG.out W5 (HF4.out.trans' HF45.out); have HPO5 := Aside0.mk (HPO'.out W5 (HB.out W5 (HF4.out.trans' HF45.out))); clear hf5)
            | (go_at_call 54; with_reducible refine HPO5.out.mono ?_; rintro e W6 ⟨B6, d6, rfl, hP6, hb6⟩; have HF46 := Aside0.mk (HF45.out.below_ hb6); have HS6 := Aside0.mk (HSA.out W6 B6 d6 (polyW_PL hP6)); have S6 := HG.out W6 (HF4.out.trans' HF46.out); clear hP6 hb6)
            | (go_at_call 53; with_reducible refine HS6.out.mono ?_; rintro e W7 ⟨g7, rfl, hg7, hR7, hb7⟩; have HF47 := Aside0.mk (HF46.out.below_ hb7); have HS7 := Aside0.mk (HSM.out W7 (some ⟨x, 0, none⟩) (some ⟨g7, 0, none⟩) N N (rows_PL (rows_fr HRW.out (HF34.out.trans' HF47.out))) (rows_PL hR7)); have S7 := HG.out W7 (HF4.out.trans' HF47.out); clear hR7 hb7)
            | (go_at_call 52; with_reducible refine HS7.out.mono ?_; rintro e W8 ⟨rfl, hd8⟩; have HF48 := Aside0.mk (HF47.out.trans' (Fr.of_drawn0 hd8)); have S8 := HG.out W8 (HF4.out.trans' HF48.out); clear hd8))
        all_goals
          go_wp2
          go_ret
          exact ⟨by simp, HB.out _ (HF4.out.trans' HF48.out)⟩
    · obtain ⟨w0, hw0, hz0, a0, hb0⟩ := heap1 w (Obj.cells #[.int .i64 N, .int .i64 T, .int .i64 K, .int .i64 E, .int .i64 Rm] 48)
      obtain ⟨s, hs⟩ : ∃ s, s = w.heap.size := ⟨_, rfl⟩
      rw [← hs] at a0
      have HG : Aside0 (∀ W, Fr (fun _ => False) w0 W → W.cell? ⟨s, 0, none⟩ = some (.int .i64 N)) := ⟨fun W hW => cell_at (hW.blk a0 (fun h => h)) rfl⟩
      have HB : Aside0 (∀ W, Fr (fun _ => False) w0 W → Below w.heap.size w W) := ⟨fun W hW => hb0.trans (hW.f_below.mono hb0.size)⟩
      have HS := Aside0.mk hs
      have HW0 := Aside0.mk hw0
      clear a0 hb0 hz0 hw0 hs hd hr hg hmx
      have hu48 := Try.underlying48
      unfold parV at *
      by_cases h60 : n ≤ 60
      · have h40 : ¬ N ≤ 40 := fun h => hsm ⟨h60, h⟩
        have h40I : (40 : Int) < (N : Int) := by omega
        clear hsm
        go_enter Try.func15, Try.ntmps15
        go_wp2_with (first | (go_at_call 44; rw [← HW0.out, ← HS.out]; with_reducible refine (HGR.out _).mono ?_; rintro e W1 ⟨rfl, hb1⟩; have HF1 := Aside0.mk (Fr.of_below hb1 (fun _ => False)); have v0 := HG.out W1 HF1.out; clear hb1) | (go_at_call 42; with_reducible refine (HAN.out _).mono ?_; rintro e W2 ⟨rfl, hf2⟩))
        go_ret
        exact ⟨rfl, HB.out _ (HF1.out.trans' hf2)⟩
      · have h60I : (60 : Int) < (n : Int) := by omega
        clear hsm h60
        go_enter Try.func15, Try.ntmps15
        go_wp2_with (first | (go_at_call 44; rw [← HW0.out, ← HS.out]; with_reducible refine (HGR.out _).mono ?_; rintro e W1 ⟨rfl, hb1⟩; have HF1 := Aside0.mk (Fr.of_below hb1 (fun _ => False)); have v0 := HG.out W1 HF1.out; clear hb1) | (go_at_call 42; with_reducible refine (HAN.out _).mono ?_; rintro e W2 ⟨rfl, hf2⟩))
        go_ret
        exact ⟨rfl, HB.out _ (HF1.out.trans' hf2)⟩
  · have hg' : goodB N T K E Rm = false := by simpa using hg
    rw [hg'] at HGR
    have hu48 := Try.underlying48
    unfold parV at *
    clear hg hg' hd hr hNb
    go_enter Try.func15, Try.ntmps15
    go_wp2_with (first | (go_at_call 44; with_reducible refine (HGR.out _).mono ?_; rintro e W1 ⟨rfl, hb1⟩; have HF1 := Aside0.mk (Fr.of_below hb1 (fun _ => False)); clear hb1) | (go_at_call 42; with_reducible refine (HAN.out _).mono ?_; rintro e W2 ⟨rfl, hf2⟩))
    go_ret
    exact ⟨rfl, (((Fr.refl (fun _ => False) w).alloc _).trans' (HF1.out.trans' hf2)).f_below⟩
end Go.Proofs.Ytpeiejkcoadhfaa
