/- What the view's laws take, Vt52: VwLc. -/
import Derived.Test.YtpeiejkcoadhfaaVt32
import Derived.Test.YtpeiejkcoadhfaaVt36
import Derived.Test.YtpeiejkcoadhfaaVt42
import Derived.Test.YtpeiejkcoadhfaaVt46
import Derived.Test.YtpeiejkcoadhfaaVt51
set_option linter.all false
namespace Go.Proofs.Ytpeiejkcoadhfaa
open Go.RowKit Go.Shelf Go.Proofs.YtpeiejkcoadhfaaW.PrintWords Go.Proofs.YtpeiejkcoadhfaaW.PrintMore
open Go.BigFrame
attribute [local go_sem] Oper.semAt_some
set_option maxRecDepth 100000 in
set_option maxHeartbeats 6400000 in
theorem runs_law (w0 : World) (cs : Array Value) (x : RunT) (hK : krun.K w0 x cs.toList) (hw : wfRun x) (size : Int) (hsz : (Lit.int .i64 size).wf = true) :
    Calls Try.prog 21 #[.agg cs, .int .i64 size] w0 fun e w' => e = .returned (.bool true) ∧ Below w0.heap.size w0 w' := by
  obtain ⟨N, T, K, E, Rm, A, nr, c, B, m, d, rs, ts, eagg, hN, hR, hnc, hnr, hsm, hT, hmd, hPL, hm⟩ := run_open hK hw
  rw [eagg]
  clear eagg hK hw hsz
  obtain ⟨W0, hW0, hz0, a0, hb0⟩ := heap1 w0 (Obj.cells #[.int .i64 N, .int .i64 T, .int .i64 K, .int .i64 E, .int .i64 Rm, .slice A nr c, .slice B m d] 77)
  have HANS := Aside0.mk (fun W => answers24 W)
  have HBT : Aside0 (∀ W W', Below W0.heap.size W0 W → Below W.heap.size W W' → Below W0.heap.size W0 W') := ⟨fun W W' h h' => h.trans (h'.mono h.size)⟩
  have HBW : Aside0 (∀ W, Below W0.heap.size W0 W → Below w0.heap.size w0 W) := ⟨fun W h => hb0.trans (h.mono hb0.size)⟩
  have HBR : Aside0 (Below W0.heap.size W0 W0) := ⟨Below.refl _ _⟩
  have HG : Aside0 (∀ W, Below W0.heap.size W0 W → W.cell? ⟨w0.heap.size, 0, none⟩ = some (.int .i64 N) ∧ W.cell? ⟨w0.heap.size, 1, none⟩ = some (.int .i64 T) ∧ W.cell? ⟨w0.heap.size, 2, none⟩ = some (.int .i64 K) ∧ W.cell? ⟨w0.heap.size, 3, none⟩ = some (.int .i64 E) ∧ W.cell? ⟨w0.heap.size, 4, none⟩ = some (.int .i64 Rm) ∧ W.cell? ⟨w0.heap.size, 5, none⟩ = some (.slice A nr c)) := ⟨fun W hW => by
    have h := blk_below a0 hW
    exact ⟨cell_at h rfl, cell_at h rfl, cell_at h rfl, cell_at h rfl, cell_at h rfl, cell_at h rfl⟩⟩
  obtain ⟨bm, hbm⟩ : ∃ bm, bm = decide (MayP N T K E Rm size rs) := ⟨_, rfl⟩
  have HMY : Aside0 (∀ W, Below W0.heap.size W0 W → Calls Try.prog 65 #[parV N T K E Rm, .int .i64 size, .slice A nr c] W fun e w' => e = .returned (.bool bm) ∧ Below W.heap.size W w') := ⟨fun W h => by
    rw [hbm]
    exact May_any W N T K E Rm size A nr c rs (RL_below hR (HBW.out W h)) hnr hsm hN⟩
  have HRM : Aside0 (∀ W, Below W0.heap.size W0 W → Calls Try.prog 66 #[parV N T K E Rm, .int .i64 size, .slice A nr c] W fun e w' => e = .returned (.bool bm) ∧ Below W.heap.size W w') := ⟨fun W h => by
    rw [hbm]
    exact RMay_any W N T K E Rm size A nr c rs (RL_below hR (HBW.out W h)) hnr hsm hN⟩
  obtain ⟨wl, hwl⟩ : ∃ wl, wl = wantL N T K E Rm size rs := ⟨_, rfl⟩
  obtain ⟨ll, hll⟩ : ∃ ll, ll = wl.length := ⟨_, rfl⟩
  have HTA : Aside0 (∀ W, Below W0.heap.size W0 W → Calls Try.prog 68 #[parV N T K E Rm, .int .i64 size, .slice A nr c] W fun e w' => ∃ X dx, e = .returned (.slice X ll dx) ∧ Kd.C kz w' X ll wl ∧ ll ≤ dx ∧ Below W.heap.size W w') := ⟨fun W h => by
    refine (Tapes_any W N T K E Rm size A nr c rs (RL_below hR (HBW.out W h)) hnr hsm hN).mono ?_
    rintro e w' ⟨X, dx, rfl, h1, h2⟩
    rw [← hwl] at h1
    rw [← hwl, ← hll]
    have h3 := Kd.R_reads' h1
    rw [← hll] at h3
    exact ⟨X, dx, rfl, h3.2.2, h3.2.1, h2⟩⟩
  have HTR : Aside0 (∀ W, Below W0.heap.size W0 W → Calls Try.prog 69 #[parV N T K E Rm, .int .i64 size, .slice A nr c] W fun e w' => ∃ X dx, e = .returned (.slice X ll dx) ∧ Kd.C kz w' X ll wl ∧ ll ≤ dx ∧ Below W.heap.size W w') := ⟨fun W h => by
    refine (RTapes_any W N T K E Rm size A nr c rs (RL_below hR (HBW.out W h)) hnc hnr hsm hN).mono ?_
    rintro e w' ⟨v, rfl, h1, h2⟩
    obtain ⟨X, dx, rfl⟩ := Kd.R_slice h1
    rw [← hwl] at h1
    rw [← hwl, ← hll]
    have h3 := Kd.R_reads' h1
    rw [← hll] at h3
    exact ⟨X, dx, rfl, h3.2.2, h3.2.1, h2⟩⟩
  have HCB : Aside0 (∀ W W' X, Kd.C kz W X ll wl → Below W.heap.size W W' → Kd.C kz W' X ll wl) := ⟨fun W W' X h h' => Kd.C_below h h'⟩
  have HSI : Aside0 (∀ W X dx Y dy, Kd.C kz W X ll wl → ll ≤ dx → Kd.C kz W Y ll wl → ll ≤ dy → Calls Try.prog 67 #[.slice X ll dx, .slice Y ll dy] W fun e w' => e = .returned (.bool true) ∧ Drawn0 W w') := ⟨fun W X dx Y dy h1 h2 h3 h4 => by
    have h := SameInts_any W X Y ll ll dx dy wl wl h1 h3 h2 h4 h1.2.1
    rw [decide_eq_true rfl] at h
    exact h⟩
  have HPD : Aside0 (∀ W W', Below W0.heap.size W0 W → Drawn0 W W' → Below W0.heap.size W0 W') := ⟨fun W W' h hd => by obtain ⟨k, rfl⟩ := hd; exact below_drawN h k⟩
  have HW0 := Aside0.mk hW0
  have hu48 := Try.underlying48
  have hu77 := Try.underlying77
  have y := HG.out W0 (Below.refl _ _)
  rw [HW0.out] at y
  clear hR hsm hT hPL hW0 hz0 a0 hb0 hN hbm hwl hll hm hmd
  unfold runV parV at *
  by_cases c1 : 30 < nr ∧ nr ≤ 1024
  · obtain ⟨y0, y1, y2, y3, y4, y5⟩ := y
    have h1 : (30 : Int) < (nr : Int) := by omega
    have h2 : (nr : Int) ≤ 1024 := by omega
    clear c1
    go_enter Try.func21, Try.ntmps21
    go_wp2_with (go_at_call 64; rw [← HW0.out]; with_reducible refine (HANS.out _).mono ?_; rintro e w9 ⟨rfl, hb9⟩; have HB9 := Aside0.mk (HBT.out _ _ HBR.out hb9); clear hb9)
    go_ret
    exact ⟨rfl, HBW.out _ HB9.out⟩
  · by_cases c2 : 100 < N
    · by_cases c3 : 30 < nr
      · obtain ⟨y0, y1, y2, y3, y4, y5⟩ := y
        have h1 : (30 : Int) < (nr : Int) := by omega
        have h2 : ¬ (nr : Int) ≤ 1024 := by omega
        clear c1
        go_enter Try.func21, Try.ntmps21
        go_wp2_with (go_at_call 64; rw [← HW0.out]; with_reducible refine (HANS.out _).mono ?_; rintro e w9 ⟨rfl, hb9⟩; have HB9 := Aside0.mk (HBT.out _ _ HBR.out hb9); clear hb9)
        go_ret
        exact ⟨rfl, HBW.out _ HB9.out⟩
      · obtain ⟨y0, y1, y2, y3, y4, y5⟩ := y
        have h1 : ¬ (30 : Int) < (nr : Int) := by omega
        clear c1
        go_enter Try.func21, Try.ntmps21
        go_wp2_with (go_at_call 64; rw [← HW0.out]; with_reducible refine (HANS.out _).mono ?_; rintro e w9 ⟨rfl, hb9⟩; have HB9 := Aside0.mk (HBT.out _ _ HBR.out hb9); clear hb9)
        go_ret
        exact ⟨rfl, HBW.out _ HB9.out⟩
    · obtain ⟨y0, y1, y2, y3, y4, y5⟩ := y
      by_cases c3 : 30 < nr
      case' pos =>
        have h1 : (30 : Int) < (nr : Int) := by omega
        have h2 : ¬ (nr : Int) ≤ 1024 := by omega
      case' neg =>
        have h1 : ¬ (30 : Int) < (nr : Int) := by omega
      all_goals
        clear c1
        go_enter Try.func21, Try.ntmps21
        go_wp2
        rw [← HW0.out]
        have HB0d : Aside0 (Below W0.heap.size W0 W0.drew) := ⟨(Below.refl _ _).drew⟩
        have k0 := Aside0.mk (HG.out _ HB0d.out)
        clear y0 y1 y2 y3 y4 y5
        refine wp_region_held_drew (S := (fun W => W.cell? ⟨w0.heap.size, 0, none⟩ = some (.int .i64 N) ∧ W.cell? ⟨w0.heap.size, 1, none⟩ = some (.int .i64 T) ∧ W.cell? ⟨w0.heap.size, 2, none⟩ = some (.int .i64 K) ∧ W.cell? ⟨w0.heap.size, 3, none⟩ = some (.int .i64 E) ∧ W.cell? ⟨w0.heap.size, 4, none⟩ = some (.int .i64 Rm) ∧ W.cell? ⟨w0.heap.size, 5, none⟩ = some (.slice A nr c))) (by kernel_rfl) (k0.out) (fun hS => ?_)
        refine wpAnyH_ready (rs := [0]) (by kernel_rfl) (by simp) ?_
        refine AllReadyH.cons rfl (fun K hK => ?_) AllReadyH.nil
        rw [if_pos (by rfl)]
        go_simp
        go_at_call 64; with_reducible refine (HANS.out _).mono ?_; rintro e w1 ⟨rfl, hb1⟩; have HB1 := Aside0.mk (HBT.out _ _ HB0d.out hb1); have k1 := Aside0.mk (HG.out _ HB1.out); clear hb1
        refine hK.out _ _ (by first | with_reducible exact k6.out | with_reducible exact k5.out | with_reducible exact k4.out | with_reducible exact k3.out | with_reducible exact k2.out | with_reducible exact k1.out) (fun hS2 => ?_)
        clear hK K hS
        have hS := hS2
        clear hS2
        try simp only [Act.put, List.setIfInBounds_toArray, List.set_cons_zero, List.set_cons_succ]
        refine takeD 1 23 (v := ?_) rfl rfl (by kernel_rfl) (by kernel_rfl) (by kernel_rfl) (fun _ _ _ h => h) (Or.inl ⟨by rfl, ?_⟩) hS ?_
        rotate_left 1
        focus (intro w hSw; (try dsimp only at hSw); go_simp; (try with_reducible rfl); done)
        try simp only [Act.put, List.setIfInBounds_toArray, List.set_cons_zero, List.set_cons_succ]
        refine takeD 2 24 (v := ?_) rfl rfl (by kernel_rfl) (by kernel_rfl) (by kernel_rfl) (fun _ _ _ h => h) (Or.inl ⟨by rfl, ?_⟩) hS ?_
        rotate_left 1
        focus (intro w hSw; (try dsimp only at hSw); go_simp; (try with_reducible rfl); done)
        try simp only [Act.put, List.setIfInBounds_toArray, List.set_cons_zero, List.set_cons_succ]
        refine takeD 3 25 (v := ?_) rfl rfl (by kernel_rfl) (by kernel_rfl) (by kernel_rfl) (fun _ _ _ h => h) (Or.inl ⟨by rfl, ?_⟩) hS ?_
        rotate_left 1
        focus (intro w hSw; (try dsimp only at hSw); go_simp; (try with_reducible rfl); done)
        try simp only [Act.put, List.setIfInBounds_toArray, List.set_cons_zero, List.set_cons_succ]
        refine takeD 4 26 (v := ?_) rfl rfl (by kernel_rfl) (by kernel_rfl) (by kernel_rfl) (fun _ _ _ h => h) (Or.inl ⟨by rfl, ?_⟩) hS ?_
        rotate_left 1
        focus (intro w hSw; (try dsimp only at hSw); go_simp; (try with_reducible rfl); done)
        try simp only [Act.put, List.setIfInBounds_toArray, List.set_cons_zero, List.set_cons_succ]
        refine takeD 5 27 (v := ?_) rfl rfl (by kernel_rfl) (by kernel_rfl) (by kernel_rfl) (fun _ _ _ h => h) (Or.inl ⟨by rfl, ?_⟩) hS ?_
        rotate_left 1
        focus (intro w hSw; (try dsimp only at hSw); go_simp; (try with_reducible rfl); done)
        try simp only [Act.put, List.setIfInBounds_toArray, List.set_cons_zero, List.set_cons_succ]
        refine takeD 6 28 (v := ?_) rfl rfl (by kernel_rfl) (by kernel_rfl) (by kernel_rfl) (fun _ _ _ h => h) (Or.inl ⟨by rfl, ?_⟩) hS ?_
        rotate_left 1
        focus (intro w hSw; (try dsimp only at hSw); go_simp; (try with_reducible rfl); done)
        try simp only [Act.put, List.setIfInBounds_toArray, List.set_cons_zero, List.set_cons_succ]
        refine takeD 8 30 (v := ?_) rfl rfl (by kernel_rfl) (by kernel_rfl) (by kernel_rfl) (fun _ _ _ h => h) (Or.inl ⟨by rfl, ?_⟩) hS ?_
        rotate_left 1
        focus (intro w hSw; (try dsimp only at hSw); go_simp; (try with_reducible rfl); done)
        try simp only [Act.put, List.setIfInBounds_toArray, List.set_cons_zero, List.set_cons_succ]
        refine takeD 9 31 (v := ?_) rfl rfl (by kernel_rfl) (by kernel_rfl) (by kernel_rfl) (fun _ _ _ h => h) (Or.inl ⟨by rfl, ?_⟩) hS ?_
        rotate_left 1
        focus (intro w hSw; (try dsimp only at hSw); go_simp; (try with_reducible rfl); done)
        try simp only [Act.put, List.setIfInBounds_toArray, List.set_cons_zero, List.set_cons_succ]
        refine takeD 10 32 (v := ?_) rfl rfl (by kernel_rfl) (by kernel_rfl) (by kernel_rfl) (fun _ _ _ h => h) (Or.inl ⟨by rfl, ?_⟩) hS ?_
        rotate_left 1
        focus (intro w hSw; (try dsimp only at hSw); go_simp; (try with_reducible rfl); done)
        try simp only [Act.put, List.setIfInBounds_toArray, List.set_cons_zero, List.set_cons_succ]
        refine takeD 11 33 (v := ?_) rfl rfl (by kernel_rfl) (by kernel_rfl) (by kernel_rfl) (fun _ _ _ h => h) (Or.inl ⟨by rfl, ?_⟩) hS ?_
        rotate_left 1
        focus (intro w hSw; (try dsimp only at hSw); go_simp; (try with_reducible rfl); done)
        try simp only [Act.put, List.setIfInBounds_toArray, List.set_cons_zero, List.set_cons_succ]
        refine takeD 12 34 (v := ?_) rfl rfl (by kernel_rfl) (by kernel_rfl) (by kernel_rfl) (fun _ _ _ h => h) (Or.inl ⟨by rfl, ?_⟩) hS ?_
        rotate_left 1
        focus (intro w hSw; (try dsimp only at hSw); go_simp; (try with_reducible rfl); done)
        try simp only [Act.put, List.setIfInBounds_toArray, List.set_cons_zero, List.set_cons_succ]
        refine wpAnyH_ready (rs := [7]) (by kernel_rfl) (by simp) ?_
        refine AllReadyH.cons rfl (fun K hK => ?_) AllReadyH.nil
        rw [if_pos (by rfl)]
        go_simp
        go_at_call 65; with_reducible refine (HMY.out _ HB1.out).mono ?_; rintro e w2 ⟨rfl, hb2⟩; have HB2 := Aside0.mk (HBT.out _ _ HB1.out hb2); have k2 := Aside0.mk (HG.out _ HB2.out); clear hb2
        refine hK.out _ _ (by first | with_reducible exact k6.out | with_reducible exact k5.out | with_reducible exact k4.out | with_reducible exact k3.out | with_reducible exact k2.out | with_reducible exact k1.out) (fun hS2 => ?_)
        clear hK K hS
        have hS := hS2
        clear hS2
        try simp only [Act.put, List.setIfInBounds_toArray, List.set_cons_zero, List.set_cons_succ]
        refine wpAnyH_ready (rs := [13]) (by kernel_rfl) (by simp) ?_
        refine AllReadyH.cons rfl (fun K hK => ?_) AllReadyH.nil
        rw [if_pos (by rfl)]
        go_simp
        go_at_call 66; with_reducible refine (HRM.out _ HB2.out).mono ?_; rintro e w3 ⟨rfl, hb3⟩; have HB3 := Aside0.mk (HBT.out _ _ HB2.out hb3); have k3 := Aside0.mk (HG.out _ HB3.out); clear hb3
        refine hK.out _ _ (by first | with_reducible exact k6.out | with_reducible exact k5.out | with_reducible exact k4.out | with_reducible exact k3.out | with_reducible exact k2.out | with_reducible exact k1.out) (fun hS2 => ?_)
        clear hK K hS
        have hS := hS2
        clear hS2
        try simp only [Act.put, List.setIfInBounds_toArray, List.set_cons_zero, List.set_cons_succ]
        refine takeD 14 36 (v := ?_) rfl rfl (by kernel_rfl) (by kernel_rfl) (by kernel_rfl) (fun _ _ _ h => h) (Or.inl ⟨by rfl, ?_⟩) hS ?_
        rotate_left 1
        focus (intro w hSw; (try dsimp only at hSw); go_simp; (try with_reducible rfl); done)
        try simp only [Act.put, List.setIfInBounds_toArray, List.set_cons_zero, List.set_cons_succ]
        refine takeD 15 37 (v := ?_) rfl rfl (by kernel_rfl) (by kernel_rfl) (by kernel_rfl) (fun _ _ _ h => h) (Or.inl ⟨by rfl, ?_⟩) hS ?_
        rotate_left 1
        focus (intro w hSw; (try dsimp only at hSw); go_simp; (try with_reducible rfl); done)
        try simp only [Act.put, List.setIfInBounds_toArray, List.set_cons_zero, List.set_cons_succ]
        refine takeD 16 38 (v := ?_) rfl rfl (by kernel_rfl) (by kernel_rfl) (by kernel_rfl) (fun _ _ _ h => h) (Or.inl ⟨by rfl, ?_⟩) hS ?_
        rotate_left 1
        focus (intro w hSw; (try dsimp only at hSw); go_simp; (try with_reducible rfl); done)
        try simp only [Act.put, List.setIfInBounds_toArray, List.set_cons_zero, List.set_cons_succ]
        refine takeD 17 39 (v := ?_) rfl rfl (by kernel_rfl) (by kernel_rfl) (by kernel_rfl) (fun _ _ _ h => h) (Or.inl ⟨by rfl, ?_⟩) hS ?_
        rotate_left 1
        focus (intro w hSw; (try dsimp only at hSw); go_simp; (try with_reducible rfl); done)
        try simp only [Act.put, List.setIfInBounds_toArray, List.set_cons_zero, List.set_cons_succ]
        refine takeD 18 40 (v := ?_) rfl rfl (by kernel_rfl) (by kernel_rfl) (by kernel_rfl) (fun _ _ _ h => h) (Or.inl ⟨by rfl, ?_⟩) hS ?_
        rotate_left 1
        focus (intro w hSw; (try dsimp only at hSw); go_simp; (try with_reducible rfl); done)
        try simp only [Act.put, List.setIfInBounds_toArray, List.set_cons_zero, List.set_cons_succ]
        refine takeD 19 41 (v := ?_) rfl rfl (by kernel_rfl) (by kernel_rfl) (by kernel_rfl) (fun _ _ _ h => h) (Or.inl ⟨by rfl, ?_⟩) hS ?_
        rotate_left 1
        focus (intro w hSw; (try dsimp only at hSw); go_simp; (try with_reducible rfl); done)
        try simp only [Act.put, List.setIfInBounds_toArray, List.set_cons_zero, List.set_cons_succ]
        refine takeD 20 42 (v := ?_) rfl rfl (by kernel_rfl) (by kernel_rfl) (by kernel_rfl) (fun _ _ _ h => h) (Or.inl ⟨by rfl, ?_⟩) hS ?_
        rotate_left 1
        focus (intro w hSw; (try dsimp only at hSw); go_simp; (try with_reducible rfl); done)
        try simp only [Act.put, List.setIfInBounds_toArray, List.set_cons_zero, List.set_cons_succ]
        refine takeD 21 43 (v := ?_) rfl rfl (by kernel_rfl) (by kernel_rfl) (by kernel_rfl) (fun _ _ _ h => h) (Or.inl ⟨by rfl, ?_⟩) hS ?_
        rotate_left 1
        focus (intro w hSw; (try dsimp only at hSw); go_simp; (try with_reducible rfl); done)
        try simp only [Act.put, List.setIfInBounds_toArray, List.set_cons_zero, List.set_cons_succ]
        refine takeD 23 45 (v := ?_) rfl rfl (by kernel_rfl) (by kernel_rfl) (by kernel_rfl) (fun _ _ _ h => h) (Or.inl ⟨by rfl, ?_⟩) hS ?_
        rotate_left 1
        focus (intro w hSw; (try dsimp only at hSw); go_simp; (try with_reducible rfl); done)
        try simp only [Act.put, List.setIfInBounds_toArray, List.set_cons_zero, List.set_cons_succ]
        refine takeD 24 46 (v := ?_) rfl rfl (by kernel_rfl) (by kernel_rfl) (by kernel_rfl) (fun _ _ _ h => h) (Or.inl ⟨by rfl, ?_⟩) hS ?_
        rotate_left 1
        focus (intro w hSw; (try dsimp only at hSw); go_simp; (try with_reducible rfl); done)
        try simp only [Act.put, List.setIfInBounds_toArray, List.set_cons_zero, List.set_cons_succ]
        refine takeD 25 47 (v := ?_) rfl rfl (by kernel_rfl) (by kernel_rfl) (by kernel_rfl) (fun _ _ _ h => h) (Or.inl ⟨by rfl, ?_⟩) hS ?_
        rotate_left 1
        focus (intro w hSw; (try dsimp only at hSw); go_simp; (try with_reducible rfl); done)
        try simp only [Act.put, List.setIfInBounds_toArray, List.set_cons_zero, List.set_cons_succ]
        refine takeD 26 48 (v := ?_) rfl rfl (by kernel_rfl) (by kernel_rfl) (by kernel_rfl) (fun _ _ _ h => h) (Or.inl ⟨by rfl, ?_⟩) hS ?_
        rotate_left 1
        focus (intro w hSw; (try dsimp only at hSw); go_simp; (try with_reducible rfl); done)
        try simp only [Act.put, List.setIfInBounds_toArray, List.set_cons_zero, List.set_cons_succ]
        refine takeD 27 49 (v := ?_) rfl rfl (by kernel_rfl) (by kernel_rfl) (by kernel_rfl) (fun _ _ _ h => h) (Or.inl ⟨by rfl, ?_⟩) hS ?_
        rotate_left 1
        focus (intro w hSw; (try dsimp only at hSw); go_simp; (try with_reducible rfl); done)
        try simp only [Act.put, List.setIfInBounds_toArray, List.set_cons_zero, List.set_cons_succ]
        refine wpAnyH_ready (rs := [22]) (by kernel_rfl) (by simp) ?_
        refine AllReadyH.cons rfl (fun K hK => ?_) AllReadyH.nil
        rw [if_pos (by rfl)]
        go_simp
        go_at_call 68; with_reducible refine (HTA.out _ HB3.out).mono ?_; rintro e w4 ⟨X, dx, rfl, hX, hdx, hb4⟩; have HB4 := Aside0.mk (HBT.out _ _ HB3.out hb4); have HX := Aside0.mk hX; have HDX := Aside0.mk hdx; have k4 := Aside0.mk (HG.out _ HB4.out); clear hb4 hX hdx
        refine hK.out _ _ (by first | with_reducible exact k6.out | with_reducible exact k5.out | with_reducible exact k4.out | with_reducible exact k3.out | with_reducible exact k2.out | with_reducible exact k1.out) (fun hS2 => ?_)
        clear hK K hS
        have hS := hS2
        clear hS2
        try simp only [Act.put, List.setIfInBounds_toArray, List.set_cons_zero, List.set_cons_succ]
        refine wpAnyH_ready (rs := [28]) (by kernel_rfl) (by simp) ?_
        refine AllReadyH.cons rfl (fun K hK => ?_) AllReadyH.nil
        rw [if_pos (by rfl)]
        go_simp
        go_at_call 69; with_reducible refine (HTR.out _ HB4.out).mono ?_; rintro e w5 ⟨Y, dy, rfl, hY, hdy, hb5⟩; have HB5 := Aside0.mk (HBT.out _ _ HB4.out hb5); have HX5 := Aside0.mk (HCB.out _ _ _ HX.out hb5); have HY := Aside0.mk hY; have HDY := Aside0.mk hdy; have k5 := Aside0.mk (HG.out _ HB5.out); clear hb5 hY hdy
        refine hK.out _ _ (by first | with_reducible exact k6.out | with_reducible exact k5.out | with_reducible exact k4.out | with_reducible exact k3.out | with_reducible exact k2.out | with_reducible exact k1.out) (fun hS2 => ?_)
        clear hK K hS
        have hS := hS2
        clear hS2
        try simp only [Act.put, List.setIfInBounds_toArray, List.set_cons_zero, List.set_cons_succ]
        refine wpAnyH_ready (rs := [29]) (by kernel_rfl) (by simp) ?_
        refine AllReadyH.cons rfl (fun K hK => ?_) AllReadyH.nil
        rw [if_pos (by rfl)]
        go_simp
        go_at_call 67; with_reducible refine (HSI.out _ _ _ _ _ HX5.out HDX.out HY.out HDY.out).mono ?_; rintro e w6 ⟨rfl, hd6⟩; have HB6 := Aside0.mk (HPD.out _ _ HB5.out hd6); have k6 := Aside0.mk (HG.out _ HB6.out); clear hd6
        refine hK.out _ _ (by first | with_reducible exact k6.out | with_reducible exact k5.out | with_reducible exact k4.out | with_reducible exact k3.out | with_reducible exact k2.out | with_reducible exact k1.out) (fun hS2 => ?_)
        clear hK K hS
        have hS := hS2
        clear hS2
        try simp only [Act.put, List.setIfInBounds_toArray, List.set_cons_zero, List.set_cons_succ]
        refine takeD 30 52 (v := ?_) rfl rfl (by kernel_rfl) (by kernel_rfl) (by kernel_rfl) (fun _ _ _ h => h) (Or.inl ⟨by rfl, ?_⟩) hS ?_
        rotate_left 1
        focus (intro w hSw; (try dsimp only at hSw); go_simp; (try with_reducible rfl); done)
        try simp only [Act.put, List.setIfInBounds_toArray, List.set_cons_zero, List.set_cons_succ]
        refine takeD 31 4 (v := ?_) rfl rfl (by kernel_rfl) (by kernel_rfl) (by kernel_rfl) (fun _ _ _ h => h) (Or.inl ⟨by rfl, ?_⟩) hS ?_
        rotate_left 1
        focus (intro w hSw; (try dsimp only at hSw); go_simp; (try with_reducible rfl); done)
        try simp only [Act.put, List.setIfInBounds_toArray, List.set_cons_zero, List.set_cons_succ]
        refine wpAnyH_done (by kernel_rfl) ?_ _
        clear hS k0 k1 k2 k3 k4 k5 k6
        go_wp2
        go_ret
        exact ⟨by simp, HBW.out _ HB6.out⟩
end Go.Proofs.Ytpeiejkcoadhfaa
