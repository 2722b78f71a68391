/- What the view's laws take, Vt49: VwLb. -/
import Derived.Test.YtpeiejkcoadhfaaVt32
import Derived.Test.YtpeiejkcoadhfaaVt36
import Derived.Test.YtpeiejkcoadhfaaVt42
import Derived.Test.YtpeiejkcoadhfaaVt46
set_option linter.all false
namespace Go.Proofs.Ytpeiejkcoadhfaa
open Go.RowKit Go.Shelf Go.Proofs.YtpeiejkcoadhfaaW.PrintWords Go.Proofs.YtpeiejkcoadhfaaW.PrintMore
open Go.BigFrame
attribute [local go_sem] Oper.semAt_some
set_option maxRecDepth 100000 in
set_option maxHeartbeats 6400000 in
theorem unlike_law (w : World) (cs : Array Value) (x : RunT) (hK : krun.K w x cs.toList) (hw : wfRun x) (Q : Option Addr) (mq cq : Nat) (lq : List (List Int)) (hlq : lq.length = mq) (hCq : Kd.C u8s w Q mq lq) (hcq : mq ≤ cq) (hwq : ∀ r ∈ lq, ∀ a ∈ r, (Lit.int .u8 a).wf = true)
    (D : Option Addr) (len cd : Nat) (l : List Int) (hl : l.length = len) (hC : Kd.C u8 w D len l) (hlc : len ≤ cd) (hwl : ∀ a ∈ l, (Lit.int .u8 a).wf = true) (D2 : Option Addr) (len2 cd2 : Nat) (l2 : List Int) (hl2 : l2.length = len2) (hC2 : Kd.C u8 w D2 len2 l2) (hlc2 : len2 ≤ cd2) (hwl2 : ∀ a ∈ l2, (Lit.int .u8 a).wf = true) :
    Calls Try.prog 24 #[.agg cs, .slice Q mq cq, .slice D len cd, .slice D2 len2 cd2] w fun e w' => e = .returned (.bool true) ∧ Below w.heap.size w w' := by
  obtain ⟨N, T, K, E, Rm, A, nr, c, B, m, d, rs, ts, eagg, hN, hR, hnc, hnr, hsm, hT, hmd, hPL, hm⟩ := run_open hK hw
  rw [eagg]
  clear eagg hK hw
  obtain ⟨p, rfl⟩ := bytes_F l hwl
  have hD := C_bs.1 hC
  obtain ⟨p2, rfl⟩ := bytes_F l2 hwl2
  have hD2 := C_bs.1 hC2
  obtain ⟨os, rfl⟩ := rows_F lq hwq
  have hPQ := PL_u8s hCq
  have hmq : mq ≤ 9223372036854775807 := hCq.2.1
  obtain ⟨W0, hW0, hz0, a0, hb0⟩ := heap1 w (Obj.cells #[.int .i64 N, .int .i64 T, .int .i64 K, .int .i64 E, .int .i64 Rm, .slice A nr c, .slice B m d] 77)
  have HANS := Aside0.mk (fun W => answers24 W)
  have HBT : Aside0 (∀ W W', Below W0.heap.size W0 W → Below W.heap.size W W' → Below W0.heap.size W0 W') := ⟨fun W W' h h' => h.trans (h'.mono h.size)⟩
  have HBW : Aside0 (∀ W, Below W0.heap.size W0 W → Below w.heap.size w W) := ⟨fun W h => hb0.trans (h.mono hb0.size)⟩
  have HBR : Aside0 (Below W0.heap.size W0 W0) := ⟨Below.refl _ _⟩
  obtain ⟨s, hs⟩ : ∃ s, s = w.heap.size := ⟨_, rfl⟩
  rw [← hs] at a0
  have HS := Aside0.mk hs
  have HG : Aside0 (∀ W, Below W0.heap.size W0 W → W.cell? ⟨s, 0, none⟩ = some (.int .i64 N) ∧ W.cell? ⟨s, 1, none⟩ = some (.int .i64 T) ∧ W.cell? ⟨s, 2, none⟩ = some (.int .i64 K) ∧ W.cell? ⟨s, 3, none⟩ = some (.int .i64 E) ∧ W.cell? ⟨s, 4, none⟩ = some (.int .i64 Rm) ∧ W.cell? ⟨s, 5, none⟩ = some (.slice A nr c) ∧ W.cell? ⟨s, 6, none⟩ = some (.slice B m d)) := ⟨fun W hW => by
    have h := blk_below a0 hW
    exact ⟨cell_at h rfl, cell_at h rfl, cell_at h rfl, cell_at h rfl, cell_at h rfl, cell_at h rfl, cell_at h rfl⟩⟩
  have HSML := Aside0.mk (small_any W0 N T K E Rm len A nr c rs (RL_below hR hb0) hnc B m d (ts.map bs) (Kd.C_below hT hb0) hmd hm)
  have HRT : Aside0 (∀ W, Below W0.heap.size W0 W → Calls Try.prog 72 #[parV N T K E Rm, .int .i64 len, .slice A nr c, .slice B m d] W fun e w' => e = .returned (.bool (decide (RightP N T K E Rm len rs (ts.map List.length)))) ∧ Below W.heap.size W w') := ⟨fun W h => RRight_any W N T K E Rm len A nr c rs (RL_below hR (HBW.out W h)) hnc hnr hsm hN B m d ts (Kd.C_below hT (HBW.out W h)) hmd hm⟩
  have HRQ : Aside0 (∀ W, Below W0.heap.size W0 W → Calls Try.prog 72 #[parV N T K E Rm, .int .i64 len, .slice A nr c, .slice Q mq cq] W fun e w' => e = .returned (.bool (decide (RightP N T K E Rm len rs (os.map List.length)))) ∧ Below W.heap.size W w') := ⟨fun W h => RRight_any W N T K E Rm len A nr c rs (RL_below hR (HBW.out W h)) hnc hnr hsm hN Q mq cq os (Kd.C_below hCq (HBW.out W h)) hcq hmq⟩
  have HW0 := Aside0.mk hW0
  have hu48 := Try.underlying48
  have hu77 := Try.underlying77
  by_cases c1 : SmallP N len rs (ts.map bs)
  · rw [decide_eq_true c1] at HSML
    by_cases c0 : len = len2
    · subst c0
      have hnb : ((len : Int) != (len : Int)) = false := by simp
      by_cases c2 : RightP N T K E Rm len rs (ts.map List.length)
      · rw [decide_eq_true c2] at HRT
        by_cases c3 : RightP N T K E Rm len rs (os.map List.length)
        · rw [decide_eq_true c3] at HRQ
          obtain ⟨nN, nT, nK, rfl, rfl, rfl, -, -, -, -, -, -, -⟩ := gd_nat2 c2.1.1
          have hml : m ≤ 200 := by have := c1.2.2.2.2; rw [List.length_map, PL_len hPL] at this; exact this
          have hmo : mq ≤ 200 := by
            obtain ⟨_, _, h1, h2, h3, _⟩ := right_of c2
            obtain ⟨_, _, k1, k2, k3, _⟩ := right_of c3
            have e1 := c2.2
            rw [← c3.2] at e1
            have e2 := congrArg List.length e1
            rw [List.length_map, List.length_map, List.length_map, List.length_map, PL_len hPL, PL_len hPQ] at e2
            omega
          have HT1 : Aside0 (∀ W, Below W0.heap.size W0 W → Calls Try.prog 74 #[parV nN nT nK E Rm, .slice D len cd, .slice D2 len cd2, .slice A nr c, .slice B m d] W fun e w' => ∃ O co, e = .returned (.tuple #[.slice O m co, .bool true]) ∧ PL w' O m (turnF nN nT nK p p2 rs ts) ∧ Below W.heap.size W w') := ⟨fun W h => by
            refine (Turn_yes W nN nT nK E Rm D len cd p (Kd.C_below hD (HBW.out W h)) hlc D2 cd2 p2 (Kd.C_below hD2 (HBW.out W h)) hlc2 A nr c rs (RL_below hR (HBW.out W h)) hsm B m d ts (PL_below hPL (HBW.out W h)) (by omega) c2).mono ?_
            rintro e w' ⟨O, co, rfl, h1, h2, h3⟩
            exact ⟨O, co, rfl, h1, h3⟩⟩
          have HT2 : Aside0 (∀ W, Below W0.heap.size W0 W → Calls Try.prog 74 #[parV nN nT nK E Rm, .slice D len cd, .slice D2 len cd2, .slice A nr c, .slice Q mq cq] W fun e w' => ∃ O co, e = .returned (.tuple #[.slice O mq co, .bool true]) ∧ PL w' O mq (turnF nN nT nK p p2 rs os) ∧ Below W.heap.size W w') := ⟨fun W h => by
            refine (Turn_yes W nN nT nK E Rm D len cd p (Kd.C_below hD (HBW.out W h)) hlc D2 cd2 p2 (Kd.C_below hD2 (HBW.out W h)) hlc2 A nr c rs (RL_below hR (HBW.out W h)) hsm Q mq cq os (PL_below hPQ (HBW.out W h)) (by omega) c3).mono ?_
            rintro e w' ⟨O, co, rfl, h1, h2, h3⟩
            exact ⟨O, co, rfl, h1, h3⟩⟩
          obtain ⟨bq, hbq⟩ : ∃ bq, bq = decide (ts = os) := ⟨_, rfl⟩
          have hun := unlike_p (a := p) (b := p2) c2 c3
          rw [← hbq] at hun
          obtain ⟨t1, ht1⟩ : ∃ t1, t1 = turnF nN nT nK p p2 rs ts := ⟨_, rfl⟩
          obtain ⟨t2, ht2⟩ : ∃ t2, t2 = turnF nN nT nK p p2 rs os := ⟨_, rfl⟩
          rw [← ht1] at HT1 hun
          rw [← ht2] at HT2 hun
          have HS1 : Aside0 (∀ W O co O2 co2, PL W O m t1 → PL W O2 mq t2 → Calls Try.prog 52 #[.slice O m co, .slice O2 mq co2] W fun e w' => e = .returned (.bool bq) ∧ Drawn0 W w') := ⟨fun W O co O2 co2 h1 h2 => by
            have h := RSame_any W O O2 m mq co co2 t1 t2 h1 h2 (by omega) (by omega)
            rw [hun] at h
            exact h⟩
          have HS2 : Aside0 (∀ W, Below W0.heap.size W0 W → Calls Try.prog 52 #[.slice B m d, .slice Q mq cq] W fun e w' => e = .returned (.bool bq) ∧ Drawn0 W w') := ⟨fun W h => by
            rw [hbq]
            exact RSame_any W B Q m mq d cq ts os (PL_below hPL (HBW.out W h)) (PL_below hPQ (HBW.out W h)) (by omega) (by omega)⟩
          have HPLB1 : Aside0 (∀ W W' O, PL W O m t1 → Below W.heap.size W W' → PL W' O m t1) := ⟨fun W W' O h h' => PL_below h h'⟩
          have HPLB2 : Aside0 (∀ W W' O, PL W O mq t2 → Below W.heap.size W W' → PL W' O mq t2) := ⟨fun W W' O h h' => PL_below h h'⟩
          have HPD : Aside0 (∀ W W', Below W0.heap.size W0 W → Drawn0 W W' → Below W0.heap.size W0 W') := ⟨fun W W' h hd => by obtain ⟨k, rfl⟩ := hd; exact below_drawN h k⟩
          clear hR hsm hT hPL hPQ hCq hwq hD hC hwl hD2 hC2 hwl2 hW0 hz0 a0 hb0 hs c1 c2 c3 hl hl2 hlq hN hun ht1 ht2 hbq
          unfold runV parV at *
          go_enter Try.func24, Try.ntmps24
          go_wp2_with (first
            | (go_at_call 70; rw [← HW0.out, ← HS.out]; with_reducible refine HSML.out.mono ?_; rintro e w1 ⟨rfl, hb1⟩; have HB1 := Aside0.mk (HBT.out _ _ HBR.out hb1); obtain ⟨p0, p1, p2, p3, p4, p5, p6⟩ := HG.out w1 HB1.out; clear hb1)
            | (go_at_call 72; first
                | (with_reducible refine (HRT.out w1 HB1.out).mono ?_; rintro e w2 ⟨rfl, hb2⟩; have HB2 := Aside0.mk (HBT.out _ _ HB1.out hb2); obtain ⟨p0, p1, p2, p3, p4, p5, p6⟩ := HG.out w2 HB2.out; clear hb2)
                | (with_reducible refine (HRQ.out w2 HB2.out).mono ?_; rintro e w3 ⟨rfl, hb3⟩; have HB3 := Aside0.mk (HBT.out _ _ HB2.out hb3); obtain ⟨p0, p1, p2, p3, p4, p5, p6⟩ := HG.out w3 HB3.out; clear hb3))
            | (go_at_call 74; first
                | (with_reducible refine (HT1.out w3 HB3.out).mono ?_; rintro e w4 ⟨O1, co1, rfl, hP1, hb4⟩; have HB4 := Aside0.mk (HBT.out _ _ HB3.out hb4); have HP1 := Aside0.mk hP1; obtain ⟨p0, p1, p2, p3, p4, p5, p6⟩ := HG.out w4 HB4.out; clear hb4 hP1)
                | (with_reducible refine (HT2.out w4 HB4.out).mono ?_; rintro e w5 ⟨O2, co2, rfl, hP2, hb5⟩; have HB5 := Aside0.mk (HBT.out _ _ HB4.out hb5); have HP2 := Aside0.mk hP2; have HP1b := Aside0.mk (HPLB1.out _ _ _ HP1.out hb5); obtain ⟨p0, p1, p2, p3, p4, p5, p6⟩ := HG.out w5 HB5.out; clear hb5 hP2)))
          have HB5d : Aside0 (Below W0.heap.size W0 w5.drew) := ⟨HB5.out.drew⟩
          have HP1d := Aside0.mk (HPLB1.out _ w5.drew _ HP1b.out ((Below.refl _ w5).drew))
          have HP2d := Aside0.mk (HPLB2.out _ w5.drew _ HP2.out ((Below.refl _ w5).drew))
          have k0 := Aside0.mk (HG.out _ HB5d.out).2.2.2.2.2.2
          clear p0 p1 p2 p3 p4 p5 p6
          refine wp_region_held_drew (S := (fun W => W.cell? ⟨s, 6, none⟩ = some (.slice B m d))) (by kernel_rfl) (k0.out) (fun hS => ?_)
          refine wpAnyH_ready (rs := [0]) (by kernel_rfl) (by simp) ?_
          refine AllReadyH.cons rfl (fun K hK => ?_) AllReadyH.nil
          rw [if_pos (by rfl)]
          go_simp
          go_at_call 64; with_reducible refine (HANS.out _).mono ?_; rintro e w6 ⟨rfl, hb6⟩; have HB6 := Aside0.mk (HBT.out _ _ HB5d.out hb6); have HP16 := Aside0.mk (HPLB1.out _ _ _ HP1d.out hb6); have HP26 := Aside0.mk (HPLB2.out _ _ _ HP2d.out hb6); have k1 := Aside0.mk (HG.out _ HB6.out).2.2.2.2.2.2; clear hb6
          refine hK.out _ _ (by first | with_reducible exact k3.out | with_reducible exact k2.out | with_reducible exact k1.out) (fun hS2 => ?_)
          clear hK K hS
          have hS := hS2
          clear hS2
          try simp only [Act.put, List.setIfInBounds_toArray, List.set_cons_zero, List.set_cons_succ]
          refine takeD 1 73 (v := ?_) rfl rfl (by kernel_rfl) (by kernel_rfl) (by kernel_rfl) (fun _ _ _ h => h) (Or.inl ⟨by rfl, ?_⟩) hS ?_
          rotate_left 1
          focus (intro w hSw; (try dsimp only at hSw); go_simp; (try with_reducible rfl); done)
          try simp only [Act.put, List.setIfInBounds_toArray, List.set_cons_zero, List.set_cons_succ]
          refine takeD 2 74 (v := ?_) rfl rfl (by kernel_rfl) (by kernel_rfl) (by kernel_rfl) (fun _ _ _ h => h) (Or.inl ⟨by rfl, ?_⟩) hS ?_
          rotate_left 1
          focus (intro w hSw; (try dsimp only at hSw); go_simp; (try with_reducible rfl); done)
          try simp only [Act.put, List.setIfInBounds_toArray, List.set_cons_zero, List.set_cons_succ]
          refine takeD 3 75 (v := ?_) rfl rfl (by kernel_rfl) (by kernel_rfl) (by kernel_rfl) (fun _ _ _ h => h) (Or.inl ⟨by rfl, ?_⟩) hS ?_
          rotate_left 1
          focus (intro w hSw; (try dsimp only at hSw); go_simp; (try with_reducible rfl); done)
          try simp only [Act.put, List.setIfInBounds_toArray, List.set_cons_zero, List.set_cons_succ]
          refine takeD 4 76 (v := ?_) rfl rfl (by kernel_rfl) (by kernel_rfl) (by kernel_rfl) (fun _ _ _ h => h) (Or.inl ⟨by rfl, ?_⟩) hS ?_
          rotate_left 1
          focus (intro w hSw; (try dsimp only at hSw); go_simp; (try with_reducible rfl); done)
          try simp only [Act.put, List.setIfInBounds_toArray, List.set_cons_zero, List.set_cons_succ]
          refine takeD 5 77 (v := ?_) rfl rfl (by kernel_rfl) (by kernel_rfl) (by kernel_rfl) (fun _ _ _ h => h) (Or.inl ⟨by rfl, ?_⟩) hS ?_
          rotate_left 1
          focus (intro w hSw; (try dsimp only at hSw); go_simp; (try with_reducible rfl); done)
          try simp only [Act.put, List.setIfInBounds_toArray, List.set_cons_zero, List.set_cons_succ]
          refine takeD 6 78 (v := ?_) rfl rfl (by kernel_rfl) (by kernel_rfl) (by kernel_rfl) (fun _ _ _ h => h) (Or.inl ⟨by rfl, ?_⟩) hS ?_
          rotate_left 1
          focus (intro w hSw; (try dsimp only at hSw); go_simp; (try with_reducible rfl); done)
          try simp only [Act.put, List.setIfInBounds_toArray, List.set_cons_zero, List.set_cons_succ]
          refine takeD 7 79 (v := ?_) rfl rfl (by kernel_rfl) (by kernel_rfl) (by kernel_rfl) (fun _ _ _ h => h) (Or.inl ⟨by rfl, ?_⟩) hS ?_
          rotate_left 1
          focus (intro w hSw; (try dsimp only at hSw); go_simp; (try with_reducible rfl); done)
          try simp only [Act.put, List.setIfInBounds_toArray, List.set_cons_zero, List.set_cons_succ]
          refine takeD 8 80 (v := ?_) rfl rfl (by kernel_rfl) (by kernel_rfl) (by kernel_rfl) (fun _ _ _ h => h) (Or.inl ⟨by rfl, ?_⟩) hS ?_
          rotate_left 1
          focus (intro w hSw; (try dsimp only at hSw); go_simp; (try with_reducible rfl); done)
          try simp only [Act.put, List.setIfInBounds_toArray, List.set_cons_zero, List.set_cons_succ]
          refine takeD 9 81 (v := ?_) rfl rfl (by kernel_rfl) (by kernel_rfl) (by kernel_rfl) (fun _ _ _ h => h) (Or.inl ⟨by rfl, ?_⟩) hS ?_
          rotate_left 1
          focus (intro w hSw; (try dsimp only at hSw); go_simp; (try with_reducible rfl); done)
          try simp only [Act.put, List.setIfInBounds_toArray, List.set_cons_zero, List.set_cons_succ]
          refine takeD 11 83 (v := ?_) rfl rfl (by kernel_rfl) (by kernel_rfl) (by kernel_rfl) (fun _ _ _ h => h) (Or.inl ⟨by rfl, ?_⟩) hS ?_
          rotate_left 1
          focus (intro w hSw; (try dsimp only at hSw); go_simp; (try with_reducible rfl); done)
          try simp only [Act.put, List.setIfInBounds_toArray, List.set_cons_zero, List.set_cons_succ]
          refine takeD 12 84 (v := ?_) rfl rfl (by kernel_rfl) (by kernel_rfl) (by kernel_rfl) (fun _ _ _ h => h) (Or.inl ⟨by rfl, ?_⟩) hS ?_
          rotate_left 1
          focus (intro w hSw; (try dsimp only at hSw); go_simp; (try with_reducible rfl); done)
          try simp only [Act.put, List.setIfInBounds_toArray, List.set_cons_zero, List.set_cons_succ]
          refine takeD 13 85 (v := ?_) rfl rfl (by kernel_rfl) (by kernel_rfl) (by kernel_rfl) (fun _ _ _ h => h) (Or.inl ⟨by rfl, ?_⟩) hS ?_
          rotate_left 1
          focus (intro w hSw; (try dsimp only at hSw); go_simp; (try with_reducible rfl); done)
          try simp only [Act.put, List.setIfInBounds_toArray, List.set_cons_zero, List.set_cons_succ]
          refine wpAnyH_ready (rs := [10]) (by kernel_rfl) (by simp) ?_
          refine AllReadyH.cons rfl (fun K hK => ?_) AllReadyH.nil
          rw [if_pos (by rfl)]
          go_simp
          go_at_call 52; first | (with_reducible refine (HS1.out _ _ _ _ _ HP16.out HP26.out).mono ?_; rintro e w7 ⟨rfl, hd7⟩; have HB7 := Aside0.mk (HPD.out _ _ HB6.out hd7); have k2 := Aside0.mk (HG.out _ HB7.out).2.2.2.2.2.2; clear hd7) | (with_reducible refine (HS2.out _ HB7.out).mono ?_; rintro e w8 ⟨rfl, hd8⟩; have HB8 := Aside0.mk (HPD.out _ _ HB7.out hd8); have k3 := Aside0.mk (HG.out _ HB8.out).2.2.2.2.2.2; clear hd8)
          refine hK.out _ _ (by first | with_reducible exact k3.out | with_reducible exact k2.out | with_reducible exact k1.out) (fun hS2 => ?_)
          clear hK K hS
          have hS := hS2
          clear hS2
          try simp only [Act.put, List.setIfInBounds_toArray, List.set_cons_zero, List.set_cons_succ]
          refine wpAnyH_ready (rs := [14]) (by kernel_rfl) (by simp) ?_
          refine AllReadyH.cons rfl (fun K hK => ?_) AllReadyH.nil
          rw [if_pos (by rfl)]
          go_simp
          go_at_call 52; first | (with_reducible refine (HS1.out _ _ _ _ _ HP16.out HP26.out).mono ?_; rintro e w7 ⟨rfl, hd7⟩; have HB7 := Aside0.mk (HPD.out _ _ HB6.out hd7); have k2 := Aside0.mk (HG.out _ HB7.out).2.2.2.2.2.2; clear hd7) | (with_reducible refine (HS2.out _ HB7.out).mono ?_; rintro e w8 ⟨rfl, hd8⟩; have HB8 := Aside0.mk (HPD.out _ _ HB7.out hd8); have k3 := Aside0.mk (HG.out _ HB8.out).2.2.2.2.2.2; clear hd8)
          refine hK.out _ _ (by first | with_reducible exact k3.out | with_reducible exact k2.out | with_reducible exact k1.out) (fun hS2 => ?_)
          clear hK K hS
          have hS := hS2
          clear hS2
          try simp only [Act.put, List.setIfInBounds_toArray, List.set_cons_zero, List.set_cons_succ]
          refine takeD 15 87 (v := ?_) rfl rfl (by kernel_rfl) (by kernel_rfl) (by kernel_rfl) (fun _ _ _ h => h) (Or.inl ⟨by rfl, ?_⟩) hS ?_
          rotate_left 1
          focus (intro w hSw; (try dsimp only at hSw); go_simp; (try with_reducible rfl); done)
          try simp only [Act.put, List.setIfInBounds_toArray, List.set_cons_zero, List.set_cons_succ]
          refine takeD 16 88 (v := ?_) rfl rfl (by kernel_rfl) (by kernel_rfl) (by kernel_rfl) (fun _ _ _ h => h) (Or.inl ⟨by rfl, ?_⟩) hS ?_
          rotate_left 1
          focus (intro w hSw; (try dsimp only at hSw); go_simp; (try with_reducible rfl); done)
          try simp only [Act.put, List.setIfInBounds_toArray, List.set_cons_zero, List.set_cons_succ]
          refine takeD 17 8 (v := ?_) rfl rfl (by kernel_rfl) (by kernel_rfl) (by kernel_rfl) (fun _ _ _ h => h) (Or.inl ⟨by rfl, ?_⟩) hS ?_
          rotate_left 1
          focus (intro w hSw; (try dsimp only at hSw); go_simp; (try with_reducible rfl); done)
          try simp only [Act.put, List.setIfInBounds_toArray, List.set_cons_zero, List.set_cons_succ]
          refine wpAnyH_done (by kernel_rfl) ?_ _
          clear hS k0 k1 k2 k3
          go_wp2
          go_ret
          exact ⟨by simp, HBW.out _ HB8.out⟩
        · rw [decide_eq_false c3] at HRQ
          clear hR hsm hT hPL hPQ hCq hwq hD hC hwl hD2 hC2 hwl2 hW0 hz0 a0 hb0 hs hl hl2 hlq hN
          unfold runV parV at *
          go_enter Try.func24, Try.ntmps24
          go_wp2_with (first
            | (go_at_call 70; rw [← HW0.out, ← HS.out]; with_reducible refine HSML.out.mono ?_; rintro e w1 ⟨rfl, hb1⟩; have HB1 := Aside0.mk (HBT.out _ _ HBR.out hb1); have HBX := HB1; obtain ⟨p0, p1, p2, p3, p4, p5, p6⟩ := HG.out w1 HB1.out; clear hb1)
            | (go_at_call 72; first
                | (with_reducible refine (HRT.out w1 HB1.out).mono ?_; rintro e w2 ⟨rfl, hb2⟩; have HB2 := Aside0.mk (HBT.out _ _ HB1.out hb2); have HBX := HB2; obtain ⟨p0, p1, p2, p3, p4, p5, p6⟩ := HG.out w2 HB2.out; clear hb2)
                | (with_reducible refine (HRQ.out w2 HB2.out).mono ?_; rintro e w3 ⟨rfl, hb3⟩; have HB3 := Aside0.mk (HBT.out _ _ HB2.out hb3); have HBX := HB3; obtain ⟨p0, p1, p2, p3, p4, p5, p6⟩ := HG.out w3 HB3.out; clear hb3))
            | (go_at_call 64; with_reducible refine (HANS.out _).mono ?_; rintro e w9 ⟨rfl, hb9⟩; have HB9 := Aside0.mk (HBT.out _ _ HBX.out hb9); clear hb9))
          go_ret
          exact ⟨rfl, HBW.out _ HB9.out⟩
      · rw [decide_eq_false c2] at HRT
        clear hR hsm hT hPL hPQ hCq hwq hD hC hwl hD2 hC2 hwl2 hW0 hz0 a0 hb0 hs hl hl2 hlq hN
        unfold runV parV at *
        go_enter Try.func24, Try.ntmps24
        go_wp2_with (first
          | (go_at_call 70; rw [← HW0.out, ← HS.out]; with_reducible refine HSML.out.mono ?_; rintro e w1 ⟨rfl, hb1⟩; have HB1 := Aside0.mk (HBT.out _ _ HBR.out hb1); have HBX := HB1; obtain ⟨p0, p1, p2, p3, p4, p5, p6⟩ := HG.out w1 HB1.out; clear hb1)
          | (go_at_call 72; first
              | (with_reducible refine (HRT.out w1 HB1.out).mono ?_; rintro e w2 ⟨rfl, hb2⟩; have HB2 := Aside0.mk (HBT.out _ _ HB1.out hb2); have HBX := HB2; obtain ⟨p0, p1, p2, p3, p4, p5, p6⟩ := HG.out w2 HB2.out; clear hb2)
              | (with_reducible refine (HRQ.out w2 HB2.out).mono ?_; rintro e w3 ⟨rfl, hb3⟩; have HB3 := Aside0.mk (HBT.out _ _ HB2.out hb3); have HBX := HB3; obtain ⟨p0, p1, p2, p3, p4, p5, p6⟩ := HG.out w3 HB3.out; clear hb3))
          | (go_at_call 64; with_reducible refine (HANS.out _).mono ?_; rintro e w9 ⟨rfl, hb9⟩; have HB9 := Aside0.mk (HBT.out _ _ HBX.out hb9); clear hb9))
        go_ret
        exact ⟨rfl, HBW.out _ HB9.out⟩
    · have hnb : ((len : Int) != (len2 : Int)) = true := by simp; omega
      clear hR hsm hT hPL hPQ hCq hwq hD hC hwl hD2 hC2 hwl2 hW0 hz0 a0 hb0 hs hl hl2 hlq hN
      unfold runV parV at *
      go_enter Try.func24, Try.ntmps24
      go_wp2_with (first
        | (go_at_call 70; rw [← HW0.out, ← HS.out]; with_reducible refine HSML.out.mono ?_; rintro e w1 ⟨rfl, hb1⟩; have HB1 := Aside0.mk (HBT.out _ _ HBR.out hb1); have HBX := HB1; obtain ⟨p0, p1, p2, p3, p4, p5, p6⟩ := HG.out w1 HB1.out; clear hb1)
        | (go_at_call 72; first
            | (with_reducible refine (HRT.out w1 HB1.out).mono ?_; rintro e w2 ⟨rfl, hb2⟩; have HB2 := Aside0.mk (HBT.out _ _ HB1.out hb2); have HBX := HB2; obtain ⟨p0, p1, p2, p3, p4, p5, p6⟩ := HG.out w2 HB2.out; clear hb2)
            | (with_reducible refine (HRQ.out w2 HB2.out).mono ?_; rintro e w3 ⟨rfl, hb3⟩; have HB3 := Aside0.mk (HBT.out _ _ HB2.out hb3); have HBX := HB3; obtain ⟨p0, p1, p2, p3, p4, p5, p6⟩ := HG.out w3 HB3.out; clear hb3))
        | (go_at_call 64; with_reducible refine (HANS.out _).mono ?_; rintro e w9 ⟨rfl, hb9⟩; have HB9 := Aside0.mk (HBT.out _ _ HBX.out hb9); clear hb9))
      go_ret
      exact ⟨rfl, HBW.out _ HB9.out⟩
  · rw [decide_eq_false c1] at HSML
    clear hR hsm hT hPL hPQ hCq hwq hD hC hwl hD2 hC2 hwl2 hW0 hz0 a0 hb0 hs hl hl2 hlq hN
    unfold runV parV at *
    go_enter Try.func24, Try.ntmps24
    go_wp2_with (first
      | (go_at_call 70; rw [← HW0.out, ← HS.out]; with_reducible refine HSML.out.mono ?_; rintro e w1 ⟨rfl, hb1⟩; have HB1 := Aside0.mk (HBT.out _ _ HBR.out hb1); have HBX := HB1; obtain ⟨p0, p1, p2, p3, p4, p5, p6⟩ := HG.out w1 HB1.out; clear hb1)
      | (go_at_call 72; first
          | (with_reducible refine (HRT.out w1 HB1.out).mono ?_; rintro e w2 ⟨rfl, hb2⟩; have HB2 := Aside0.mk (HBT.out _ _ HB1.out hb2); have HBX := HB2; obtain ⟨p0, p1, p2, p3, p4, p5, p6⟩ := HG.out w2 HB2.out; clear hb2)
          | (with_reducible refine (HRQ.out w2 HB2.out).mono ?_; rintro e w3 ⟨rfl, hb3⟩; have HB3 := Aside0.mk (HBT.out _ _ HB2.out hb3); have HBX := HB3; obtain ⟨p0, p1, p2, p3, p4, p5, p6⟩ := HG.out w3 HB3.out; clear hb3))
      | (go_at_call 64; with_reducible refine (HANS.out _).mono ?_; rintro e w9 ⟨rfl, hb9⟩; have HB9 := Aside0.mk (HBT.out _ _ HBX.out hb9); clear hb9))
    go_ret
    exact ⟨rfl, HBW.out _ HB9.out⟩
end Go.Proofs.Ytpeiejkcoadhfaa
