/- What the view's laws take, Vt47: VwLa. -/
import Derived.Test.YtpeiejkcoadhfaaVt32
import Derived.Test.YtpeiejkcoadhfaaVt36
import Derived.Test.YtpeiejkcoadhfaaVt46
set_option linter.all false
namespace Go.Proofs.Ytpeiejkcoadhfaa
open Go.RowKit Go.Shelf Go.Proofs.YtpeiejkcoadhfaaW.PrintWords Go.Proofs.YtpeiejkcoadhfaaW.PrintMore
open Go.BigFrame
set_option maxRecDepth 100000 in
set_option maxHeartbeats 3200000 in
theorem empty_law (w : World) (cs : Array Value) (x : RunT) (hK : krun.K w x cs.toList) (hw : wfRun x) (D : Option Addr) (len cd : Nat) (l : List Int) (hl : l.length = len) (hC : Kd.C u8 w D len l) (hlc : len ≤ cd) (hwl : ∀ a ∈ l, (Lit.int .u8 a).wf = true) :
    Calls Try.prog 25 #[.agg cs, .slice D len cd] w fun e w' => e = .returned (.bool true) ∧ Below w.heap.size w w' := by
  obtain ⟨N, T, K, E, Rm, A, nr, c, B, m, d, rs, ts, eagg, hN, hR, hnc, hnr, hsm, hT, hmd, hPL, hm⟩ := run_open hK hw
  rw [eagg]
  clear eagg hK hw
  obtain ⟨p, rfl⟩ := bytes_F l hwl
  have hD := C_bs.1 hC
  have hnl : rs.length = nr := RL_len hR
  obtain ⟨W0, hW0, hz0, a0, hb0⟩ := heap1 w (Obj.cells #[.int .i64 N, .int .i64 T, .int .i64 K, .int .i64 E, .int .i64 Rm, .slice A nr c, .slice B m d] 77)
  have HANS := Aside0.mk (fun W => answers24 W)
  have HBT : Aside0 (∀ W W', Below W0.heap.size W0 W → Below W.heap.size W W' → Below W0.heap.size W0 W') := ⟨fun W W' h h' => h.trans (h'.mono h.size)⟩
  have HBW : Aside0 (∀ W, Below W0.heap.size W0 W → Below w.heap.size w W) := ⟨fun W h => hb0.trans (h.mono hb0.size)⟩
  have HBR : Aside0 (Below W0.heap.size W0 W0) := ⟨Below.refl _ _⟩
  obtain ⟨s, hs⟩ : ∃ s, s = w.heap.size := ⟨_, rfl⟩
  rw [← hs] at a0
  have HS := Aside0.mk hs
  have HG : Aside0 (∀ W, Below W0.heap.size W0 W → W.cell? ⟨s, 0, none⟩ = some (.int .i64 N) ∧ W.cell? ⟨s, 1, none⟩ = some (.int .i64 T) ∧ W.cell? ⟨s, 2, none⟩ = some (.int .i64 K) ∧ W.cell? ⟨s, 3, none⟩ = some (.int .i64 E) ∧ W.cell? ⟨s, 4, none⟩ = some (.int .i64 Rm) ∧ W.cell? ⟨s, 5, none⟩ = some (.slice A nr c) ∧ W.cell? ⟨s, 6, none⟩ = some (.slice B m d)) := ⟨fun W hW => by
    have h := blk_below a0 hW
    exact ⟨cell_at h rfl, cell_at h rfl, cell_at h rfl, cell_at h rfl, cell_at h rfl, cell_at h rfl, cell_at h rfl⟩⟩
  have HSML := Aside0.mk (small_any W0 N T K E Rm len A nr c rs (RL_below hR hb0) hnc B m d (ts.map bs) (Kd.C_below hT hb0) hmd hm)
  have HRT : Aside0 (∀ W, Below W0.heap.size W0 W → Calls Try.prog 72 #[parV N T K E Rm, .int .i64 len, .slice A nr c, .slice B m d] W fun e w' => e = .returned (.bool (decide (RightP N T K E Rm len rs (ts.map List.length)))) ∧ Below W.heap.size W w') := ⟨fun W h => RRight_any W N T K E Rm len A nr c rs (RL_below hR (HBW.out W h)) hnc hnr hsm hN B m d ts (Kd.C_below hT (HBW.out W h)) hmd hm⟩
  have HW0 := Aside0.mk hW0
  have HRL := Aside0.mk hR
  have HNL := Aside0.mk hnl
  have hu48 := Try.underlying48
  have hu77 := Try.underlying77
  have hu90 := Try.underlying90
  by_cases c1 : SmallP N len rs (ts.map bs)
  · rw [decide_eq_true c1] at HSML
    by_cases c2 : RightP N T K E Rm len rs (ts.map List.length)
    · rw [decide_eq_true c2] at HRT
      obtain ⟨nN, nT, nK, rfl, rfl, rfl, -, -, -, -, -, -, -⟩ := gd_nat2 c2.1.1
      have HLOOK : Aside0 (∀ W, Below W0.heap.size W0 W → (∀ r ∈ rs, r.sn = [] ∧ r.kind ≠ 4) → Calls Try.prog 71 #[parV nN nT nK E Rm, .slice D len cd, .slice A nr c, .slice B m d] W fun e w' => ∃ O co, e = .returned (.tuple #[.slice O 0 co, .bool true]) ∧ Below W.heap.size W w') := ⟨fun W h he => by
        refine (Look_yes W nN nT nK E Rm D len cd p (Kd.C_below hD (HBW.out W h)) hlc A nr c rs (RL_below hR (HBW.out W h)) hsm B m d ts (PL_below hPL (HBW.out W h)) (by have := c1.2.2.2.2; rw [List.length_map, PL_len hPL] at this; omega) c2).mono ?_
        rintro e w' ⟨O, co, rfl, _, _, h3⟩
        rw [empty_p he]
        exact ⟨O, co, rfl, h3⟩⟩
      have hnrs : nr ≤ 12 := by rw [← hnl]; exact c1.1
      clear hR hsm hT hPL hD hC hwl hW0 hz0 a0 hb0 hs c1 c2 hnl hl hN
      unfold runV parV at *
      go_enter Try.func25, Try.ntmps25
      go_wp2_with (first
        | (go_at_call 70; rw [← HW0.out, ← HS.out]; with_reducible refine HSML.out.mono ?_; rintro e w1 ⟨rfl, hb1⟩; have HB1 := Aside0.mk (HBT.out _ _ HBR.out hb1); obtain ⟨p0, p1, p2, p3, p4, p5, p6⟩ := HG.out w1 HB1.out; clear hb1)
        | (go_at_call 72; with_reducible refine (HRT.out w1 HB1.out).mono ?_; rintro e w2 ⟨rfl, hb2⟩; have HB2 := Aside0.mk (HBT.out _ _ HB1.out hb2); obtain ⟨p0, p1, p2, p3, p4, p5, p6⟩ := HG.out w2 HB2.out; clear hb2))
      go_loopw [5] (fun v5 wr => ∃ (i : Nat), i ≤ nr ∧ v5 = .int .i64 i ∧ Aside0 (Below W0.heap.size W0 wr) ∧ Aside0 (∀ j, j < i → (rs.getD j ri0).sn = [] ∧ (rs.getD j ri0).kind ≠ 4)) (fun v5 _ => nr - (intOf v5).toNat)
      case atStart => exact ⟨0, by omega, rfl, HB2, ⟨fun j hj => by omega⟩⟩
      case round =>
        clear p0 p1 p2 p3 p4 p5 p6
        obtain ⟨i, hi, rfl, HB, HE⟩ := hrel
        obtain ⟨p0, p1, p2, p3, p4, p5, p6⟩ := HG.out wr HB.out
        by_cases hlt : i < nr
        · obtain ⟨r, ad, D1, S1, nd, cd1, ns, cs1, hr, rfl, h0, h1, h2, h3, l1, lc1, hD1, l2, lc2, hS1⟩ := RL_at (RL_below HRL.out (HBW.out wr HB.out)) i hlt
          have hiI : (i : Int) < (nr : Int) := by omega
          obtain ⟨kind, target, ds, sn⟩ := r
          simp only at h0 h1 l2
          by_cases hns : 0 < ns
          · have hnI : (0 : Int) < (ns : Int) := by omega
            clear hD1 hS1 hr
            go_wp2_with (go_at_call 64; with_reducible refine (HANS.out _).mono ?_; rintro e w3 ⟨rfl, hb3⟩; have HB3 := Aside0.mk (HBT.out _ _ HB.out hb3); clear hb3)
            go_ret
            exact ⟨rfl, HBW.out _ HB3.out⟩
          · have hnI : ¬ (0 : Int) < (ns : Int) := by omega
            by_cases hk : kind = 4
            · subst hk
              clear hD1 hS1 hr
              go_wp2_with (go_at_call 64; with_reducible refine (HANS.out _).mono ?_; rintro e w3 ⟨rfl, hb3⟩; have HB3 := Aside0.mk (HBT.out _ _ HB.out hb3); clear hb3)
              go_ret
              exact ⟨rfl, HBW.out _ HB3.out⟩
            · have hkI : (kind == (4 : Int)) = false := by simpa using hk
              have HE2 : Aside0 (∀ j, j < i + 1 → (rs.getD j ri0).sn = [] ∧ (rs.getD j ri0).kind ≠ 4) := ⟨fun j hj => by
                rcases Nat.lt_or_ge j i with h | h
                · exact HE.out j h
                · obtain rfl : j = i := by omega
                  rw [← hr]
                  exact ⟨List.eq_nil_of_length_eq_zero (by show sn.length = 0; omega), hk⟩⟩
              clear hD1 hS1 hr hk
              go_wp2
              go_roundw
              case rel => exact ⟨i + 1, by omega, by go_num, HB, HE2⟩
              case measure => simp [intOf]; omega
        · obtain rfl : nr = i := by omega
          have HEA : Aside0 (∀ r ∈ rs, r.sn = [] ∧ r.kind ≠ 4) := ⟨fun r hr => by
            obtain ⟨j, hj, rfl⟩ := List.getElem_of_mem hr
            have h := HE.out j (by rw [← HNL.out]; exact hj)
            rw [List.getD_eq_getElem?_getD, List.getElem?_eq_getElem hj] at h
            exact h⟩
          go_wp2_with (first
            | (go_at_call 71; with_reducible refine (HLOOK.out wr HB.out HEA.out).mono ?_; rintro e w3 ⟨O, co, rfl, hb3⟩; have HB3 := Aside0.mk (HBT.out _ _ HB.out hb3); clear hb3)
            | (go_at_call 64; with_reducible refine (HANS.out _).mono ?_; rintro e w4 ⟨rfl, hb4⟩; have HB4 := Aside0.mk (HBT.out _ _ HB3.out hb4); clear hb4))
          go_ret
          exact ⟨rfl, HBW.out _ HB4.out⟩
    · rw [decide_eq_false c2] at HRT
      clear hR hsm hT hPL hD hC hwl hW0 hz0 a0 hb0 hs c1 c2 hnl hl hN
      unfold runV parV at *
      go_enter Try.func25, Try.ntmps25
      go_wp2_with (first
        | (go_at_call 70; rw [← HW0.out, ← HS.out]; with_reducible refine HSML.out.mono ?_; rintro e w1 ⟨rfl, hb1⟩; have HB1 := Aside0.mk (HBT.out _ _ HBR.out hb1); obtain ⟨p0, p1, p2, p3, p4, p5, p6⟩ := HG.out w1 HB1.out; clear hb1)
        | (go_at_call 72; with_reducible refine (HRT.out w1 HB1.out).mono ?_; rintro e w2 ⟨rfl, hb2⟩; have HB2 := Aside0.mk (HBT.out _ _ HB1.out hb2); clear hb2)
        | (go_at_call 64; with_reducible refine (HANS.out _).mono ?_; rintro e w4 ⟨rfl, hb4⟩; have HB4 := Aside0.mk (HBT.out _ _ HB2.out hb4); clear hb4))
      go_ret
      exact ⟨rfl, HBW.out _ HB4.out⟩
  · rw [decide_eq_false c1] at HSML
    clear hR hsm hT hPL hD hC hwl hW0 hz0 a0 hb0 hs c1 hnl hl hN HRT
    unfold runV at *
    go_enter Try.func25, Try.ntmps25
    go_wp2_with (first
      | (go_at_call 70; rw [← HW0.out, ← HS.out]; with_reducible refine HSML.out.mono ?_; rintro e w1 ⟨rfl, hb1⟩; have HB1 := Aside0.mk (HBT.out _ _ HBR.out hb1); clear hb1)
      | (go_at_call 64; with_reducible refine (HANS.out _).mono ?_; rintro e w4 ⟨rfl, hb4⟩; have HB4 := Aside0.mk (HBT.out _ _ HB1.out hb4); clear hb4))
    go_ret
    exact ⟨rfl, HBW.out _ HB4.out⟩
end Go.Proofs.Ytpeiejkcoadhfaa
