/- What the view's laws take, Vu53: VwLf. -/
import Derived.Test.YtpeiejkcoadhfaaVu36
import Derived.Test.YtpeiejkcoadhfaaVu39
import Derived.Test.YtpeiejkcoadhfaaVu46
import Derived.Test.YtpeiejkcoadhfaaVu47
import Derived.Test.YtpeiejkcoadhfaaVu48
import Derived.Test.YtpeiejkcoadhfaaVu49
set_option linter.all false
namespace Go.Proofs.Ytpeiejkcoadhfaa
open Go.RowKit Go.Shelf Go.Proofs.YtpeiejkcoadhfaaW.PrintWords Go.Proofs.YtpeiejkcoadhfaaW.PrintMore
open Go.BigFrame
attribute [local go_sem] Oper.semAt_some
set_option maxRecDepth 100000 in
set_option maxHeartbeats 6400000 in
theorem zpa (w : World) (cs : Array Value) (x : RunT) (hK : zjW.K w x cs.toList) (hw : zgI x) (D : Option Addr) (len cd : Nat) (l : List Int) (hl : l.length = len) (hC : Kd.C u8 w D len l) (hlc : len ≤ cd) (hwl : ∀ a ∈ l, (Lit.int .u8 a).wf = true) (D2 : Option Addr) (len2 cd2 : Nat) (l2 : List Int) (hl2 : l2.length = len2) (hC2 : Kd.C u8 w D2 len2 l2) (hlc2 : len2 ≤ cd2) (hwl2 : ∀ a ∈ l2, (Lit.int .u8 a).wf = true) (D3 : Option Addr) (len3 cd3 : Nat) (l3 : List Int) (hl3 : l3.length = len3) (hC3 : Kd.C u8 w D3 len3 l3) (hlc3 : len3 ≤ cd3) (hwl3 : ∀ a ∈ l3, (Lit.int .u8 a).wf = true) :
 Calls Try.prog 26 #[.agg cs, .slice D len cd, .slice D2 len2 cd2, .slice D3 len3 cd3] w fun e w' => e = .returned (.bool true) ∧ Below w.heap.size w w' := by
 obtain ⟨N, T, K, E, Rm, A, nr, c, B, m, d, rs, ts, eagg, hN, hR, hnc, hnr, hsm, hT, hmd, hPL, hm⟩ := zed hK hw
 rw [eagg]
 clear eagg hK hw
 obtain ⟨p, rfl⟩ := JT l hwl
 have hD := Jz.1 hC
 obtain ⟨p2, rfl⟩ := JT l2 hwl2
 have hD2 := Jz.1 hC2
 obtain ⟨p3, rfl⟩ := JT l3 hwl3
 have hD3 := Jz.1 hC3
 have hnl : rs.length = nr := Zi hR
 obtain ⟨W0, hW0, hz0, a0, hb0⟩ := zU w (Obj.cells #[.int .i64 N, .int .i64 T, .int .i64 K, .int .i64 E, .int .i64 Rm, .slice A nr c, .slice B m d] 77)
 have HANS := za.mk (fun W => zcu W)
 have HBT : za (∀ W W', Below W0.heap.size W0 W → Below W.heap.size W W' → Below W0.heap.size W0 W') := ⟨fun W W' h h' => h.trans (h'.mono h.size)⟩
 have HBW : za (∀ W, Below W0.heap.size W0 W → Below w.heap.size w W) := ⟨fun W h => hb0.trans (h.mono hb0.size)⟩
 have HBR : za (Below W0.heap.size W0 W0) := ⟨Below.refl _ _⟩
 obtain ⟨s, hs⟩ : ∃ s, s = w.heap.size := ⟨_, rfl⟩
 rw [← hs] at a0
 have HS := za.mk hs
 have HG : za (∀ W, Below W0.heap.size W0 W → W.cell? ⟨s, 0, none⟩ = some (.int .i64 N) ∧ W.cell? ⟨s, 1, none⟩ = some (.int .i64 T) ∧ W.cell? ⟨s, 2, none⟩ = some (.int .i64 K) ∧ W.cell? ⟨s, 3, none⟩ = some (.int .i64 E) ∧ W.cell? ⟨s, 4, none⟩ = some (.int .i64 Rm) ∧ W.cell? ⟨s, 5, none⟩ = some (.slice A nr c) ∧ W.cell? ⟨s, 6, none⟩ = some (.slice B m d)) := ⟨fun W hW => by
  have h := zl a0 hW
  exact ⟨zh h rfl, zh h rfl, zh h rfl, zh h rfl, zh h rfl, zh h rfl, zh h rfl⟩⟩
 have HSML := za.mk (zcC W0 N T K E Rm len A nr c rs (zA hR hb0) hnc B m d (ts.map bs) (Kd.C_below hT hb0) hmd hm)
 have HRT : za (∀ W, Below W0.heap.size W0 W → Calls Try.prog 72 #[zv N T K E Rm, .int .i64 len, .slice A nr c, .slice B m d] W fun e w' => e = .returned (.bool (decide (yv N T K E Rm len rs (ts.map List.length)))) ∧ Below W.heap.size W w') := ⟨fun W h => Zq W N T K E Rm len A nr c rs (zA hR (HBW.out W h)) hnc hnr hsm hN B m d ts (Kd.C_below hT (HBW.out W h)) hmd hm⟩
 have HW0 := za.mk hW0
 have hu48 := Try.underlying48
 have hu77 := Try.underlying77
 by_cases c1 : zaz N len rs (ts.map bs)
 ·rw [decide_eq_true c1] at HSML
  have hml : m ≤ 200 := by have := c1.2.2.2.2; rw [List.length_map, zbA hPL] at this; exact this
  by_cases c0 : len = len2
  ·subst c0
   have hnb : ((len : Int) != (len : Int)) = false := by simp
   by_cases c3 : len = len3
   ·subst c3
    by_cases c2 : yv N T K E Rm len rs (ts.map List.length)
    ·rw [decide_eq_true c2] at HRT
     obtain ⟨nN, nT, nK, rfl, rfl, rfl, -, -, -, -, -, -, -⟩ := zaR c2.1.1
     obtain ⟨t1, ht1⟩ : ∃ t1, t1 = ZB nN nT nK p p2 rs ts := ⟨_, rfl⟩
     have hpl : p.length = len := by rw [zx] at hl; exact hl
     have hpl2 : p2.length = len := by rw [zx] at hl2; exact hl2
     have hhp := zfO (a := p) (b := p2) (by rw [hpl, hpl2]) (by rw [hpl]; exact c2)
     have hr1 : yv nN nT nK E Rm len rs (t1.map List.length) := by rw [ht1]; exact zbt c2
     rw [← ht1] at hhp
     obtain ⟨res, hres⟩ : ∃ res, res = jD nN nT nK p rs ts := ⟨_, rfl⟩
     obtain ⟨rl, hrl⟩ : ∃ rl, rl = res.length := ⟨_, rfl⟩
     obtain ⟨st, hst⟩ : ∃ st, st = strOfNums (bs res) := ⟨_, rfl⟩
     rw [← hres] at hhp
     have HTU : za (∀ W, Below W0.heap.size W0 W → Calls Try.prog 74 #[zv nN nT nK E Rm, .slice D len cd, .slice D2 len cd2, .slice A nr c, .slice B m d] W fun e w' => ∃ O co, e = .returned (.tuple #[.slice O m co, .bool true]) ∧ PL w' O m t1 ∧ m ≤ co ∧ Below W.heap.size W w') := ⟨fun W h => by
      refine (zaG W nN nT nK E Rm D len cd p (Kd.C_below hD (HBW.out W h)) hlc D2 cd2 p2 (Kd.C_below hD2 (HBW.out W h)) hlc2 A nr c rs (zA hR (HBW.out W h)) hsm B m d ts (zG hPL (HBW.out W h)) (by omega) c2).mono ?_
      rintro e w' ⟨O, co, rfl, h1, h2, h3⟩
      rw [ht1]
      exact ⟨O, co, rfl, h1, h2, h3⟩⟩
     have HRQ : za (∀ W O co, Below W0.heap.size W0 W → PL W O m t1 → m ≤ co → Calls Try.prog 72 #[zv nN nT nK E Rm, .int .i64 len, .slice A nr c, .slice O m co] W fun e w' => e = .returned (.bool true) ∧ Below W.heap.size W w') := ⟨fun W O co h h1 h2 => by
      have h5 := Zq W nN nT nK E Rm len A nr c rs (zA hR (HBW.out W h)) hnc hnr hsm hN O m co t1 (zgg h1) h2 (by omega)
      rw [decide_eq_true hr1] at h5
      exact h5⟩
     have HLF : za (∀ W, Below W0.heap.size W0 W → Calls Try.prog 73 #[zv nN nT nK E Rm, .slice D len cd, .slice A nr c, .slice B m d] W fun e w' => ∃ O co, e = .returned (.slice O rl co) ∧ (∀ W, Fr (fun _ => False) w' W → (convert 36 9 (.slice O rl co)).run Try.prog W = .ok (.string st) W) ∧ Below W.heap.size W w') := ⟨fun W h => by
      refine (JH W nN nT nK E Rm D len cd p (Kd.C_below hD (HBW.out W h)) hlc A nr c rs (zA hR (HBW.out W h)) hsm B m d ts (zG hPL (HBW.out W h)) (by omega) c2).mono ?_
      rintro e w' ⟨O, co, rfl, h1, _, h3⟩
      rw [← hres, ← hrl] at h1
      rw [← hres, ← hrl]
      refine ⟨O, co, rfl, ?_, h3⟩
      rw [hst]
      exact zaV h1 co⟩
     have HFB : za (∀ W W', Below W.heap.size W W' → Fr (fun _ => False) W W') := ⟨fun W W' h => Fr.of_below h _⟩
     obtain ⟨t2, ht2⟩ : ∃ t2, t2 = ZB nN nT nK p2 p3 rs t1 := ⟨_, rfl⟩
     have hpl3 : p3.length = len := by rw [zx] at hl3; exact hl3
     have hhq := zfO (a := p2) (b := p3) (by rw [hpl2, hpl3]) (by rw [hpl2]; exact hr1)
     rw [← ht2, hhp.1] at hhq
     have hr2 : yv nN nT nK E Rm len rs (t2.map List.length) := by rw [ht2]; exact zbt hr1
     have HTV : za (∀ W O co, Below W0.heap.size W0 W → PL W O m t1 → Calls Try.prog 74 #[zv nN nT nK E Rm, .slice D2 len cd2, .slice D3 len cd3, .slice A nr c, .slice O m co] W fun e w' => ∃ O co, e = .returned (.tuple #[.slice O m co, .bool true]) ∧ PL w' O m t2 ∧ m ≤ co ∧ Below W.heap.size W w') := ⟨fun W O co h h5 => by
      refine (zaG W nN nT nK E Rm D2 len cd2 p2 (Kd.C_below hD2 (HBW.out W h)) hlc2 D3 cd3 p3 (Kd.C_below hD3 (HBW.out W h)) hlc3 A nr c rs (zA hR (HBW.out W h)) hsm O m co t1 h5 (by omega) hr1).mono ?_
      rintro e w' ⟨O, co, rfl, h1, h2, h3⟩
      rw [ht2]
      exact ⟨O, co, rfl, h1, h2, h3⟩⟩
     have HRV : za (∀ W O co, Below W0.heap.size W0 W → PL W O m t2 → m ≤ co → Calls Try.prog 72 #[zv nN nT nK E Rm, .int .i64 len, .slice A nr c, .slice O m co] W fun e w' => e = .returned (.bool true) ∧ Below W.heap.size W w') := ⟨fun W O co h h1 h2 => by
      have h5 := Zq W nN nT nK E Rm len A nr c rs (zA hR (HBW.out W h)) hnc hnr hsm hN O m co t2 (zgg h1) h2 (by omega)
      rw [decide_eq_true hr2] at h5
      exact h5⟩
     have HLT : za (∀ W O co, Below W0.heap.size W0 W → PL W O m t2 → Calls Try.prog 73 #[zv nN nT nK E Rm, .slice D3 len cd3, .slice A nr c, .slice O m co] W fun e w' => ∃ O co, e = .returned (.slice O rl co) ∧ (∀ W, Fr (fun _ => False) w' W → (convert 36 9 (.slice O rl co)).run Try.prog W = .ok (.string st) W) ∧ Below W.heap.size W w') := ⟨fun W O co h h5 => by
      refine (JH W nN nT nK E Rm D3 len cd3 p3 (Kd.C_below hD3 (HBW.out W h)) hlc3 A nr c rs (zA hR (HBW.out W h)) hsm O m co t2 h5 (by omega) hr2).mono ?_
      rintro e w' ⟨O, co, rfl, h1, _, h3⟩
      rw [hhq.1, ← hrl] at h1
      rw [hhq.1, ← hrl]
      refine ⟨O, co, rfl, ?_, h3⟩
      rw [hst]
      exact zaV h1 co⟩
     have HPLB : za (∀ W W' O, PL W O m t1 → Below W.heap.size W W' → PL W' O m t1) := ⟨fun W W' O h h' => zG h h'⟩
     have HPLC : za (∀ W W' O, PL W O m t2 → Below W.heap.size W W' → PL W' O m t2) := ⟨fun W W' O h h' => zG h h'⟩
     clear hR hsm hT hPL hD hC hwl hD2 hC2 hwl2 hD3 hC3 hwl3 hW0 hz0 a0 hb0 hs c1 c2 hl hl2 hl3 hN hres hrl hst ht1 ht2 hhp hhq hr1 hr2 hpl hpl2 hpl3
     unfold zbe zv at *
     go_enter Try.func26, Try.ntmps26
     go_wp2_with (first
      | (go_at_call 70; rw [← HW0.out, ← HS.out]; with_reducible refine HSML.out.mono ?_; rintro e w1 ⟨rfl, hb1⟩; have HB1 := za.mk (HBT.out _ _ HBR.out hb1); have HBX := HB1; obtain ⟨p0, p1, p2, p3, p4, p5, p6⟩ := HG.out w1 HB1.out; clear hb1)
      | (go_at_call 72; first
          | (with_reducible refine (HRT.out w1 HB1.out).mono ?_; rintro e w2 ⟨rfl, hb2⟩; have HB2 := za.mk (HBT.out _ _ HB1.out hb2); obtain ⟨p0, p1, p2, p3, p4, p5, p6⟩ := HG.out w2 HB2.out; clear hb2)
          | (with_reducible refine (HRQ.out w3 _ _ HB3.out HP3.out HC3.out).mono ?_; rintro e w4 ⟨rfl, hb4⟩; have HB4 := za.mk (HBT.out _ _ HB3.out hb4); have HP4 := za.mk (HPLB.out _ _ _ HP3.out hb4); obtain ⟨p0, p1, p2, p3, p4, p5, p6⟩ := HG.out w4 HB4.out; clear hb4))
      | (go_at_call 74; first
          | (with_reducible refine (HTU.out w2 HB2.out).mono ?_; rintro e w3 ⟨O3, co3, rfl, hp3, hc3, hb3⟩; have HB3 := za.mk (HBT.out _ _ HB2.out hb3); have HP3 := za.mk hp3; have HC3 := za.mk hc3; obtain ⟨p0, p1, p2, p3, p4, p5, p6⟩ := HG.out w3 HB3.out; clear hp3 hb3 hc3)
          | (with_reducible refine (HTV.out w4 _ _ HB4.out HP4.out).mono ?_; rintro e w5 ⟨O5, co5, rfl, hp5, hc5, hb5⟩; have HB5 := za.mk (HBT.out _ _ HB4.out hb5); have HQ5 := za.mk hp5; have HC5 := za.mk hc5; clear hp5 hb5 hc5)))
     have HB5d : za (Below W0.heap.size W0 w5.drew) := ⟨HB5.out.drew⟩
     have HQ5d := za.mk (HPLC.out _ w5.drew _ HQ5.out ((Below.refl _ w5).drew))
     have k0 := za.mk (HG.out _ HB5d.out)
     clear p0 p1 p2 p3 p4 p5 p6
     refine wp_region_held_drew (S := (fun W => W.cell? ⟨s, 0, none⟩ = some (.int .i64 nN) ∧ W.cell? ⟨s, 1, none⟩ = some (.int .i64 nT) ∧ W.cell? ⟨s, 2, none⟩ = some (.int .i64 nK) ∧ W.cell? ⟨s, 3, none⟩ = some (.int .i64 E) ∧ W.cell? ⟨s, 4, none⟩ = some (.int .i64 Rm) ∧ W.cell? ⟨s, 5, none⟩ = some (.slice A nr c) ∧ W.cell? ⟨s, 6, none⟩ = some (.slice B m d))) (by kernel_rfl) (k0.out) (fun hS => ?_)
     refine wpAnyH_ready (rs := [0]) (by kernel_rfl) (by simp) ?_
     refine AllReadyH.cons rfl (fun K hK => ?_) AllReadyH.nil
     rw [if_pos (by rfl)]
     go_simp
     go_at_call 64; with_reducible refine (HANS.out _).mono ?_; rintro e w6 ⟨rfl, hb6⟩; have HB6 := za.mk (HBT.out _ _ HB5d.out hb6); have HQ6 := za.mk (HPLC.out _ _ _ HQ5d.out hb6); have k1 := za.mk (HG.out _ HB6.out); clear hb6
     refine hK.out _ _ (by first | with_reducible exact k4.out | with_reducible exact k3.out | with_reducible exact k2.out | with_reducible exact k1.out) (fun hS2 => ?_)
     clear hK K hS
     have hS := hS2
     clear hS2
     try simp only [Act.put, List.setIfInBounds_toArray, List.set_cons_zero, List.set_cons_succ]
     refine zk 1 82 hS ?_
     refine zk 2 83 hS ?_
     refine zk 3 84 hS ?_
     refine zk 4 85 hS ?_
     refine zk 5 86 hS ?_
     refine zk 6 87 hS ?_
     refine zk 7 88 hS ?_
     refine zk 8 89 hS ?_
     refine zk 9 90 hS ?_
     refine zk 10 91 hS ?_
     refine zk 11 92 hS ?_
     refine wpAnyH_ready (rs := [12]) (by kernel_rfl) (by simp) ?_
     refine AllReadyH.cons rfl (fun K hK => ?_) AllReadyH.nil
     rw [if_pos (by rfl)]
     go_simp
     go_at_call 72; with_reducible refine (HRV.out _ _ _ HB6.out HQ6.out HC5.out).mono ?_; rintro e w7 ⟨rfl, hb7⟩; have HB7 := za.mk (HBT.out _ _ HB6.out hb7); have HQ7 := za.mk (HPLC.out _ _ _ HQ6.out hb7); have k2 := za.mk (HG.out _ HB7.out); clear hb7
     refine hK.out _ _ (by first | with_reducible exact k4.out | with_reducible exact k3.out | with_reducible exact k2.out | with_reducible exact k1.out) (fun hS2 => ?_)
     clear hK K hS
     have hS := hS2
     clear hS2
     try simp only [Act.put, List.setIfInBounds_toArray, List.set_cons_zero, List.set_cons_succ]
     refine zk 13 94 hS ?_
     refine zk 14 95 hS ?_
     refine zk 15 96 hS ?_
     refine zk 16 97 hS ?_
     refine zk 17 98 hS ?_
     refine zk 18 99 hS ?_
     refine zk 19 100 hS ?_
     refine zk 20 101 hS ?_
     refine zk 23 104 hS ?_
     refine zk 24 105 hS ?_
     refine zk 25 106 hS ?_
     refine zk 26 107 hS ?_
     refine zk 27 108 hS ?_
     refine zk 28 109 hS ?_
     refine zk 29 110 hS ?_
     refine wpAnyH_ready (rs := [21]) (by kernel_rfl) (by simp) ?_
     refine AllReadyH.cons rfl (fun K hK => ?_) AllReadyH.nil
     rw [if_pos (by rfl)]
     go_simp
     go_at_call 73; first | (with_reducible refine (HLT.out _ _ _ HB7.out HQ7.out).mono ?_; rintro e w8 ⟨O6, co6, rfl, hc8, hb8⟩; have HB8 := za.mk (HBT.out _ _ HB7.out hb8); have HC8 := za.mk hc8; have k3 := za.mk (HG.out _ HB8.out); clear hc8 hb8) | (with_reducible refine (HLF.out _ HB8.out).mono ?_; rintro e w9 ⟨O7, co7, rfl, hc9, hb9⟩; have HB9 := za.mk (HBT.out _ _ HB8.out hb9); have HC9 := za.mk hc9; have k4 := za.mk (And.intro (HG.out _ HB9.out) (HC8.out _ (HFB.out _ _ hb9))); clear hc9 hb9)
     refine hK.out _ _ (by first | with_reducible exact k4.out | with_reducible exact k3.out | with_reducible exact k2.out | with_reducible exact k1.out) (fun hS2 => ?_)
     clear hK K hS
     have hS := hS2
     clear hS2
     try simp only [Act.put, List.setIfInBounds_toArray, List.set_cons_zero, List.set_cons_succ]
     refine jU (S' := (fun W => (W.cell? ⟨s, 0, none⟩ = some (.int .i64 nN) ∧ W.cell? ⟨s, 1, none⟩ = some (.int .i64 nT) ∧ W.cell? ⟨s, 2, none⟩ = some (.int .i64 nK) ∧ W.cell? ⟨s, 3, none⟩ = some (.int .i64 E) ∧ W.cell? ⟨s, 4, none⟩ = some (.int .i64 Rm) ∧ W.cell? ⟨s, 5, none⟩ = some (.slice A nr c) ∧ W.cell? ⟨s, 6, none⟩ = some (.slice B m d)) ∧ (convert 36 9 (.slice O6 rl co6)).run Try.prog W = .ok (.string st) W)) (fun _ h => h.1) _ _ _ _ ?_
     have hS' : (fun W => (W.cell? ⟨s, 0, none⟩ = some (.int .i64 nN) ∧ W.cell? ⟨s, 1, none⟩ = some (.int .i64 nT) ∧ W.cell? ⟨s, 2, none⟩ = some (.int .i64 nK) ∧ W.cell? ⟨s, 3, none⟩ = some (.int .i64 E) ∧ W.cell? ⟨s, 4, none⟩ = some (.int .i64 Rm) ∧ W.cell? ⟨s, 5, none⟩ = some (.slice A nr c) ∧ W.cell? ⟨s, 6, none⟩ = some (.slice B m d)) ∧ (convert 36 9 (.slice O6 rl co6)).run Try.prog W = .ok (.string st) W) _ := ⟨hS, HC8.out _ (Fr.refl _ _)⟩
     clear hS
     have hS := hS'
     clear hS'
     refine zk 22 103 hS ?_
     refine wpAnyH_ready (rs := [30]) (by kernel_rfl) (by simp) ?_
     refine AllReadyH.cons rfl (fun K hK => ?_) AllReadyH.nil
     rw [if_pos (by rfl)]
     go_simp
     go_at_call 73; first | (with_reducible refine (HLT.out _ _ _ HB7.out HQ7.out).mono ?_; rintro e w8 ⟨O6, co6, rfl, hc8, hb8⟩; have HB8 := za.mk (HBT.out _ _ HB7.out hb8); have HC8 := za.mk hc8; have k3 := za.mk (HG.out _ HB8.out); clear hc8 hb8) | (with_reducible refine (HLF.out _ HB8.out).mono ?_; rintro e w9 ⟨O7, co7, rfl, hc9, hb9⟩; have HB9 := za.mk (HBT.out _ _ HB8.out hb9); have HC9 := za.mk hc9; have k4 := za.mk (And.intro (HG.out _ HB9.out) (HC8.out _ (HFB.out _ _ hb9))); clear hc9 hb9)
     refine hK.out _ _ (by first | with_reducible exact k4.out | with_reducible exact k3.out | with_reducible exact k2.out | with_reducible exact k1.out) (fun hS2 => ?_)
     clear hK K hS
     have hS := hS2
     clear hS2
     try simp only [Act.put, List.setIfInBounds_toArray, List.set_cons_zero, List.set_cons_succ]
     refine jU (S' := (fun W => ((W.cell? ⟨s, 0, none⟩ = some (.int .i64 nN) ∧ W.cell? ⟨s, 1, none⟩ = some (.int .i64 nT) ∧ W.cell? ⟨s, 2, none⟩ = some (.int .i64 nK) ∧ W.cell? ⟨s, 3, none⟩ = some (.int .i64 E) ∧ W.cell? ⟨s, 4, none⟩ = some (.int .i64 Rm) ∧ W.cell? ⟨s, 5, none⟩ = some (.slice A nr c) ∧ W.cell? ⟨s, 6, none⟩ = some (.slice B m d)) ∧ (convert 36 9 (.slice O6 rl co6)).run Try.prog W = .ok (.string st) W) ∧ (convert 36 9 (.slice O7 rl co7)).run Try.prog W = .ok (.string st) W)) (fun _ h => h.1) _ _ _ _ ?_
     have hS' : (fun W => ((W.cell? ⟨s, 0, none⟩ = some (.int .i64 nN) ∧ W.cell? ⟨s, 1, none⟩ = some (.int .i64 nT) ∧ W.cell? ⟨s, 2, none⟩ = some (.int .i64 nK) ∧ W.cell? ⟨s, 3, none⟩ = some (.int .i64 E) ∧ W.cell? ⟨s, 4, none⟩ = some (.int .i64 Rm) ∧ W.cell? ⟨s, 5, none⟩ = some (.slice A nr c) ∧ W.cell? ⟨s, 6, none⟩ = some (.slice B m d)) ∧ (convert 36 9 (.slice O6 rl co6)).run Try.prog W = .ok (.string st) W) ∧ (convert 36 9 (.slice O7 rl co7)).run Try.prog W = .ok (.string st) W) _ := ⟨hS, HC9.out _ (Fr.refl _ _)⟩
     clear hS
     have hS := hS'
     clear hS'
     refine zk 31 112 hS ?_
     refine zk 32 113 hS ?_
     refine zk 33 114 hS ?_
     refine zk 34 8 hS ?_
     refine wpAnyH_done (by kernel_rfl) ?_ _
     clear hS k0 k1 k2 k3 k4
     go_wp2
     go_ret
     exact ⟨by simp, HBW.out _ HB9.out⟩
    rw [decide_eq_false c2] at HRT
    clear hR hsm hT hPL hD hC hwl hW0 hz0 a0 hb0 hs hl hN hD2 hC2 hwl2 hl2 hD3 hC3 hwl3 hl3 c1 c2
    unfold zbe at *
    try unfold zv at *
    go_enter Try.func26, Try.ntmps26
    go_wp2_with (first
     | (go_at_call 70; rw [← HW0.out, ← HS.out]; with_reducible refine HSML.out.mono ?_; rintro e w1 ⟨rfl, hb1⟩; have HB1 := za.mk (HBT.out _ _ HBR.out hb1); have HBX := HB1; obtain ⟨p0, p1, p2, p3, p4, p5, p6⟩ := HG.out w1 HB1.out; clear hb1)
     | (go_at_call 72; with_reducible refine (HRT.out w1 HB1.out).mono ?_; rintro e w2 ⟨rfl, hb2⟩; have HB2 := za.mk (HBT.out _ _ HB1.out hb2); have HBX := HB2; obtain ⟨p0, p1, p2, p3, p4, p5, p6⟩ := HG.out w2 HB2.out; clear hb2)
     | (go_at_call 64; with_reducible refine (HANS.out _).mono ?_; rintro e w9 ⟨rfl, hb9⟩; have HB9 := za.mk (HBT.out _ _ HBX.out hb9); clear hb9))
    go_ret
    exact ⟨rfl, HBW.out _ HB9.out⟩
   have hnb3 : ((len : Int) != (len3 : Int)) = true := by simp; omega
   clear hR hsm hT hPL hD hC hwl hW0 hz0 a0 hb0 hs hl hN hD2 hC2 hwl2 hl2 hD3 hC3 hwl3 hl3 c1 c3 HRT
   unfold zbe at *
   try unfold zv at *
   go_enter Try.func26, Try.ntmps26
   go_wp2_with (first
    | (go_at_call 70; rw [← HW0.out, ← HS.out]; with_reducible refine HSML.out.mono ?_; rintro e w1 ⟨rfl, hb1⟩; have HB1 := za.mk (HBT.out _ _ HBR.out hb1); have HBX := HB1; obtain ⟨p0, p1, p2, p3, p4, p5, p6⟩ := HG.out w1 HB1.out; clear hb1)
    | (go_at_call 64; with_reducible refine (HANS.out _).mono ?_; rintro e w9 ⟨rfl, hb9⟩; have HB9 := za.mk (HBT.out _ _ HBX.out hb9); clear hb9))
   go_ret
   exact ⟨rfl, HBW.out _ HB9.out⟩
  have hnb : ((len : Int) != (len2 : Int)) = true := by simp; omega
  clear hR hsm hT hPL hD hC hwl hW0 hz0 a0 hb0 hs hl hN hD2 hC2 hwl2 hl2 hD3 hC3 hwl3 hl3 c1 c0 HRT
  unfold zbe at *
  try unfold zv at *
  go_enter Try.func26, Try.ntmps26
  go_wp2_with (first
   | (go_at_call 70; rw [← HW0.out, ← HS.out]; with_reducible refine HSML.out.mono ?_; rintro e w1 ⟨rfl, hb1⟩; have HB1 := za.mk (HBT.out _ _ HBR.out hb1); have HBX := HB1; obtain ⟨p0, p1, p2, p3, p4, p5, p6⟩ := HG.out w1 HB1.out; clear hb1)
   | (go_at_call 64; with_reducible refine (HANS.out _).mono ?_; rintro e w9 ⟨rfl, hb9⟩; have HB9 := za.mk (HBT.out _ _ HBX.out hb9); clear hb9))
  go_ret
  exact ⟨rfl, HBW.out _ HB9.out⟩
 rw [decide_eq_false c1] at HSML
 clear hR hsm hT hPL hD hC hwl hW0 hz0 a0 hb0 hs hl hN hD2 hC2 hwl2 hl2 hD3 hC3 hwl3 hl3 c1 HRT
 unfold zbe at *
 try unfold zv at *
 go_enter Try.func26, Try.ntmps26
 go_wp2_with (first
  | (go_at_call 70; rw [← HW0.out, ← HS.out]; with_reducible refine HSML.out.mono ?_; rintro e w1 ⟨rfl, hb1⟩; have HB1 := za.mk (HBT.out _ _ HBR.out hb1); have HBX := HB1; obtain ⟨p0, p1, p2, p3, p4, p5, p6⟩ := HG.out w1 HB1.out; clear hb1)
  | (go_at_call 64; with_reducible refine (HANS.out _).mono ?_; rintro e w9 ⟨rfl, hb9⟩; have HB9 := za.mk (HBT.out _ _ HBX.out hb9); clear hb9))
 go_ret
 exact ⟨rfl, HBW.out _ HB9.out⟩
end Go.Proofs.Ytpeiejkcoadhfaa
