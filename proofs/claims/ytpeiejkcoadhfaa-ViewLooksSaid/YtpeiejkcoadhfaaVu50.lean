/- What the view's laws take, Vu50: VwLd. -/
import Derived.Test.YtpeiejkcoadhfaaVu36
import Derived.Test.YtpeiejkcoadhfaaVu39
import Derived.Test.YtpeiejkcoadhfaaVu46
import Derived.Test.YtpeiejkcoadhfaaVu47
import Derived.Test.YtpeiejkcoadhfaaVu48
import Derived.Test.YtpeiejkcoadhfaaVu49
set_option linter.all false
namespace Go.Proofs.Ytpeiejkcoadhfaa
open Go.RowKit Go.Shelf Go.Proofs.YtpeiejkcoadhfaaW.PrintWords Go.Proofs.YtpeiejkcoadhfaaW.PrintMore
open Go.BigFrame
attribute [local go_sem] Oper.semAt_some
set_option maxRecDepth 100000 in
set_option maxHeartbeats 6400000 in
theorem zki (w : World) (cs : Array Value) (x : RunT) (hK : zjW.K w x cs.toList) (hw : zgI x) (D : Option Addr) (len cd : Nat) (l : List Int) (hl : l.length = len) (hC : Kd.C u8 w D len l) (hlc : len ≤ cd) (hwl : ∀ a ∈ l, (Lit.int .u8 a).wf = true) :
 Calls Try.prog 22 #[.agg cs, .slice D len cd] w fun e w' => e = .returned (.bool true) ∧ Below w.heap.size w w' := by
 obtain ⟨N, T, K, E, Rm, A, nr, c, B, m, d, rs, ts, eagg, hN, hR, hnc, hnr, hsm, hT, hmd, hPL, hm⟩ := zed hK hw
 rw [eagg]
 clear eagg hK hw
 obtain ⟨p, rfl⟩ := JT l hwl
 have hD := Jz.1 hC
 have hnl : rs.length = nr := Zi hR
 obtain ⟨W0, hW0, hz0, a0, hb0⟩ := zU w (Obj.cells #[.int .i64 N, .int .i64 T, .int .i64 K, .int .i64 E, .int .i64 Rm, .slice A nr c, .slice B m d] 77)
 have HANS := za.mk (fun W => zcu W)
 have HBT : za (∀ W W', Below W0.heap.size W0 W → Below W.heap.size W W' → Below W0.heap.size W0 W') := ⟨fun W W' h h' => h.trans (h'.mono h.size)⟩
 have HBW : za (∀ W, Below W0.heap.size W0 W → Below w.heap.size w W) := ⟨fun W h => hb0.trans (h.mono hb0.size)⟩
 have HBR : za (Below W0.heap.size W0 W0) := ⟨Below.refl _ _⟩
 obtain ⟨s, hs⟩ : ∃ s, s = w.heap.size := ⟨_, rfl⟩
 rw [← hs] at a0
 have HS := za.mk hs
 have HG : za (∀ W, Below W0.heap.size W0 W → W.cell? ⟨s, 0, none⟩ = some (.int .i64 N) ∧ W.cell? ⟨s, 1, none⟩ = some (.int .i64 T) ∧ W.cell? ⟨s, 2, none⟩ = some (.int .i64 K) ∧ W.cell? ⟨s, 3, none⟩ = some (.int .i64 E) ∧ W.cell? ⟨s, 4, none⟩ = some (.int .i64 Rm) ∧ W.cell? ⟨s, 5, none⟩ = some (.slice A nr c) ∧ W.cell? ⟨s, 6, none⟩ = some (.slice B m d)) := ⟨fun W hW => by
  have h := zl a0 hW
  exact ⟨zh h rfl, zh h rfl, zh h rfl, zh h rfl, zh h rfl, zh h rfl, zh h rfl⟩⟩
 have HSML := za.mk (zcC W0 N T K E Rm len A nr c rs (zA hR hb0) hnc B m d (ts.map bs) (Kd.C_below hT hb0) hmd hm)
 have HRT : za (∀ W, Below W0.heap.size W0 W → Calls Try.prog 72 #[zv N T K E Rm, .int .i64 len, .slice A nr c, .slice B m d] W fun e w' => e = .returned (.bool (decide (yv N T K E Rm len rs (ts.map List.length)))) ∧ Below W.heap.size W w') := ⟨fun W h => Zq W N T K E Rm len A nr c rs (zA hR (HBW.out W h)) hnc hnr hsm hN B m d ts (Kd.C_below hT (HBW.out W h)) hmd hm⟩
 have HW0 := za.mk hW0
 have hu48 := Try.underlying48
 have hu77 := Try.underlying77
 by_cases c1 : zaz N len rs (ts.map bs)
 ·rw [decide_eq_true c1] at HSML
  have hml : m ≤ 200 := by have := c1.2.2.2.2; rw [List.length_map, zbA hPL] at this; exact this
  by_cases c2 : yv N T K E Rm len rs (ts.map List.length)
  ·rw [decide_eq_true c2] at HRT
   obtain ⟨nN, nT, nK, rfl, rfl, rfl, -, -, -, -, -, -, -⟩ := zaR c2.1.1
   obtain ⟨res, hres⟩ : ∃ res, res = jD nN nT nK p rs ts := ⟨_, rfl⟩
   obtain ⟨rl, hrl⟩ : ∃ rl, rl = res.length := ⟨_, rfl⟩
   obtain ⟨st, hst⟩ : ∃ st, st = strOfNums (bs res) := ⟨_, rfl⟩
   have HLOOK : za (∀ W, Below W0.heap.size W0 W → Calls Try.prog 71 #[zv nN nT nK E Rm, .slice D len cd, .slice A nr c, .slice B m d] W fun e w' => ∃ O co, e = .returned (.tuple #[.slice O rl co, .bool true]) ∧ (∀ W, Fr (fun _ => False) w' W → (convert 36 9 (.slice O rl co)).run Try.prog W = .ok (.string st) W) ∧ Below W.heap.size W w') := ⟨fun W h => by
    refine (zhC W nN nT nK E Rm D len cd p (Kd.C_below hD (HBW.out W h)) hlc A nr c rs (zA hR (HBW.out W h)) hsm B m d ts (zG hPL (HBW.out W h)) (by omega) c2).mono ?_
    rintro e w' ⟨O, co, rfl, h1, _, h3⟩
    rw [← hres, ← hrl] at h1
    rw [← hres, ← hrl]
    refine ⟨O, co, rfl, ?_, h3⟩
    rw [hst]
    exact zaV h1 co⟩
   have HREF : za (∀ W, Below W0.heap.size W0 W → Calls Try.prog 73 #[zv nN nT nK E Rm, .slice D len cd, .slice A nr c, .slice B m d] W fun e w' => ∃ O co, e = .returned (.slice O rl co) ∧ (∀ W, Fr (fun _ => False) w' W → (convert 36 9 (.slice O rl co)).run Try.prog W = .ok (.string st) W) ∧ Below W.heap.size W w') := ⟨fun W h => by
    refine (JH W nN nT nK E Rm D len cd p (Kd.C_below hD (HBW.out W h)) hlc A nr c rs (zA hR (HBW.out W h)) hsm B m d ts (zG hPL (HBW.out W h)) (by omega) c2).mono ?_
    rintro e w' ⟨O, co, rfl, h1, _, h3⟩
    rw [← hres, ← hrl] at h1
    rw [← hres, ← hrl]
    refine ⟨O, co, rfl, ?_, h3⟩
    rw [hst]
    exact zaV h1 co⟩
   have HFB : za (∀ W W', Below W.heap.size W W' → Fr (fun _ => False) W W') := ⟨fun W W' h => Fr.of_below h _⟩
   clear hR hsm hT hPL hD hC hwl hW0 hz0 a0 hb0 hs c1 c2 hl hN hres hrl hst
   unfold zbe zv at *
   go_enter Try.func22, Try.ntmps22
   go_wp2_with (first
    | (go_at_call 70; rw [← HW0.out, ← HS.out]; with_reducible refine HSML.out.mono ?_; rintro e w1 ⟨rfl, hb1⟩; have HB1 := za.mk (HBT.out _ _ HBR.out hb1); obtain ⟨p0, p1, p2, p3, p4, p5, p6⟩ := HG.out w1 HB1.out; clear hb1)
    | (go_at_call 71; with_reducible refine (HLOOK.out w1 HB1.out).mono ?_; rintro e w2 ⟨O1, co1, rfl, hc2, hb2⟩; have HB2 := za.mk (HBT.out _ _ HB1.out hb2); have HC2 := za.mk hc2; obtain ⟨p0, p1, p2, p3, p4, p5, p6⟩ := HG.out w2 HB2.out; clear hc2 hb2)
    | (go_at_call 72; with_reducible refine (HRT.out w2 HB2.out).mono ?_; rintro e w3 ⟨rfl, hb3⟩; have HB3 := za.mk (HBT.out _ _ HB2.out hb3); have HF3 := za.mk (HFB.out _ _ hb3); clear hb3))
   have HB3d : za (Below W0.heap.size W0 w3.drew) := ⟨HB3.out.drew⟩
   have HF3d : za (Fr (fun _ => False) w2 w3.drew) := ⟨HF3.out.drew⟩
   have k0 := za.mk (And.intro (HG.out _ HB3d.out) (HC2.out _ HF3d.out))
   clear p0 p1 p2 p3 p4 p5 p6
   refine wp_region_held_drew (S := (fun W => (W.cell? ⟨s, 0, none⟩ = some (.int .i64 nN) ∧ W.cell? ⟨s, 1, none⟩ = some (.int .i64 nT) ∧ W.cell? ⟨s, 2, none⟩ = some (.int .i64 nK) ∧ W.cell? ⟨s, 3, none⟩ = some (.int .i64 E) ∧ W.cell? ⟨s, 4, none⟩ = some (.int .i64 Rm) ∧ W.cell? ⟨s, 5, none⟩ = some (.slice A nr c) ∧ W.cell? ⟨s, 6, none⟩ = some (.slice B m d)) ∧ (convert 36 9 (.slice O1 rl co1)).run Try.prog W = .ok (.string st) W)) (by kernel_rfl) (k0.out) (fun hS => ?_)
   refine wpAnyH_ready (rs := [0]) (by kernel_rfl) (by simp) ?_
   refine AllReadyH.cons rfl (fun K hK => ?_) AllReadyH.nil
   rw [if_pos (by rfl)]
   go_simp
   go_at_call 64; with_reducible refine (HANS.out _).mono ?_; rintro e w4 ⟨rfl, hb4⟩; have HB4 := za.mk (HBT.out _ _ HB3d.out hb4); have HF4 := za.mk (HF3d.out.trans' (HFB.out _ _ hb4)); have k1 := za.mk (And.intro (HG.out _ HB4.out) (HC2.out _ HF4.out)); clear hb4
   refine hK.out _ _ (by first | with_reducible exact k2.out | with_reducible exact k1.out) (fun hS2 => ?_)
   clear hK K hS
   have hS := hS2
   clear hS2
   try simp only [Act.put, List.setIfInBounds_toArray, List.set_cons_zero, List.set_cons_succ]
   refine zk 1 45 hS ?_
   refine zk 2 46 hS ?_
   refine zk 3 47 hS ?_
   refine zk 4 48 hS ?_
   refine zk 5 49 hS ?_
   refine zk 6 50 hS ?_
   refine zk 7 51 hS ?_
   refine zk 8 52 hS ?_
   refine zk 9 53 hS ?_
   refine zk 10 54 hS ?_
   refine zk 11 55 hS ?_
   refine zk 12 56 hS ?_
   refine zk 13 57 hS ?_
   refine wpAnyH_ready (rs := [14]) (by kernel_rfl) (by simp) ?_
   refine AllReadyH.cons rfl (fun K hK => ?_) AllReadyH.nil
   rw [if_pos (by rfl)]
   go_simp
   go_at_call 73; with_reducible refine (HREF.out _ HB4.out).mono ?_; rintro e w5 ⟨O2, co2, rfl, hc5, hb5⟩; have HB5 := za.mk (HBT.out _ _ HB4.out hb5); have HF5 := za.mk (HF4.out.trans' (HFB.out _ _ hb5)); have HC5 := za.mk hc5; have k2 := za.mk (And.intro (HG.out _ HB5.out) (HC2.out _ HF5.out)); clear hb5 hc5
   refine hK.out _ _ (by first | with_reducible exact k2.out | with_reducible exact k1.out) (fun hS2 => ?_)
   clear hK K hS
   have hS := hS2
   clear hS2
   try simp only [Act.put, List.setIfInBounds_toArray, List.set_cons_zero, List.set_cons_succ]
   refine jU (S' := (fun W => ((W.cell? ⟨s, 0, none⟩ = some (.int .i64 nN) ∧ W.cell? ⟨s, 1, none⟩ = some (.int .i64 nT) ∧ W.cell? ⟨s, 2, none⟩ = some (.int .i64 nK) ∧ W.cell? ⟨s, 3, none⟩ = some (.int .i64 E) ∧ W.cell? ⟨s, 4, none⟩ = some (.int .i64 Rm) ∧ W.cell? ⟨s, 5, none⟩ = some (.slice A nr c) ∧ W.cell? ⟨s, 6, none⟩ = some (.slice B m d)) ∧ (convert 36 9 (.slice O1 rl co1)).run Try.prog W = .ok (.string st) W) ∧ (convert 36 9 (.slice O2 rl co2)).run Try.prog W = .ok (.string st) W)) (fun _ h => h.1) _ _ _ _ ?_
   have hS' : (fun W => ((W.cell? ⟨s, 0, none⟩ = some (.int .i64 nN) ∧ W.cell? ⟨s, 1, none⟩ = some (.int .i64 nT) ∧ W.cell? ⟨s, 2, none⟩ = some (.int .i64 nK) ∧ W.cell? ⟨s, 3, none⟩ = some (.int .i64 E) ∧ W.cell? ⟨s, 4, none⟩ = some (.int .i64 Rm) ∧ W.cell? ⟨s, 5, none⟩ = some (.slice A nr c) ∧ W.cell? ⟨s, 6, none⟩ = some (.slice B m d)) ∧ (convert 36 9 (.slice O1 rl co1)).run Try.prog W = .ok (.string st) W) ∧ (convert 36 9 (.slice O2 rl co2)).run Try.prog W = .ok (.string st) W) _ := ⟨hS, HC5.out _ (Fr.refl _ _)⟩
   clear hS
   have hS := hS'
   clear hS'
   refine zk 15 59 hS ?_
   refine zk 16 60 hS ?_
   refine zk 17 61 hS ?_
   refine zk 18 4 hS ?_
   refine wpAnyH_done (by kernel_rfl) ?_ _
   clear hS k0 k1 k2
   go_wp2
   go_ret
   exact ⟨by simp, HBW.out _ HB5.out⟩
  rw [decide_eq_false c2] at HRT
  have HLN : za (∀ W, Below W0.heap.size W0 W → Calls Try.prog 71 #[zv N T K E Rm, .slice D len cd, .slice A nr c, .slice B m d] W fun e w' => e = .returned (.tuple #[.slice none 0 0, .bool false]) ∧ Below W.heap.size W w') := ⟨fun W h => znH W N T K E Rm D len cd A nr c rs (zA hR (HBW.out W h)) hnr hsm hN B m d ts (zG hPL (HBW.out W h)) (by omega) c2⟩
  clear hR hsm hT hPL hD hC hwl hW0 hz0 a0 hb0 hs c1 c2 hl hN
  unfold zbe zv at *
  go_enter Try.func22, Try.ntmps22
  go_wp2_with (first
   | (go_at_call 70; rw [← HW0.out, ← HS.out]; with_reducible refine HSML.out.mono ?_; rintro e w1 ⟨rfl, hb1⟩; have HB1 := za.mk (HBT.out _ _ HBR.out hb1); obtain ⟨p0, p1, p2, p3, p4, p5, p6⟩ := HG.out w1 HB1.out; clear hb1)
   | (go_at_call 71; with_reducible refine (HLN.out w1 HB1.out).mono ?_; rintro e w2 ⟨rfl, hb2⟩; have HB2 := za.mk (HBT.out _ _ HB1.out hb2); obtain ⟨p0, p1, p2, p3, p4, p5, p6⟩ := HG.out w2 HB2.out; clear hb2)
   | (go_at_call 72; with_reducible refine (HRT.out w2 HB2.out).mono ?_; rintro e w3 ⟨rfl, hb3⟩; have HB3 := za.mk (HBT.out _ _ HB2.out hb3); clear hb3)
   | (go_at_call 64; with_reducible refine (HANS.out _).mono ?_; rintro e w4 ⟨rfl, hb4⟩; have HB4 := za.mk (HBT.out _ _ HB3.out hb4); clear hb4))
  go_ret
  exact ⟨rfl, HBW.out _ HB4.out⟩
 rw [decide_eq_false c1] at HSML
 clear hR hsm hT hPL hD hC hwl hW0 hz0 a0 hb0 hs c1 hl hN HRT
 unfold zbe at *
 go_enter Try.func22, Try.ntmps22
 go_wp2_with (first
  | (go_at_call 70; rw [← HW0.out, ← HS.out]; with_reducible refine HSML.out.mono ?_; rintro e w1 ⟨rfl, hb1⟩; have HB1 := za.mk (HBT.out _ _ HBR.out hb1); clear hb1)
  | (go_at_call 64; with_reducible refine (HANS.out _).mono ?_; rintro e w4 ⟨rfl, hb4⟩; have HB4 := za.mk (HBT.out _ _ HB1.out hb4); clear hb4))
 go_ret
 exact ⟨rfl, HBW.out _ HB4.out⟩
end Go.Proofs.Ytpeiejkcoadhfaa
