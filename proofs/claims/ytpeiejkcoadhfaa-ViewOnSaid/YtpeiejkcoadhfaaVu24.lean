/- What the view's laws take, Vu24: VwW, VwX, VwY. -/
import Derived.Test.YtpeiejkcoadhfaaVu23
import Derived.Maps.OwnSet
import Derived.Maps.OwnOps
set_option linter.all false
namespace Go.Proofs.Ytpeiejkcoadhfaa
open Go.RowKit Go.Shelf Go.Proofs.YtpeiejkcoadhfaaW.PrintWords Go.Proofs.YtpeiejkcoadhfaaW.PrintMore
open Go.BigFrame
def Je (kind target : Int) (D S : Option Addr) (nd cd ns cs : Nat) : Value := .agg #[.int .i64 kind, .int .i64 target, .slice D nd cd, .slice S ns cs]
theorem zcv {a : Int} (h : -9223372036854775808 ≤ a ∧ a ≤ 9223372036854775807) : wrap64 a = a := by unfold wrap64; omega
set_option maxRecDepth 100000 in
set_option maxHeartbeats 6400000 in
theorem zkc (w : World) (N T K E Rm : Int) (r : Ri) (D S : Option Addr) (nd cd ns cs : Nat) (hD : Kd.C kz w D nd r.ds) (hS : Kd.C kz w S ns r.sn) (hnd : nd ≤ 9223372036854775807) (hns : ns ≤ 9223372036854775807) (hT : 1 ≤ T ∧ T ≤ 255) :
 Calls Try.prog 98 #[zv N T K E Rm, Je r.kind r.target D S nd cd ns cs] w fun e w' => e = .returned (.bool (decide (zX N T r))) ∧ Below w.heap.size w w' := by
 obtain ⟨res, hres⟩ : ∃ res, res = decide (zX N T r) := ⟨_, rfl⟩
 have HRES := za.mk hres
 rw [← hres]
 have hnl : r.ds.length = nd := Kd.C_len hD
 obtain ⟨kind, target, ds, sn⟩ := r
 simp only at hD hS hnl HRES ⊢
 obtain ⟨w1, hw1, hz1, a0, a1, hb1⟩ := zey w (Obj.cells #[Value.int IntKind.i64 N, Value.int IntKind.i64 T, Value.int IntKind.i64 K, Value.int IntKind.i64 E, Value.int IntKind.i64 Rm] 48) (Obj.cells #[.int .i64 kind, .int .i64 target, .slice D nd cd, .slice S ns cs] 90)
 have HR1 := za.mk (zeF w1 N T K E Rm D nd cd ds (Kd.C_below hD hb1) hnd)
 have HR2 := za.mk (fun W (hW : Below w.heap.size w W) => zeF W N T K E Rm S ns cs sn (Kd.C_below hS hW) hns)
 have HCO := za.mk (fun W (hW : Below w.heap.size w W) => jC W D nd cd ds target (Kd.C_below hD hW) hnd)
 obtain ⟨b1, hb1'⟩ : ∃ b, b = decide (Ris N ds) := ⟨_, rfl⟩
 obtain ⟨b2, hb2'⟩ : ∃ b, b = decide (Ris N sn) := ⟨_, rfl⟩
 obtain ⟨b3, hb3'⟩ : ∃ b, b = decide (target ∈ ds) := ⟨_, rfl⟩
 rw [← hb1'] at HR1
 rw [← hb2'] at HR2
 rw [← hb3'] at HCO
 have hOk : za (res = decide ((kind = 0 ∨ kind = 2 ∨ kind = 3 ∨ kind = 4) ∧ (nd : Int) = (if kind = 0 then 0 else T + 1) ∧ 0 ≤ target ∧ target < N ∧ b1 = true ∧ b2 = true ∧ (kind = 3 → b3 = false))) := ⟨by
  rw [HRES.out, decide_eq_decide, hb1', hb2', hb3']
  unfold zX
  simp only [decide_eq_true_iff, decide_eq_false_iff_not, hnl]⟩
 have HG : za (∀ W, Below w1.heap.size w1 W → W.cell? ⟨w.heap.size, 0, none⟩ = some (.int .i64 N) ∧ W.cell? ⟨w.heap.size, 1, none⟩ = some (.int .i64 T) ∧ W.cell? ⟨w.heap.size, 2, none⟩ = some (.int .i64 K) ∧ W.cell? ⟨w.heap.size, 3, none⟩ = some (.int .i64 E) ∧ W.cell? ⟨w.heap.size, 4, none⟩ = some (.int .i64 Rm) ∧ W.cell? ⟨w.heap.size + 1, 0, none⟩ = some (.int .i64 kind) ∧ W.cell? ⟨w.heap.size + 1, 1, none⟩ = some (.int .i64 target) ∧ W.cell? ⟨w.heap.size + 1, 2, none⟩ = some (.slice D nd cd) ∧ W.cell? ⟨w.heap.size + 1, 3, none⟩ = some (.slice S ns cs)) := ⟨fun W hW => by
  have h0 := zl a0 hW
  have h1 := zl a1 hW
  exact ⟨zh h0 rfl, zh h0 rfl, zh h0 rfl, zh h0 rfl, zh h0 rfl, zh h1 rfl, zh h1 rfl, zh h1 rfl, zh h1 rfl⟩⟩
 have HZ := za.mk hb1.size
 have HB := za.mk hb1
 rw [hw1] at HR1 HG HB HZ
 have hT2 : wrap64 (T + 1) = T + 1 := zcv (by omega)
 clear hres hnl hD hS hw1 hz1 hb1 hb1' hb2' hb3' HRES a0 a1
 have hu48 := Try.underlying48
 have hu90 := Try.underlying90
 unfold zv at *
 unfold Je
 have hk : (kind ≠ 0 ∧ kind ≠ 2 ∧ kind ≠ 3 ∧ kind ≠ 4) ∨ kind = 0 ∨ kind = 2 ∨ kind = 3 ∨ kind = 4 := by omega
 rcases hk with ⟨n0, n2, n3, n4⟩ | rfl | rfl | rfl | rfl
 ·have HY : za (res = false) := ⟨by rw [hOk.out, decide_eq_false_iff_not]; rintro ⟨h, _⟩; omega⟩
  have e0 : (kind == 0) = false := by simp; exact n0
  have e2 : (kind == 2) = false := by simp; exact n2
  have e3 : (kind == 3) = false := by simp; exact n3
  have e4 : (kind == 4) = false := by simp; exact n4
  clear hOk HR1 HR2 HCO HG
  go_enter Try.func98, Try.ntmps98
  go_wp2
  go_ret
  exact ⟨by rw [HY.out]; rfl, HB.out⟩
 ·by_cases c1 : (nd : Int) = 0
  ·have e1 : ((nd : Int) != 0) = false := by simp; omega
   by_cases c2 : target < 0
   ·skip
    have HY : za (res = false) := ⟨by rw [hOk.out]; rw [decide_eq_false_iff_not]; rintro ⟨_, h1, h2, h3, h4, h5, h6⟩; omega⟩
    clear hOk
    go_enter Try.func98, Try.ntmps98
    go_wp2_with (first
     | (go_at_call 127; first
         | (with_reducible refine HR1.out.mono ?_; rintro e w2 ⟨rfl, hb2⟩; obtain ⟨p0, p1, p2, p3, p4, q0, q1, q2, q3⟩ := HG.out w2 hb2; have HB2 := za.mk (HB.out.trans (hb2.mono HZ.out)); have HM2 := za.mk (fun W (hW : Below w2.heap.size w2 W) => HG.out W (hb2.trans (hW.mono hb2.size))); clear hb2)
         | (with_reducible refine (HR2.out w2 HB2.out).mono ?_; rintro e w3 ⟨rfl, hb3⟩; obtain ⟨p0, p1, p2, p3, p4, q0, q1, q2, q3⟩ := HM2.out w3 hb3; have HB3 := za.mk (HB2.out.trans (hb3.mono HB2.out.size)); clear hb3))
     | (go_at_call 114; with_reducible refine (HCO.out w3 HB3.out).mono ?_; rintro e w4 ⟨rfl, ⟨m4, rfl⟩⟩))
    go_ret
    exact ⟨by rw [HY.out]; rfl, HB.out⟩
   have c2' : 0 ≤ target := by omega
   by_cases c3 : N ≤ target
   ·skip
    have HY : za (res = false) := ⟨by rw [hOk.out]; rw [decide_eq_false_iff_not]; rintro ⟨_, h1, h2, h3, h4, h5, h6⟩; omega⟩
    clear hOk
    go_enter Try.func98, Try.ntmps98
    go_wp2_with (first
     | (go_at_call 127; first
         | (with_reducible refine HR1.out.mono ?_; rintro e w2 ⟨rfl, hb2⟩; obtain ⟨p0, p1, p2, p3, p4, q0, q1, q2, q3⟩ := HG.out w2 hb2; have HB2 := za.mk (HB.out.trans (hb2.mono HZ.out)); have HM2 := za.mk (fun W (hW : Below w2.heap.size w2 W) => HG.out W (hb2.trans (hW.mono hb2.size))); clear hb2)
         | (with_reducible refine (HR2.out w2 HB2.out).mono ?_; rintro e w3 ⟨rfl, hb3⟩; obtain ⟨p0, p1, p2, p3, p4, q0, q1, q2, q3⟩ := HM2.out w3 hb3; have HB3 := za.mk (HB2.out.trans (hb3.mono HB2.out.size)); clear hb3))
     | (go_at_call 114; with_reducible refine (HCO.out w3 HB3.out).mono ?_; rintro e w4 ⟨rfl, ⟨m4, rfl⟩⟩))
    go_ret
    exact ⟨by rw [HY.out]; rfl, HB.out⟩
   have c3' : target < N := by omega
   cases b1 with
   | false =>
     have HY : za (res = false) := ⟨by rw [hOk.out]; rw [decide_eq_false_iff_not]; rintro ⟨_, h1, h2, h3, h4, h5, h6⟩; cases h4⟩
     clear hOk
     go_enter Try.func98, Try.ntmps98
     go_wp2_with (first
      | (go_at_call 127; first
          | (with_reducible refine HR1.out.mono ?_; rintro e w2 ⟨rfl, hb2⟩; obtain ⟨p0, p1, p2, p3, p4, q0, q1, q2, q3⟩ := HG.out w2 hb2; have HB2 := za.mk (HB.out.trans (hb2.mono HZ.out)); have HM2 := za.mk (fun W (hW : Below w2.heap.size w2 W) => HG.out W (hb2.trans (hW.mono hb2.size))); clear hb2)
          | (with_reducible refine (HR2.out w2 HB2.out).mono ?_; rintro e w3 ⟨rfl, hb3⟩; obtain ⟨p0, p1, p2, p3, p4, q0, q1, q2, q3⟩ := HM2.out w3 hb3; have HB3 := za.mk (HB2.out.trans (hb3.mono HB2.out.size)); clear hb3))
      | (go_at_call 114; with_reducible refine (HCO.out w3 HB3.out).mono ?_; rintro e w4 ⟨rfl, ⟨m4, rfl⟩⟩))
     go_ret
     exact ⟨by rw [HY.out]; rfl, HB2.out⟩
   | true =>
     cases b2 with
     | false =>
       have HY : za (res = false) := ⟨by rw [hOk.out]; rw [decide_eq_false_iff_not]; rintro ⟨_, h1, h2, h3, h4, h5, h6⟩; cases h5⟩
       clear hOk
       go_enter Try.func98, Try.ntmps98
       go_wp2_with (first
        | (go_at_call 127; first
            | (with_reducible refine HR1.out.mono ?_; rintro e w2 ⟨rfl, hb2⟩; obtain ⟨p0, p1, p2, p3, p4, q0, q1, q2, q3⟩ := HG.out w2 hb2; have HB2 := za.mk (HB.out.trans (hb2.mono HZ.out)); have HM2 := za.mk (fun W (hW : Below w2.heap.size w2 W) => HG.out W (hb2.trans (hW.mono hb2.size))); clear hb2)
            | (with_reducible refine (HR2.out w2 HB2.out).mono ?_; rintro e w3 ⟨rfl, hb3⟩; obtain ⟨p0, p1, p2, p3, p4, q0, q1, q2, q3⟩ := HM2.out w3 hb3; have HB3 := za.mk (HB2.out.trans (hb3.mono HB2.out.size)); clear hb3))
        | (go_at_call 114; with_reducible refine (HCO.out w3 HB3.out).mono ?_; rintro e w4 ⟨rfl, ⟨m4, rfl⟩⟩))
       go_ret
       exact ⟨by rw [HY.out]; rfl, HB3.out⟩
     | true =>
       have HY : za (res = true) := ⟨by rw [hOk.out]; rw [decide_eq_true_iff]; refine ⟨by omega, by rw [if_pos rfl]; exact c1, c2', c3', rfl, rfl, fun h => absurd h (by decide)⟩⟩
       clear hOk
       go_enter Try.func98, Try.ntmps98
       go_wp2_with (first
        | (go_at_call 127; first
            | (with_reducible refine HR1.out.mono ?_; rintro e w2 ⟨rfl, hb2⟩; obtain ⟨p0, p1, p2, p3, p4, q0, q1, q2, q3⟩ := HG.out w2 hb2; have HB2 := za.mk (HB.out.trans (hb2.mono HZ.out)); have HM2 := za.mk (fun W (hW : Below w2.heap.size w2 W) => HG.out W (hb2.trans (hW.mono hb2.size))); clear hb2)
            | (with_reducible refine (HR2.out w2 HB2.out).mono ?_; rintro e w3 ⟨rfl, hb3⟩; obtain ⟨p0, p1, p2, p3, p4, q0, q1, q2, q3⟩ := HM2.out w3 hb3; have HB3 := za.mk (HB2.out.trans (hb3.mono HB2.out.size)); clear hb3))
        | (go_at_call 114; with_reducible refine (HCO.out w3 HB3.out).mono ?_; rintro e w4 ⟨rfl, ⟨m4, rfl⟩⟩))
       go_ret
       exact ⟨by rw [HY.out]; rfl, HB3.out⟩
  have e1 : ((nd : Int) != 0) = true := by simp; omega
  have HY : za (res = false) := ⟨by rw [hOk.out]; rw [decide_eq_false_iff_not]; rintro ⟨_, h1, h2, h3, h4, h5, h6⟩; rw [if_pos rfl] at h1; exact c1 h1⟩
  clear hOk
  go_enter Try.func98, Try.ntmps98
  go_wp2_with (first
   | (go_at_call 127; first
       | (with_reducible refine HR1.out.mono ?_; rintro e w2 ⟨rfl, hb2⟩; obtain ⟨p0, p1, p2, p3, p4, q0, q1, q2, q3⟩ := HG.out w2 hb2; have HB2 := za.mk (HB.out.trans (hb2.mono HZ.out)); have HM2 := za.mk (fun W (hW : Below w2.heap.size w2 W) => HG.out W (hb2.trans (hW.mono hb2.size))); clear hb2)
       | (with_reducible refine (HR2.out w2 HB2.out).mono ?_; rintro e w3 ⟨rfl, hb3⟩; obtain ⟨p0, p1, p2, p3, p4, q0, q1, q2, q3⟩ := HM2.out w3 hb3; have HB3 := za.mk (HB2.out.trans (hb3.mono HB2.out.size)); clear hb3))
   | (go_at_call 114; with_reducible refine (HCO.out w3 HB3.out).mono ?_; rintro e w4 ⟨rfl, ⟨m4, rfl⟩⟩))
  go_ret
  exact ⟨by rw [HY.out]; rfl, HB.out⟩
 ·by_cases c1 : (nd : Int) = T + 1
  ·have e1 : ((nd : Int) != T + 1) = false := by simp; omega
   by_cases c2 : target < 0
   ·skip
    have HY : za (res = false) := ⟨by rw [hOk.out]; rw [decide_eq_false_iff_not]; rintro ⟨_, h1, h2, h3, h4, h5, h6⟩; omega⟩
    clear hOk
    go_enter Try.func98, Try.ntmps98
    go_wp2_with (first
     | (go_at_call 127; first
         | (with_reducible refine HR1.out.mono ?_; rintro e w2 ⟨rfl, hb2⟩; obtain ⟨p0, p1, p2, p3, p4, q0, q1, q2, q3⟩ := HG.out w2 hb2; have HB2 := za.mk (HB.out.trans (hb2.mono HZ.out)); have HM2 := za.mk (fun W (hW : Below w2.heap.size w2 W) => HG.out W (hb2.trans (hW.mono hb2.size))); clear hb2)
         | (with_reducible refine (HR2.out w2 HB2.out).mono ?_; rintro e w3 ⟨rfl, hb3⟩; obtain ⟨p0, p1, p2, p3, p4, q0, q1, q2, q3⟩ := HM2.out w3 hb3; have HB3 := za.mk (HB2.out.trans (hb3.mono HB2.out.size)); clear hb3))
     | (go_at_call 114; with_reducible refine (HCO.out w3 HB3.out).mono ?_; rintro e w4 ⟨rfl, ⟨m4, rfl⟩⟩))
    go_ret
    exact ⟨by rw [HY.out]; rfl, HB.out⟩
   have c2' : 0 ≤ target := by omega
   by_cases c3 : N ≤ target
   ·skip
    have HY : za (res = false) := ⟨by rw [hOk.out]; rw [decide_eq_false_iff_not]; rintro ⟨_, h1, h2, h3, h4, h5, h6⟩; omega⟩
    clear hOk
    go_enter Try.func98, Try.ntmps98
    go_wp2_with (first
     | (go_at_call 127; first
         | (with_reducible refine HR1.out.mono ?_; rintro e w2 ⟨rfl, hb2⟩; obtain ⟨p0, p1, p2, p3, p4, q0, q1, q2, q3⟩ := HG.out w2 hb2; have HB2 := za.mk (HB.out.trans (hb2.mono HZ.out)); have HM2 := za.mk (fun W (hW : Below w2.heap.size w2 W) => HG.out W (hb2.trans (hW.mono hb2.size))); clear hb2)
         | (with_reducible refine (HR2.out w2 HB2.out).mono ?_; rintro e w3 ⟨rfl, hb3⟩; obtain ⟨p0, p1, p2, p3, p4, q0, q1, q2, q3⟩ := HM2.out w3 hb3; have HB3 := za.mk (HB2.out.trans (hb3.mono HB2.out.size)); clear hb3))
     | (go_at_call 114; with_reducible refine (HCO.out w3 HB3.out).mono ?_; rintro e w4 ⟨rfl, ⟨m4, rfl⟩⟩))
    go_ret
    exact ⟨by rw [HY.out]; rfl, HB.out⟩
   have c3' : target < N := by omega
   cases b1 with
   | false =>
     have HY : za (res = false) := ⟨by rw [hOk.out]; rw [decide_eq_false_iff_not]; rintro ⟨_, h1, h2, h3, h4, h5, h6⟩; cases h4⟩
     clear hOk
     go_enter Try.func98, Try.ntmps98
     go_wp2_with (first
      | (go_at_call 127; first
          | (with_reducible refine HR1.out.mono ?_; rintro e w2 ⟨rfl, hb2⟩; obtain ⟨p0, p1, p2, p3, p4, q0, q1, q2, q3⟩ := HG.out w2 hb2; have HB2 := za.mk (HB.out.trans (hb2.mono HZ.out)); have HM2 := za.mk (fun W (hW : Below w2.heap.size w2 W) => HG.out W (hb2.trans (hW.mono hb2.size))); clear hb2)
          | (with_reducible refine (HR2.out w2 HB2.out).mono ?_; rintro e w3 ⟨rfl, hb3⟩; obtain ⟨p0, p1, p2, p3, p4, q0, q1, q2, q3⟩ := HM2.out w3 hb3; have HB3 := za.mk (HB2.out.trans (hb3.mono HB2.out.size)); clear hb3))
      | (go_at_call 114; with_reducible refine (HCO.out w3 HB3.out).mono ?_; rintro e w4 ⟨rfl, ⟨m4, rfl⟩⟩))
     go_ret
     exact ⟨by rw [HY.out]; rfl, HB2.out⟩
   | true =>
     cases b2 with
     | false =>
       have HY : za (res = false) := ⟨by rw [hOk.out]; rw [decide_eq_false_iff_not]; rintro ⟨_, h1, h2, h3, h4, h5, h6⟩; cases h5⟩
       clear hOk
       go_enter Try.func98, Try.ntmps98
       go_wp2_with (first
        | (go_at_call 127; first
            | (with_reducible refine HR1.out.mono ?_; rintro e w2 ⟨rfl, hb2⟩; obtain ⟨p0, p1, p2, p3, p4, q0, q1, q2, q3⟩ := HG.out w2 hb2; have HB2 := za.mk (HB.out.trans (hb2.mono HZ.out)); have HM2 := za.mk (fun W (hW : Below w2.heap.size w2 W) => HG.out W (hb2.trans (hW.mono hb2.size))); clear hb2)
            | (with_reducible refine (HR2.out w2 HB2.out).mono ?_; rintro e w3 ⟨rfl, hb3⟩; obtain ⟨p0, p1, p2, p3, p4, q0, q1, q2, q3⟩ := HM2.out w3 hb3; have HB3 := za.mk (HB2.out.trans (hb3.mono HB2.out.size)); clear hb3))
        | (go_at_call 114; with_reducible refine (HCO.out w3 HB3.out).mono ?_; rintro e w4 ⟨rfl, ⟨m4, rfl⟩⟩))
       go_ret
       exact ⟨by rw [HY.out]; rfl, HB3.out⟩
     | true =>
       have HY : za (res = true) := ⟨by rw [hOk.out]; rw [decide_eq_true_iff]; refine ⟨by omega, by rw [if_neg (by decide)]; exact c1, c2', c3', rfl, rfl, fun h => absurd h (by decide)⟩⟩
       clear hOk
       go_enter Try.func98, Try.ntmps98
       go_wp2_with (first
        | (go_at_call 127; first
            | (with_reducible refine HR1.out.mono ?_; rintro e w2 ⟨rfl, hb2⟩; obtain ⟨p0, p1, p2, p3, p4, q0, q1, q2, q3⟩ := HG.out w2 hb2; have HB2 := za.mk (HB.out.trans (hb2.mono HZ.out)); have HM2 := za.mk (fun W (hW : Below w2.heap.size w2 W) => HG.out W (hb2.trans (hW.mono hb2.size))); clear hb2)
            | (with_reducible refine (HR2.out w2 HB2.out).mono ?_; rintro e w3 ⟨rfl, hb3⟩; obtain ⟨p0, p1, p2, p3, p4, q0, q1, q2, q3⟩ := HM2.out w3 hb3; have HB3 := za.mk (HB2.out.trans (hb3.mono HB2.out.size)); clear hb3))
        | (go_at_call 114; with_reducible refine (HCO.out w3 HB3.out).mono ?_; rintro e w4 ⟨rfl, ⟨m4, rfl⟩⟩))
       go_ret
       exact ⟨by rw [HY.out]; rfl, HB3.out⟩
  have e1 : ((nd : Int) != T + 1) = true := by simp; omega
  have HY : za (res = false) := ⟨by rw [hOk.out]; rw [decide_eq_false_iff_not]; rintro ⟨_, h1, h2, h3, h4, h5, h6⟩; rw [if_neg (by decide)] at h1; exact c1 h1⟩
  clear hOk
  go_enter Try.func98, Try.ntmps98
  go_wp2_with (first
   | (go_at_call 127; first
       | (with_reducible refine HR1.out.mono ?_; rintro e w2 ⟨rfl, hb2⟩; obtain ⟨p0, p1, p2, p3, p4, q0, q1, q2, q3⟩ := HG.out w2 hb2; have HB2 := za.mk (HB.out.trans (hb2.mono HZ.out)); have HM2 := za.mk (fun W (hW : Below w2.heap.size w2 W) => HG.out W (hb2.trans (hW.mono hb2.size))); clear hb2)
       | (with_reducible refine (HR2.out w2 HB2.out).mono ?_; rintro e w3 ⟨rfl, hb3⟩; obtain ⟨p0, p1, p2, p3, p4, q0, q1, q2, q3⟩ := HM2.out w3 hb3; have HB3 := za.mk (HB2.out.trans (hb3.mono HB2.out.size)); clear hb3))
   | (go_at_call 114; with_reducible refine (HCO.out w3 HB3.out).mono ?_; rintro e w4 ⟨rfl, ⟨m4, rfl⟩⟩))
  go_ret
  exact ⟨by rw [HY.out]; rfl, HB.out⟩
 ·by_cases c1 : (nd : Int) = T + 1
  ·have e1 : ((nd : Int) != T + 1) = false := by simp; omega
   by_cases c2 : target < 0
   ·skip
    have HY : za (res = false) := ⟨by rw [hOk.out]; rw [decide_eq_false_iff_not]; rintro ⟨_, h1, h2, h3, h4, h5, h6⟩; omega⟩
    clear hOk
    go_enter Try.func98, Try.ntmps98
    go_wp2_with (first
     | (go_at_call 127; first
         | (with_reducible refine HR1.out.mono ?_; rintro e w2 ⟨rfl, hb2⟩; obtain ⟨p0, p1, p2, p3, p4, q0, q1, q2, q3⟩ := HG.out w2 hb2; have HB2 := za.mk (HB.out.trans (hb2.mono HZ.out)); have HM2 := za.mk (fun W (hW : Below w2.heap.size w2 W) => HG.out W (hb2.trans (hW.mono hb2.size))); clear hb2)
         | (with_reducible refine (HR2.out w2 HB2.out).mono ?_; rintro e w3 ⟨rfl, hb3⟩; obtain ⟨p0, p1, p2, p3, p4, q0, q1, q2, q3⟩ := HM2.out w3 hb3; have HB3 := za.mk (HB2.out.trans (hb3.mono HB2.out.size)); clear hb3))
     | (go_at_call 114; with_reducible refine (HCO.out w3 HB3.out).mono ?_; rintro e w4 ⟨rfl, ⟨m4, rfl⟩⟩))
    go_ret
    exact ⟨by rw [HY.out]; rfl, HB.out⟩
   have c2' : 0 ≤ target := by omega
   by_cases c3 : N ≤ target
   ·skip
    have HY : za (res = false) := ⟨by rw [hOk.out]; rw [decide_eq_false_iff_not]; rintro ⟨_, h1, h2, h3, h4, h5, h6⟩; omega⟩
    clear hOk
    go_enter Try.func98, Try.ntmps98
    go_wp2_with (first
     | (go_at_call 127; first
         | (with_reducible refine HR1.out.mono ?_; rintro e w2 ⟨rfl, hb2⟩; obtain ⟨p0, p1, p2, p3, p4, q0, q1, q2, q3⟩ := HG.out w2 hb2; have HB2 := za.mk (HB.out.trans (hb2.mono HZ.out)); have HM2 := za.mk (fun W (hW : Below w2.heap.size w2 W) => HG.out W (hb2.trans (hW.mono hb2.size))); clear hb2)
         | (with_reducible refine (HR2.out w2 HB2.out).mono ?_; rintro e w3 ⟨rfl, hb3⟩; obtain ⟨p0, p1, p2, p3, p4, q0, q1, q2, q3⟩ := HM2.out w3 hb3; have HB3 := za.mk (HB2.out.trans (hb3.mono HB2.out.size)); clear hb3))
     | (go_at_call 114; with_reducible refine (HCO.out w3 HB3.out).mono ?_; rintro e w4 ⟨rfl, ⟨m4, rfl⟩⟩))
    go_ret
    exact ⟨by rw [HY.out]; rfl, HB.out⟩
   have c3' : target < N := by omega
   cases b1 with
   | false =>
     have HY : za (res = false) := ⟨by rw [hOk.out]; rw [decide_eq_false_iff_not]; rintro ⟨_, h1, h2, h3, h4, h5, h6⟩; cases h4⟩
     clear hOk
     go_enter Try.func98, Try.ntmps98
     go_wp2_with (first
      | (go_at_call 127; first
          | (with_reducible refine HR1.out.mono ?_; rintro e w2 ⟨rfl, hb2⟩; obtain ⟨p0, p1, p2, p3, p4, q0, q1, q2, q3⟩ := HG.out w2 hb2; have HB2 := za.mk (HB.out.trans (hb2.mono HZ.out)); have HM2 := za.mk (fun W (hW : Below w2.heap.size w2 W) => HG.out W (hb2.trans (hW.mono hb2.size))); clear hb2)
          | (with_reducible refine (HR2.out w2 HB2.out).mono ?_; rintro e w3 ⟨rfl, hb3⟩; obtain ⟨p0, p1, p2, p3, p4, q0, q1, q2, q3⟩ := HM2.out w3 hb3; have HB3 := za.mk (HB2.out.trans (hb3.mono HB2.out.size)); clear hb3))
      | (go_at_call 114; with_reducible refine (HCO.out w3 HB3.out).mono ?_; rintro e w4 ⟨rfl, ⟨m4, rfl⟩⟩))
     go_ret
     exact ⟨by rw [HY.out]; rfl, HB2.out⟩
   | true =>
     cases b2 with
     | false =>
       have HY : za (res = false) := ⟨by rw [hOk.out]; rw [decide_eq_false_iff_not]; rintro ⟨_, h1, h2, h3, h4, h5, h6⟩; cases h5⟩
       clear hOk
       go_enter Try.func98, Try.ntmps98
       go_wp2_with (first
        | (go_at_call 127; first
            | (with_reducible refine HR1.out.mono ?_; rintro e w2 ⟨rfl, hb2⟩; obtain ⟨p0, p1, p2, p3, p4, q0, q1, q2, q3⟩ := HG.out w2 hb2; have HB2 := za.mk (HB.out.trans (hb2.mono HZ.out)); have HM2 := za.mk (fun W (hW : Below w2.heap.size w2 W) => HG.out W (hb2.trans (hW.mono hb2.size))); clear hb2)
            | (with_reducible refine (HR2.out w2 HB2.out).mono ?_; rintro e w3 ⟨rfl, hb3⟩; obtain ⟨p0, p1, p2, p3, p4, q0, q1, q2, q3⟩ := HM2.out w3 hb3; have HB3 := za.mk (HB2.out.trans (hb3.mono HB2.out.size)); clear hb3))
        | (go_at_call 114; with_reducible refine (HCO.out w3 HB3.out).mono ?_; rintro e w4 ⟨rfl, ⟨m4, rfl⟩⟩))
       go_ret
       exact ⟨by rw [HY.out]; rfl, HB3.out⟩
     | true =>
       cases b3 with
       | false =>
         have HY : za (res = true) := ⟨by rw [hOk.out]; rw [decide_eq_true_iff]; refine ⟨by omega, by rw [if_neg (by decide)]; exact c1, c2', c3', rfl, rfl, fun _ => rfl⟩⟩
         clear hOk
         go_enter Try.func98, Try.ntmps98
         go_wp2_with (first
          | (go_at_call 127; first
              | (with_reducible refine HR1.out.mono ?_; rintro e w2 ⟨rfl, hb2⟩; obtain ⟨p0, p1, p2, p3, p4, q0, q1, q2, q3⟩ := HG.out w2 hb2; have HB2 := za.mk (HB.out.trans (hb2.mono HZ.out)); have HM2 := za.mk (fun W (hW : Below w2.heap.size w2 W) => HG.out W (hb2.trans (hW.mono hb2.size))); clear hb2)
              | (with_reducible refine (HR2.out w2 HB2.out).mono ?_; rintro e w3 ⟨rfl, hb3⟩; obtain ⟨p0, p1, p2, p3, p4, q0, q1, q2, q3⟩ := HM2.out w3 hb3; have HB3 := za.mk (HB2.out.trans (hb3.mono HB2.out.size)); clear hb3))
          | (go_at_call 114; with_reducible refine (HCO.out w3 HB3.out).mono ?_; rintro e w4 ⟨rfl, ⟨m4, rfl⟩⟩))
         go_ret
         exact ⟨by rw [HY.out]; rfl, zb HB3.out m4⟩
       | true =>
         have HY : za (res = false) := ⟨by rw [hOk.out]; rw [decide_eq_false_iff_not]; rintro ⟨_, h1, h2, h3, h4, h5, h6⟩; cases h6 rfl⟩
         clear hOk
         go_enter Try.func98, Try.ntmps98
         go_wp2_with (first
          | (go_at_call 127; first
              | (with_reducible refine HR1.out.mono ?_; rintro e w2 ⟨rfl, hb2⟩; obtain ⟨p0, p1, p2, p3, p4, q0, q1, q2, q3⟩ := HG.out w2 hb2; have HB2 := za.mk (HB.out.trans (hb2.mono HZ.out)); have HM2 := za.mk (fun W (hW : Below w2.heap.size w2 W) => HG.out W (hb2.trans (hW.mono hb2.size))); clear hb2)
              | (with_reducible refine (HR2.out w2 HB2.out).mono ?_; rintro e w3 ⟨rfl, hb3⟩; obtain ⟨p0, p1, p2, p3, p4, q0, q1, q2, q3⟩ := HM2.out w3 hb3; have HB3 := za.mk (HB2.out.trans (hb3.mono HB2.out.size)); clear hb3))
          | (go_at_call 114; with_reducible refine (HCO.out w3 HB3.out).mono ?_; rintro e w4 ⟨rfl, ⟨m4, rfl⟩⟩))
         go_ret
         exact ⟨by rw [HY.out]; rfl, zb HB3.out m4⟩
  have e1 : ((nd : Int) != T + 1) = true := by simp; omega
  have HY : za (res = false) := ⟨by rw [hOk.out]; rw [decide_eq_false_iff_not]; rintro ⟨_, h1, h2, h3, h4, h5, h6⟩; rw [if_neg (by decide)] at h1; exact c1 h1⟩
  clear hOk
  go_enter Try.func98, Try.ntmps98
  go_wp2_with (first
   | (go_at_call 127; first
       | (with_reducible refine HR1.out.mono ?_; rintro e w2 ⟨rfl, hb2⟩; obtain ⟨p0, p1, p2, p3, p4, q0, q1, q2, q3⟩ := HG.out w2 hb2; have HB2 := za.mk (HB.out.trans (hb2.mono HZ.out)); have HM2 := za.mk (fun W (hW : Below w2.heap.size w2 W) => HG.out W (hb2.trans (hW.mono hb2.size))); clear hb2)
       | (with_reducible refine (HR2.out w2 HB2.out).mono ?_; rintro e w3 ⟨rfl, hb3⟩; obtain ⟨p0, p1, p2, p3, p4, q0, q1, q2, q3⟩ := HM2.out w3 hb3; have HB3 := za.mk (HB2.out.trans (hb3.mono HB2.out.size)); clear hb3))
   | (go_at_call 114; with_reducible refine (HCO.out w3 HB3.out).mono ?_; rintro e w4 ⟨rfl, ⟨m4, rfl⟩⟩))
  go_ret
  exact ⟨by rw [HY.out]; rfl, HB.out⟩
 by_cases c1 : (nd : Int) = T + 1
 ·have e1 : ((nd : Int) != T + 1) = false := by simp; omega
  by_cases c2 : target < 0
  ·skip
   have HY : za (res = false) := ⟨by rw [hOk.out]; rw [decide_eq_false_iff_not]; rintro ⟨_, h1, h2, h3, h4, h5, h6⟩; omega⟩
   clear hOk
   go_enter Try.func98, Try.ntmps98
   go_wp2_with (first
    | (go_at_call 127; first
        | (with_reducible refine HR1.out.mono ?_; rintro e w2 ⟨rfl, hb2⟩; obtain ⟨p0, p1, p2, p3, p4, q0, q1, q2, q3⟩ := HG.out w2 hb2; have HB2 := za.mk (HB.out.trans (hb2.mono HZ.out)); have HM2 := za.mk (fun W (hW : Below w2.heap.size w2 W) => HG.out W (hb2.trans (hW.mono hb2.size))); clear hb2)
        | (with_reducible refine (HR2.out w2 HB2.out).mono ?_; rintro e w3 ⟨rfl, hb3⟩; obtain ⟨p0, p1, p2, p3, p4, q0, q1, q2, q3⟩ := HM2.out w3 hb3; have HB3 := za.mk (HB2.out.trans (hb3.mono HB2.out.size)); clear hb3))
    | (go_at_call 114; with_reducible refine (HCO.out w3 HB3.out).mono ?_; rintro e w4 ⟨rfl, ⟨m4, rfl⟩⟩))
   go_ret
   exact ⟨by rw [HY.out]; rfl, HB.out⟩
  have c2' : 0 ≤ target := by omega
  by_cases c3 : N ≤ target
  ·skip
   have HY : za (res = false) := ⟨by rw [hOk.out]; rw [decide_eq_false_iff_not]; rintro ⟨_, h1, h2, h3, h4, h5, h6⟩; omega⟩
   clear hOk
   go_enter Try.func98, Try.ntmps98
   go_wp2_with (first
    | (go_at_call 127; first
        | (with_reducible refine HR1.out.mono ?_; rintro e w2 ⟨rfl, hb2⟩; obtain ⟨p0, p1, p2, p3, p4, q0, q1, q2, q3⟩ := HG.out w2 hb2; have HB2 := za.mk (HB.out.trans (hb2.mono HZ.out)); have HM2 := za.mk (fun W (hW : Below w2.heap.size w2 W) => HG.out W (hb2.trans (hW.mono hb2.size))); clear hb2)
        | (with_reducible refine (HR2.out w2 HB2.out).mono ?_; rintro e w3 ⟨rfl, hb3⟩; obtain ⟨p0, p1, p2, p3, p4, q0, q1, q2, q3⟩ := HM2.out w3 hb3; have HB3 := za.mk (HB2.out.trans (hb3.mono HB2.out.size)); clear hb3))
    | (go_at_call 114; with_reducible refine (HCO.out w3 HB3.out).mono ?_; rintro e w4 ⟨rfl, ⟨m4, rfl⟩⟩))
   go_ret
   exact ⟨by rw [HY.out]; rfl, HB.out⟩
  have c3' : target < N := by omega
  cases b1 with
  | false =>
    have HY : za (res = false) := ⟨by rw [hOk.out]; rw [decide_eq_false_iff_not]; rintro ⟨_, h1, h2, h3, h4, h5, h6⟩; cases h4⟩
    clear hOk
    go_enter Try.func98, Try.ntmps98
    go_wp2_with (first
     | (go_at_call 127; first
         | (with_reducible refine HR1.out.mono ?_; rintro e w2 ⟨rfl, hb2⟩; obtain ⟨p0, p1, p2, p3, p4, q0, q1, q2, q3⟩ := HG.out w2 hb2; have HB2 := za.mk (HB.out.trans (hb2.mono HZ.out)); have HM2 := za.mk (fun W (hW : Below w2.heap.size w2 W) => HG.out W (hb2.trans (hW.mono hb2.size))); clear hb2)
         | (with_reducible refine (HR2.out w2 HB2.out).mono ?_; rintro e w3 ⟨rfl, hb3⟩; obtain ⟨p0, p1, p2, p3, p4, q0, q1, q2, q3⟩ := HM2.out w3 hb3; have HB3 := za.mk (HB2.out.trans (hb3.mono HB2.out.size)); clear hb3))
     | (go_at_call 114; with_reducible refine (HCO.out w3 HB3.out).mono ?_; rintro e w4 ⟨rfl, ⟨m4, rfl⟩⟩))
    go_ret
    exact ⟨by rw [HY.out]; rfl, HB2.out⟩
  | true =>
    cases b2 with
    | false =>
      have HY : za (res = false) := ⟨by rw [hOk.out]; rw [decide_eq_false_iff_not]; rintro ⟨_, h1, h2, h3, h4, h5, h6⟩; cases h5⟩
      clear hOk
      go_enter Try.func98, Try.ntmps98
      go_wp2_with (first
       | (go_at_call 127; first
           | (with_reducible refine HR1.out.mono ?_; rintro e w2 ⟨rfl, hb2⟩; obtain ⟨p0, p1, p2, p3, p4, q0, q1, q2, q3⟩ := HG.out w2 hb2; have HB2 := za.mk (HB.out.trans (hb2.mono HZ.out)); have HM2 := za.mk (fun W (hW : Below w2.heap.size w2 W) => HG.out W (hb2.trans (hW.mono hb2.size))); clear hb2)
           | (with_reducible refine (HR2.out w2 HB2.out).mono ?_; rintro e w3 ⟨rfl, hb3⟩; obtain ⟨p0, p1, p2, p3, p4, q0, q1, q2, q3⟩ := HM2.out w3 hb3; have HB3 := za.mk (HB2.out.trans (hb3.mono HB2.out.size)); clear hb3))
       | (go_at_call 114; with_reducible refine (HCO.out w3 HB3.out).mono ?_; rintro e w4 ⟨rfl, ⟨m4, rfl⟩⟩))
      go_ret
      exact ⟨by rw [HY.out]; rfl, HB3.out⟩
    | true =>
      have HY : za (res = true) := ⟨by rw [hOk.out]; rw [decide_eq_true_iff]; refine ⟨by omega, by rw [if_neg (by decide)]; exact c1, c2', c3', rfl, rfl, fun h => absurd h (by decide)⟩⟩
      clear hOk
      go_enter Try.func98, Try.ntmps98
      go_wp2_with (first
       | (go_at_call 127; first
           | (with_reducible refine HR1.out.mono ?_; rintro e w2 ⟨rfl, hb2⟩; obtain ⟨p0, p1, p2, p3, p4, q0, q1, q2, q3⟩ := HG.out w2 hb2; have HB2 := za.mk (HB.out.trans (hb2.mono HZ.out)); have HM2 := za.mk (fun W (hW : Below w2.heap.size w2 W) => HG.out W (hb2.trans (hW.mono hb2.size))); clear hb2)
           | (with_reducible refine (HR2.out w2 HB2.out).mono ?_; rintro e w3 ⟨rfl, hb3⟩; obtain ⟨p0, p1, p2, p3, p4, q0, q1, q2, q3⟩ := HM2.out w3 hb3; have HB3 := za.mk (HB2.out.trans (hb3.mono HB2.out.size)); clear hb3))
       | (go_at_call 114; with_reducible refine (HCO.out w3 HB3.out).mono ?_; rintro e w4 ⟨rfl, ⟨m4, rfl⟩⟩))
      go_ret
      exact ⟨by rw [HY.out]; rfl, HB3.out⟩
 have e1 : ((nd : Int) != T + 1) = true := by simp; omega
 have HY : za (res = false) := ⟨by rw [hOk.out]; rw [decide_eq_false_iff_not]; rintro ⟨_, h1, h2, h3, h4, h5, h6⟩; rw [if_neg (by decide)] at h1; exact c1 h1⟩
 clear hOk
 go_enter Try.func98, Try.ntmps98
 go_wp2_with (first
  | (go_at_call 127; first
      | (with_reducible refine HR1.out.mono ?_; rintro e w2 ⟨rfl, hb2⟩; obtain ⟨p0, p1, p2, p3, p4, q0, q1, q2, q3⟩ := HG.out w2 hb2; have HB2 := za.mk (HB.out.trans (hb2.mono HZ.out)); have HM2 := za.mk (fun W (hW : Below w2.heap.size w2 W) => HG.out W (hb2.trans (hW.mono hb2.size))); clear hb2)
      | (with_reducible refine (HR2.out w2 HB2.out).mono ?_; rintro e w3 ⟨rfl, hb3⟩; obtain ⟨p0, p1, p2, p3, p4, q0, q1, q2, q3⟩ := HM2.out w3 hb3; have HB3 := za.mk (HB2.out.trans (hb3.mono HB2.out.size)); clear hb3))
  | (go_at_call 114; with_reducible refine (HCO.out w3 HB3.out).mono ?_; rintro e w4 ⟨rfl, ⟨m4, rfl⟩⟩))
 go_ret
 exact ⟨by rw [HY.out]; rfl, HB.out⟩
def zF (N T K E Rm : Int) : Obj := .cells #[.int .i64 N, .int .i64 T, .int .i64 K, .int .i64 E, .int .i64 Rm] 48 (0, 0)
set_option maxRecDepth 100000 in
set_option maxHeartbeats 1600000 in
theorem zmd (w : World) (s : Nat) (N T K E Rm : Int) (hP : w.heap[s]? = some (zF N T K E Rm)) (r : Ri) (D S : Option Addr) (nd cd ns cs : Nat) (hD : Kd.C kz w D nd r.ds) (hS : Kd.C kz w S ns r.sn) (hnd : nd ≤ 9223372036854775807) (hns : ns ≤ 9223372036854775807) (hT : 1 ≤ T ∧ T ≤ 255) :
 Calls Try.prog 97 #[Je r.kind r.target D S nd cd ns cs, .pointer (some ⟨s, 0, none⟩)] w fun e w' => e = .returned (.bool (!decide (zX N T r))) ∧ Below w.heap.size w w' := by
 obtain ⟨res, hres⟩ : ∃ res, res = decide (zX N T r) := ⟨_, rfl⟩
 obtain ⟨w1, hw1, hz1, a0, hb1⟩ := zU w (Obj.cells #[.int .i64 r.kind, .int .i64 r.target, .slice D nd cd, .slice S ns cs] 90)
 have HR := za.mk (zkc w1 N T K E Rm r D S nd cd ns cs (Kd.C_below hD hb1) (Kd.C_below hS hb1) hnd hns hT)
 have hP1 := zl hP hb1
 have HB := za.mk hb1
 have HZ := za.mk hb1.size
 rw [← hres] at HR ⊢
 unfold zF at hP1
 have p0 := zh hP1 (j := 0) (v := .int .i64 N) rfl
 have p1 := zh hP1 (j := 1) (v := .int .i64 T) rfl
 have p2 := zh hP1 (j := 2) (v := .int .i64 K) rfl
 have p3 := zh hP1 (j := 3) (v := .int .i64 E) rfl
 have p4 := zh hP1 (j := 4) (v := .int .i64 Rm) rfl
 rw [hw1] at HR HB HZ p0 p1 p2 p3 p4
 obtain ⟨kind, target, ds, sn⟩ := r
 simp only at HR
 clear hres hw1 hz1 a0 hb1 hP1 hD hS hP
 have hu48 := Try.underlying48
 have hu90 := Try.underlying90
 unfold zv Je at HR
 unfold Je
 go_enter Try.func97, Try.ntmps97
 go_wp2_with (go_at_call 98; with_reducible refine HR.out.mono ?_; rintro e w2 ⟨rfl, hb2⟩; have HB2 := za.mk (HB.out.trans (hb2.mono HZ.out)); clear hb2)
 go_ret
 exact ⟨rfl, HB2.out⟩
set_option maxRecDepth 100000 in
set_option maxHeartbeats 1600000 in
theorem ziR (w : World) (s : Nat) (N T K E Rm : Int) (hP : w.heap[s]? = some (zF N T K E Rm)) (A : Option Addr) (n c : Nat) (rs : List Ri) (hR : RL w A n rs) (hn : n ≤ 9223372036854775807) (hsm : ∀ r ∈ rs, r.ds.length ≤ 9223372036854775807 ∧ r.sn.length ≤ 9223372036854775807) (hT : 1 ≤ T ∧ T ≤ 255) :
 Calls Try.prog 126 #[.slice A n c, .func (.func 97) #[] #[.pointer (some ⟨s, 0, none⟩)]] w fun e w' => (∃ i : Int, e = .returned (.int .i64 i) ∧ decide (0 ≤ i) = !decide (∀ r ∈ rs, zX N T r)) ∧ Below w.heap.size w w' := by
 have HR := za.mk hR
 have HP := za.mk hP
 have HL := za.mk (Zi hR)
 have HM := za.mk hsm
 obtain ⟨res, hres⟩ : ∃ res, res = decide (∀ r ∈ rs, zX N T r) := ⟨_, rfl⟩
 have HRES := za.mk hres
 rw [← hres]
 clear hR hP hsm hres
 have hu90 := Try.underlying90
 go_enter Try.func126, Try.ntmps126
 go_wp2
 go_loopw [8] (fun v8 wr => ∃ (k : Nat), k ≤ n ∧ v8 = .int .i64 k ∧ za (Below w.heap.size w wr) ∧ za (∀ r ∈ rs.take k, zX N T r)) (fun v8 _ => n - (intOf v8).toNat)
 case atStart => exact ⟨0, by omega, rfl, ⟨Below.refl _ _⟩, ⟨fun r hr => by simp at hr⟩⟩
 obtain ⟨k, hk, rfl, HB, HT⟩ := hrel
 by_cases hlt : k < n
 ·obtain ⟨r, ad, D, S, nd, cd, ns, cs, hr, rfl, h0, h1, h2, h3, l1, _, hD, l2, _, hS⟩ := zdh (zA HR.out HB.out) k hlt
  have hlen : k < rs.length := by rw [HL.out]; exact hlt
  have hmem : r ∈ rs := by rw [hr, List.getD_eq_getElem?_getD, List.getElem?_eq_getElem hlen]; exact List.getElem_mem hlen
  have hsz := HM.out r hmem
  have HC := za.mk (zmd wr s N T K E Rm (zl HP.out HB.out) r D S nd cd ns cs hD hS (by omega) (by omega) hT)
  have hjI : (k : Int) < (n : Int) := by omega
  unfold Je at HC
  by_cases hok : zX N T r
  ·rw [decide_eq_true hok, Bool.not_true] at HC
   have HX : za (∀ r ∈ rs.take (k + 1), zX N T r) := ⟨fun x hx => by
    rw [zK ri0 rs k hlen, List.mem_append, List.mem_singleton] at hx
    rcases hx with e | e
    ·exact HT.out x e
    rw [e, ← hr]; exact hok⟩
   obtain ⟨kind, target, ds, sn⟩ := r
   simp only at h0 h1 HC
   clear hD hS l1 l2 hr hmem hsz hok
   go_wp2_with (go_at_call 97; with_reducible refine HC.out.mono ?_; rintro e w2 ⟨rfl, hb2⟩; have HB2 := za.mk (HB.out.trans (hb2.mono HB.out.size)); clear hb2)
   go_roundw
   case rel => exact ⟨k + 1, by omega, by go_num, HB2, HX⟩
   simp [intOf]; omega
  rw [decide_eq_false hok, Bool.not_false] at HC
  have HX : za (res = false) := ⟨by rw [HRES.out]; exact decide_eq_false (fun h => hok (h r hmem))⟩
  obtain ⟨kind, target, ds, sn⟩ := r
  simp only at h0 h1 HC
  clear hD hS l1 l2 hr hmem hsz hok
  go_wp2_with (go_at_call 97; with_reducible refine HC.out.mono ?_; rintro e w2 ⟨rfl, hb2⟩; have HB2 := za.mk (HB.out.trans (hb2.mono HB.out.size)); clear hb2)
  go_ret
  exact ⟨⟨_, rfl, by rw [HX.out]; simp⟩, HB2.out⟩
 obtain rfl : k = n := by omega
 have HX : za (res = true) := ⟨by
  rw [HRES.out, decide_eq_true_iff]
  have h := HT.out
  rwa [List.take_of_length_le (by rw [HL.out]; exact Nat.le_refl _)] at h⟩
 go_wp2
 go_ret
 exact ⟨⟨_, rfl, by rw [HX.out]; simp⟩, HB.out⟩
set_option maxRecDepth 100000 in
set_option maxHeartbeats 1600000 in
theorem zig (w : World) (s : Nat) (N T K E Rm : Int) (hP : w.heap[s]? = some (zF N T K E Rm)) (A : Option Addr) (n c : Nat) (rs : List Ri) (hR : RL w A n rs) (hn : n ≤ 9223372036854775807) (hsm : ∀ r ∈ rs, r.ds.length ≤ 9223372036854775807 ∧ r.sn.length ≤ 9223372036854775807) (hT : 1 ≤ T ∧ T ≤ 255) :
 Calls Try.prog 96 #[.slice A n c, .func (.func 97) #[] #[.pointer (some ⟨s, 0, none⟩)]] w fun e w' => e = .returned (.bool (!decide (∀ r ∈ rs, zX N T r))) ∧ Below w.heap.size w w' := by
 have HI := za.mk (ziR w s N T K E Rm hP A n c rs hR hn hsm hT)
 obtain ⟨res, hres⟩ : ∃ res, res = decide (∀ r ∈ rs, zX N T r) := ⟨_, rfl⟩
 rw [← hres] at HI ⊢
 clear hP hR hsm hres
 go_enter Try.func96, Try.ntmps96
 go_wp2_with (go_at_call 126; with_reducible refine HI.out.mono ?_; rintro e w1 ⟨⟨i, rfl, hi⟩, hb⟩)
 go_ret
 exact ⟨by rw [← hi]; rfl, hb⟩
end Go.Proofs.Ytpeiejkcoadhfaa
namespace Go.Proofs.Ytpeiejkcoadhfaa
open Go.RowKit Go.Shelf Go.Proofs.YtpeiejkcoadhfaaW.PrintWords Go.Proofs.YtpeiejkcoadhfaaW.PrintMore
open Go.BigFrame Go.Maps Go.WideShapes
theorem zjT : Keyed Try.prog 3 := int_keyed Try.underlying3
theorem zop (w : World) : (zeroValue 3).run Try.prog w = .ok (.int .i64 0) w := by kernel_rfl
structure zfV (D : DataW Unit) (cur : List Int) : Prop where
 tidy : Maps.Tidy D
 at_ : ∀ x : Int, D.atKey (.int .i64 x) (.lit (.int .i64 0)) = .lit (.int .i64 (cur.count x : Nat))
 has : ∀ x : Int, Maps.has D (.int .i64 x) = decide (x ∈ cur)
 size : Maps.size D = (nd cur).length
theorem zgf : zfV (.map []) [] := ⟨Maps.tidy_empty, fun _ => rfl, fun _ => rfl, rfl⟩
theorem zbJ (x : Int) : WideAt.IsKeyLit (.int .i64 x) := by first | trivial | exact True.intro | simp [WideAt.IsKeyLit]
theorem ziK {D : DataW Unit} {cur : List Int} (h : zfV D cur) (x : Int) : zfV (D.put (.int .i64 x) (.lit (.int .i64 (cur.count x + 1 : Nat)))) (cur ++ [x]) := by
 refine ⟨h.tidy.put (zbJ x) _, fun y => ?_, fun y => ?_, ?_⟩
 ·by_cases e : y = x
  ·subst e
   rw [Maps.atKey_put_same h.tidy.isMap (zbJ y), List.count_append]
   simp
  rw [Maps.atKey_put_other (by intro e'; injection e' with _ e'; exact e e'), h.at_ y, List.count_append]
  simp [List.count_cons, Ne.symm e]
 ·by_cases e : y = x
  ·subst e
   rw [Maps.has_put_same h.tidy.isMap (zbJ y)]
   simp
  rw [Maps.has_put_other (by intro e'; injection e' with _ e'; exact e e'), h.has y]
  simp [e]
 rw [Maps.size_put h.tidy, h.has x, h.size, zog]
 unfold zgo
 by_cases e : x ∈ cur
 ·rw [if_pos (by simpa using e), if_pos ((zbB cur x).2 e)]
 rw [if_neg (by simpa using e), if_neg (fun h => e ((zbB cur x).1 h)), List.length_append]
 rfl
def jp (w : World) (b : Nat) (cur : List Int) : Prop := ∃ D : DataW Unit, w.ownsMap Try.prog 3 (plainElem Try.prog 3) b cur.length D ∧ zfV D cur
theorem zjG (w : World) : jp (w.alloc (.map #[] 0)) w.heap.size [] := ⟨_, World.ownsMap_made _ _ _ _, zgf⟩
theorem zjP {w : World} {b : Nat} {cur : List Int} (h : jp w b cur) : ∃ es cl, w.heap[b]? = some (.map es cl) := by
 obtain ⟨_, ⟨es, cl, hb, _⟩, _⟩ := h
 exact ⟨es, cl, hb⟩
theorem zlt {w : World} {b : Nat} {cur : List Int} (h : jp w b cur) : b < w.heap.size := by
 obtain ⟨_, h, _⟩ := h
 exact h.lt
theorem Jx {S : Nat → Prop} {w w1 : World} {b : Nat} {cur : List Int} (h : jp w b cur) (hf : Fr S w w1) (hb : ¬ S b) : jp w1 b cur := by
 obtain ⟨D, ⟨es, cl, h1, h2⟩, h3⟩ := h
 exact ⟨D, ⟨es, cl, hf.blk h1 hb, h2⟩, h3⟩
theorem zdL {x : Int} (h : -9223372036854775808 ≤ x ∧ x ≤ 9223372036854775807) : (Lit.int .i64 x).wf = true := by simp [Lit.wf, IntKind.min, IntKind.max, IntKind.signed, IntKind.bits]; omega
set_option maxRecDepth 100000 in
theorem zjr {w : World} {b : Nat} {cur : List Int} (h : jp w b cur) (x : Int) (hx : 0 ≤ x ∧ x ≤ 255) (hl : cur.length ≤ 1099511627776) :
 (Instr.lookup 122 (.map (some b)) (.int .i64 x) false).run Try.prog w = .ok (.int .i64 (cur.count x : Nat)) w ∧ ∃ w', (Instr.mapUpdate 122 (.map (some b)) (.int .i64 x) (.int .i64 ((cur.count x + 1 : Nat) : Int))).run Try.prog w = .ok () w' ∧ jp w' b (cur ++ [x]) ∧ Fr (fun k => k = b) w w' := by
 obtain ⟨D, h1, h2⟩ := h
 have hkey : keyOf Try.prog 3 (.int .i64 x) = some (.int .i64 x) := keyOf_int_mk Try.underlying3 (zdL (by omega))
 obtain ⟨c, hrun, hat, hwc⟩ := h1.lookup_int zjT Try.underlying122 Try.underlying3 (zop w) hkey
 rw [h2.at_ x] at hat
 injection hat with hat
 injection hat with _ hat
 subst hat
 have hcl : cur.count x ≤ cur.length := List.count_le_length
 refine ⟨hrun, ?_⟩
 obtain ⟨w', hr2, hm, hg⟩ := h1.update zjT Try.underlying122 (by unfold maxLen; omega) hkey (plainElem_int (H := Unit) Try.underlying3 (a := ((cur.count x + 1 : Nat) : Int)) (zdL (by omega)))
 refine ⟨w', hr2, ⟨_, ?_, ziK h2 x⟩, Fr.of_grown hg (fun k hk => .inl (by injection hk with hk; exact hk.symm))⟩
 rw [List.length_append]
 exact hm
set_option maxRecDepth 100000 in
theorem zms {w : World} {b : Nat} {cur : List Int} (h : jp w b cur) (x : Int) (hx : 0 ≤ x ∧ x ≤ 255) : (Instr.lookup 122 (.map (some b)) (.int .i64 x) false).run Try.prog w = .ok (.int .i64 (cur.count x : Nat)) w := by
 obtain ⟨D, h1, h2⟩ := h
 have hkey : keyOf Try.prog 3 (.int .i64 x) = some (.int .i64 x) := keyOf_int_mk Try.underlying3 (zdL (by omega))
 obtain ⟨c, hrun, hat, hwc⟩ := h1.lookup_int zjT Try.underlying122 Try.underlying3 (zop w) hkey
 rw [h2.at_ x] at hat
 injection hat with hat
 injection hat with _ hat
 subst hat
 exact hrun
theorem znL {w : World} {b : Nat} {cur : List Int} (h : jp w b cur) (ty : TypeId) : (Builtin.len_ #[122] ty #[.map (some b)]).run Try.prog w = .ok (.int .i64 ((nd cur).length : Nat)) w := by
 obtain ⟨D, h1, h2⟩ := h
 rw [h1.len Try.underlying122 ty, h2.size]
theorem zjE {P : Program} {α : Type} (enc : α → Value) (d0 : α) {h1 : ∀ x, (enc x).oneCell' = true} (W w : World) (t e : TypeId) (z : Value) (bytes : Nat) (ht : P.underlying t = some (.slice e))
 (hinfo : (P.info? e).map (fun i => (i.zero, i.size, i.bytes)) = some (some z, 1, bytes)) (hzs : z.cells.size = 1) {A : Option Addr} {n c : Nat} {xs : List α} (h : Kd.R (Kd.scalar enc h1) e W w.heap.size (fun _ => True) (.slice A n c) xs) (hb : Below w.heap.size w W) (x : α)
 (hn : (xs.length + 1) * bytes ≤ 140737488355328) (hb0 : 0 < bytes) :
 ∃ B d W', (Builtin.append_ #[t, t] t #[.slice A n c, .slice (some ⟨W.heap.size, 0, none⟩) 1 1]).run P (W.alloc (.cells #[enc x] e)) = .ok (.slice B (xs.length + 1) d) W' ∧ Kd.R (Kd.scalar enc h1) e W' w.heap.size (fun _ => True) (.slice B (xs.length + 1) d) (xs ++ [x]) ∧ Below w.heap.size w W' ∧ Fr (fun k => OB A k) W W' := by
 have hlit : Kd.R (Kd.scalar enc h1) e (W.alloc (.cells #[enc x] e)) W.heap.size (fun _ => True) (.slice (some ⟨W.heap.size, 0, none⟩) 1 1) [x] :=
  Kd.R_of_own (yA W W.heap.size e [x] (Nat.le_refl _) (by simp)) (fun _ _ => trivial)
 have hb1 : Below W.heap.size W (W.alloc (.cells #[enc x] e)) := zc (Below.refl _ _) _
 have h2 := jo h (Fr.of_below hb1 (fun _ => False)) (fun _ _ _ _ h => h)
 have hbb : Below w.heap.size w (W.alloc (.cells #[enc x] e)) := hb.trans (hb1.mono hb.size)
 obtain ⟨v', W', hrun, hR, hg, hat⟩ := zR (P := P) enc d0 (W.alloc (.cells #[enc x] e)) w.heap.size t t e z bytes ht hinfo hzs (ys := [x]) (c := 1) h2 (R_C hlit) hn hb0 hbb.size (fun _ _ => trivial)
 obtain ⟨B, d, rfl⟩ := Kd.R_slice hR
 rw [List.length_append] at hrun hR
 exact ⟨B, d, W', hrun, hR, hbb.grown hg hbb.size (fun i hi => Kd.R_base h2 i hi), (Fr.of_below hb1 _).trans (Fr.of_grown hg (fun k hk => .inl (JP hk))) (fun k hk => .inl hk)⟩
theorem zaA (g j : Nat) : (Addr.mk g 0 none).add j = ⟨g, j, none⟩ := by unfold Addr.add; split <;> simp_all
def zpp (b : Nat) : Value := .map (some b)
abbrev km : Kd Nat := Kd.scalar zpp (fun _ => rfl)
def yX (w : World) (b : Nat) (v : Value) (bl : List Nat) (E : List (List Int)) : Prop :=
 Kd.R km 122 w b (fun _ => True) v bl ∧ bl.length = E.length ∧ (∀ j, j < E.length → b ≤ bl.getD j 0 ∧ jp w (bl.getD j 0) (E.getD j [])) ∧ ∀ i j, i < j → j < E.length → bl.getD i 0 < bl.getD j 0
theorem zgS {w w1 : World} {b m : Nat} {v : Value} {bl : List Nat} {cur : List Int} (h : Kd.R km 122 w b (fun _ => True) v bl) (hm : jp w m cur) (hf : Fr (fun k => k = m) w w1) : Kd.R km 122 w1 b (fun _ => True) v bl := by
 obtain ⟨es, cl, hb⟩ := zjP hm
 refine Kd.R_mono (jo (S := fun k => k = m) (ok := fun k => k ≠ m) (Kd.R_mono (Kd.R_bound h) (fun k hk => ?_)) hf (fun k hk _ _ e => hk e)) (fun _ _ => trivial)
 obtain ⟨_, _, _, q, _, cells, hc⟩ := hk
 rintro rfl
 rw [hb] at hc
 cases hc
theorem zjA {w w1 : World} {b : Nat} {v : Value} {bl : List Nat} {E : List (List Int)} (h : yX w b v bl E) (hf : Fr (fun _ => False) w w1) : yX w1 b v bl E :=
 ⟨jo h.1 hf (fun _ _ _ _ h => h), h.2.1, fun j hj => ⟨(h.2.2.1 j hj).1, Jx (h.2.2.1 j hj).2 hf (fun h => h)⟩, h.2.2.2⟩
theorem ziL {w w1 : World} {b m : Nat} {v : Value} {bl : List Nat} {E : List (List Int)} {cur : List Int} (h : yX w b v bl E) (hm : jp w m cur) (hlt : ∀ j, j < E.length → bl.getD j 0 < m) (hf : Fr (fun k => k = m) w w1) : yX w1 b v bl E :=
 ⟨zgS h.1 hm hf, h.2.1, fun j hj => ⟨(h.2.2.1 j hj).1, Jx (h.2.2.1 j hj).2 hf (fun e => by have := hlt j hj; omega)⟩, h.2.2.2⟩
theorem zjY {α : Type} (l : List α) (x y d : α) (j : Nat) (hj : j < l.length) : (l ++ [x]).getD j d = (l ++ [y]).getD j d := by
 rw [List.getD_eq_getElem?_getD, List.getD_eq_getElem?_getD, List.getElem?_append_left hj, List.getElem?_append_left hj]
theorem zly {w : World} {b : Nat} {v : Value} {bl : List Nat} {old : List (List Int)} {cur : List Int} (h : yX w b v bl (old ++ [cur])) (x : Int) (hx : 0 ≤ x ∧ x ≤ 255) (hl : cur.length ≤ 1099511627776) :
 ∃ (ad : Addr) (c m : Nat), m = bl.getD old.length 0 ∧ v = .slice (some ad) (old.length + 1) c ∧ w.cell? (ad.add old.length) = some (.map (some m)) ∧ (Instr.lookup 122 (.map (some m)) (.int .i64 x) false).run Try.prog w = .ok (.int .i64 (cur.count x : Nat)) w ∧
   ∃ w', (Instr.mapUpdate 122 (.map (some m)) (.int .i64 x) (.int .i64 ((cur.count x + 1 : Nat) : Int))).run Try.prog w = .ok () w' ∧ yX w' b v bl (old ++ [cur ++ [x]]) ∧ Fr (fun k => k = m) w w' := by
 obtain ⟨h1, h2, h3, h4⟩ := h
 rw [List.length_append] at h2 h3 h4
 have hlast : (old ++ [cur]).getD old.length [] = cur := ji old [] cur []
 obtain ⟨hb, hm⟩ := h3 old.length (by simp)
 rw [hlast] at hm
 obtain ⟨B, c, rfl⟩ := Kd.R_slice h1
 have hbl : bl.length = old.length + 1 := h2
 rw [hbl] at h1 ⊢
 obtain ⟨g, hB, _, _, _, hcell, _, _⟩ := jJ (d0 := (0 : Nat)) h1 old.length (by omega)
 subst hB
 obtain ⟨hr, w', hr2, hm', hf⟩ := zjr hm x hx hl
 refine ⟨⟨g, 0, none⟩, c, _, rfl, rfl, ?_, hr, w', hr2, ⟨zgS h1 hm hf, by rw [List.length_append]; exact h2, fun j hj => ?_, by rw [List.length_append]; exact h4⟩, hf⟩
 ·rw [zaA]; exact hcell
 rw [List.length_append] at hj
 have hj' : j < old.length + 1 := hj
 refine ⟨(h3 j hj).1, ?_⟩
 rcases Nat.lt_or_ge j old.length with e | e
 ·have h5 := (h3 j hj).2
  rw [zjY _ _ _ _ _ e]
  exact Jx h5 hf (fun e' => by have := h4 j old.length e (by simp); omega)
 obtain rfl : j = old.length := by omega
 rw [ji old [] (cur ++ [x]) []]
 exact hm'
theorem zoe : (Try.prog.info? 122).map (fun i => (i.zero, i.size, i.bytes)) = some (some (.map none), 1, 8) := by kernel_rfl
theorem zkV {w W : World} {v : Value} {bl : List Nat} {E : List (List Int)} {m : Nat} {cur : List Int} (h : yX W w.heap.size v bl E) (hb : Below w.heap.size w W) (hm : jp W m cur) (hbm : w.heap.size ≤ m) (hlt : ∀ j, j < E.length → bl.getD j 0 < m) (hn : E.length ≤ 1099511627776) :
 ∃ B d W', (Builtin.append_ #[121, 121] 121 #[v, .slice (some ⟨W.heap.size, 0, none⟩) 1 1]).run Try.prog (W.alloc (.cells #[.map (some m)] 122)) = .ok (.slice B (E.length + 1) d) W' ∧ yX W' w.heap.size (.slice B (E.length + 1) d) (bl ++ [m]) (E ++ [cur]) ∧ Below w.heap.size w W' := by
 obtain ⟨h1, h2, h3, h4⟩ := h
 obtain ⟨A0, c0, rfl⟩ := Kd.R_slice h1
 obtain ⟨B, d, W', hrun, hR, hb', hf⟩ := zjE (P := Try.prog) zpp (0 : Nat) (h1 := fun _ => rfl) W w 121 122 (.map none) 8 Try.underlying121 zoe rfl h1 hb m (by omega) (by omega)
 rw [h2] at hrun hR
 rw [h2]
 refine ⟨B, d, W', hrun, ⟨hR, by rw [List.length_append, List.length_append, h2]; rfl, fun j hj => ?_, fun i j hij hj => ?_⟩, hb'⟩
 ·rw [List.length_append] at hj
  have hj' : j < E.length + 1 := hj
  have keep : ∀ {mm : Nat} {cc : List Int}, jp W mm cc → jp W' mm cc := fun {mm cc} hmm => by
   obtain ⟨es, cl, hbk⟩ := zjP hmm
   refine Jx hmm hf (fun hS => ?_)
   obtain ⟨cells, hc⟩ := Kd.R_typed h1 mm (zV hS)
   rw [hbk] at hc
   cases hc
  rcases Nat.lt_or_ge j E.length with e | e
  ·rw [List.getD_eq_getElem?_getD, List.getElem?_append_left (by omega), ← List.getD_eq_getElem?_getD, List.getD_eq_getElem?_getD (l := E ++ [cur]), List.getElem?_append_left e, ← List.getD_eq_getElem?_getD]
   exact ⟨(h3 j e).1, keep (h3 j e).2⟩
  obtain rfl : j = E.length := by omega
  rw [ji E [] cur []]
  have : (bl ++ [m]).getD E.length 0 = m := by rw [← h2]; exact ji bl [] m 0
  rw [this]
  exact ⟨hbm, keep hm⟩
 rw [List.length_append] at hj
 have hj' : j < E.length + 1 := hj
 have hi : (bl ++ [m]).getD i 0 = bl.getD i 0 := by rw [List.getD_eq_getElem?_getD, List.getElem?_append_left (by omega), ← List.getD_eq_getElem?_getD]
 rw [hi]
 rcases Nat.lt_or_ge j E.length with e | e
 ·rw [List.getD_eq_getElem?_getD (l := bl ++ [m]), List.getElem?_append_left (by omega), ← List.getD_eq_getElem?_getD]
  exact h4 i j hij e
 obtain rfl : j = E.length := by omega
 have : (bl ++ [m]).getD E.length 0 = m := by rw [← h2]; exact ji bl [] m 0
 rw [this]
 exact hlt i (by omega)
end Go.Proofs.Ytpeiejkcoadhfaa
