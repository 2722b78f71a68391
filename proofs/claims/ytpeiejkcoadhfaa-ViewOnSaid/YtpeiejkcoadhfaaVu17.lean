/- What the view's laws take, Vu17: PDealPointsx1. -/
import Derived.Test.YtpeiejkcoadhfaaVu16
set_option linter.all false
namespace Go.Proofs.Ytpeiejkcoadhfaa.PDealPoints
open Go.RowKit Go.Proofs.YtpeiejkcoadhfaaW.PrintWords Go.Proofs.YtpeiejkcoadhfaaW.PrintLast Go.Proofs.YtpeiejkcoadhfaaW.PrintMore
attribute [local go_sem] jt jk Zd jM yW jb jv jA
set_option linter.unusedVariables false
set_option linter.unusedSimpArgs false
def deal_Good.f (a0_0 : Int) (a0_1 : Int) (a0_2 : Int) (a0_3 : Int) (a0_4 : Int) : Option (Bool) := if a0_1 < 1 then (some false) else (if a0_2 < 1 then (some false) else (if a0_3 < 0 then (some false) else (if a0_4 < 1 then (some false) else (if a0_4 > 512 then (some false) else (if a0_0 > 255 then (some false) else (if a0_1 > 255 then (some false) else (if a0_2 > 255 then (some false) else (if a0_3 > 255 then (some false) else (if a0_0 ≥ (wrap64 ((wrap64 (a0_1 + a0_2)) + (wrap64 (2 * a0_3)))) then (some (decide ((wrap64 (a0_0 + a0_2)) ≤ 255))) else (some false))))))))))
set_option maxHeartbeats 8000000 in
set_option maxRecDepth 100000 in
theorem deal_Good.calls (a0_0 : Int) (a0_1 : Int) (a0_2 : Int) (a0_3 : Int) (a0_4 : Int) (r : Bool) (w : World) (h : deal_Good.f a0_0 a0_1 a0_2 a0_3 a0_4 = some r) :
 Calls Try.prog 43 #[.agg #[.int .i64 a0_0, .int .i64 a0_1, .int .i64 a0_2, .int .i64 a0_3, .int .i64 a0_4]] w fun e w' => e = .returned (.bool r) ∧ Below w.heap.size w w' := by
 have hu48 := Try.underlying48
 have HB := za.mk (Below.refl w.heap.size w)
 have H : (if a0_1 < 1 then (some false) else (if a0_2 < 1 then (some false) else (if a0_3 < 0 then (some false) else (if a0_4 < 1 then (some false) else (if a0_4 > 512 then (some false) else (if a0_0 > 255 then (some false) else (if a0_1 > 255 then (some false) else (if a0_2 > 255 then (some false) else (if a0_3 > 255 then (some false) else (if a0_0 ≥ (wrap64 ((wrap64 (a0_1 + a0_2)) + (wrap64 (2 * a0_3)))) then (some (decide ((wrap64 (a0_0 + a0_2)) ≤ 255))) else (some false))))))))))) = some r := h
 clear h
 by_cases c2 : a0_1 < 1
 ·rw [if_pos c2] at H
  have c2b0 : decide (a0_1 < 1) = true := decide_eq_true c2
  clear c2
  obtain rfl := Option.some.inj H
  go_enter Try.func43, Try.ntmps43
  go_wp2_with (first | ((with_reducible refine zT (N := 1) rfl ?_); refine zP ?hg (N := 1) ?hd (cs := #[.int .i64 a0_0, .int .i64 a0_1, .int .i64 a0_2, .int .i64 a0_3, .int .i64 a0_4]) (t := 48) ?hr ?_; (case hd => rfl); (case hg => rfl); (case hr => first | (go_simp; done) | (go_simp; rfl)); intro gb101 hg w3 hbox hb; have n0_ := za.mk (zu (by repeat (first | (with_reducible first | exact HB.out | apply zc | apply zb | apply zg) | exact HB.out)) hb); have n1_ := za.mk (hbox); have n2_ := za.mk ((by rw [hg]; exact (zr (by repeat (first | (with_reducible first | exact HB.out | apply zc | apply zb | apply zg) | exact HB.out))) : w.heap.size ≤ gb101)); have n3_ := za.mk ((by rw [hg]; exact (zr (by repeat (first | (with_reducible first | exact HB.out | apply zc | apply zb | apply zg) | exact HB.out))) : w.heap.size ≤ gb101)); clear HB; have HB := n0_; have BK101 := n1_; have GW101 := n2_; have GE101 := n3_; clear n0_ n1_ n2_ n3_; clear hb hbox hg; have hcz4_0 : w3.cell? ⟨gb101, 0, none⟩ = some (.int .i64 a0_0) := (zi BK101.out 0).trans rfl; have hcz4_1 : w3.cell? ⟨gb101, 1, none⟩ = some (.int .i64 a0_1) := (zi BK101.out 1).trans rfl; have hcz4_2 : w3.cell? ⟨gb101, 2, none⟩ = some (.int .i64 a0_2) := (zi BK101.out 2).trans rfl; have hcz4_3 : w3.cell? ⟨gb101, 3, none⟩ = some (.int .i64 a0_3) := (zi BK101.out 3).trans rfl; have hcz4_4 : w3.cell? ⟨gb101, 4, none⟩ = some (.int .i64 a0_4) := (zi BK101.out 4).trans rfl; have hfz4_0 := ze BK101.out 0; have hfz4_1 := ze BK101.out 1; have hfz4_2 := ze BK101.out 2; have hfz4_3 := ze BK101.out 3; have hfz4_4 := ze BK101.out 4))
  go_ret
  exact ⟨by first | rfl | (simp [errW_none, errW_some] <;> rfl) | (simp [*, errW_none, errW_some] <;> rfl), by repeat (first | (with_reducible first | exact HB.out | apply zc | apply zb | apply zg | refine zn ?_ GE101.out) | exact HB.out)⟩
 rw [if_neg c2] at H
 have c2b0 : decide (a0_1 < 1) = false := decide_eq_false c2
 clear c2
 by_cases c5 : a0_2 < 1
 ·rw [if_pos c5] at H
  have c5b0 : decide (a0_2 < 1) = true := decide_eq_true c5
  clear c5
  obtain rfl := Option.some.inj H
  go_enter Try.func43, Try.ntmps43
  go_wp2_with (first | ((with_reducible refine zT (N := 1) rfl ?_); refine zP ?hg (N := 1) ?hd (cs := #[.int .i64 a0_0, .int .i64 a0_1, .int .i64 a0_2, .int .i64 a0_3, .int .i64 a0_4]) (t := 48) ?hr ?_; (case hd => rfl); (case hg => rfl); (case hr => first | (go_simp; done) | (go_simp; rfl)); intro gb101 hg w6 hbox hb; have n0_ := za.mk (zu (by repeat (first | (with_reducible first | exact HB.out | apply zc | apply zb | apply zg) | exact HB.out)) hb); have n1_ := za.mk (hbox); have n2_ := za.mk ((by rw [hg]; exact (zr (by repeat (first | (with_reducible first | exact HB.out | apply zc | apply zb | apply zg) | exact HB.out))) : w.heap.size ≤ gb101)); have n3_ := za.mk ((by rw [hg]; exact (zr (by repeat (first | (with_reducible first | exact HB.out | apply zc | apply zb | apply zg) | exact HB.out))) : w.heap.size ≤ gb101)); clear HB; have HB := n0_; have BK101 := n1_; have GW101 := n2_; have GE101 := n3_; clear n0_ n1_ n2_ n3_; clear hb hbox hg; have hcz7_0 : w6.cell? ⟨gb101, 0, none⟩ = some (.int .i64 a0_0) := (zi BK101.out 0).trans rfl; have hcz7_1 : w6.cell? ⟨gb101, 1, none⟩ = some (.int .i64 a0_1) := (zi BK101.out 1).trans rfl; have hcz7_2 : w6.cell? ⟨gb101, 2, none⟩ = some (.int .i64 a0_2) := (zi BK101.out 2).trans rfl; have hcz7_3 : w6.cell? ⟨gb101, 3, none⟩ = some (.int .i64 a0_3) := (zi BK101.out 3).trans rfl; have hcz7_4 : w6.cell? ⟨gb101, 4, none⟩ = some (.int .i64 a0_4) := (zi BK101.out 4).trans rfl; have hfz7_0 := ze BK101.out 0; have hfz7_1 := ze BK101.out 1; have hfz7_2 := ze BK101.out 2; have hfz7_3 := ze BK101.out 3; have hfz7_4 := ze BK101.out 4))
  go_ret
  exact ⟨by first | rfl | (simp [errW_none, errW_some] <;> rfl) | (simp [*, errW_none, errW_some] <;> rfl), by repeat (first | (with_reducible first | exact HB.out | apply zc | apply zb | apply zg | refine zn ?_ GE101.out) | exact HB.out)⟩
 rw [if_neg c5] at H
 have c5b0 : decide (a0_2 < 1) = false := decide_eq_false c5
 clear c5
 by_cases c8 : a0_3 < 0
 ·rw [if_pos c8] at H
  have c8b0 : decide (a0_3 < 0) = true := decide_eq_true c8
  clear c8
  obtain rfl := Option.some.inj H
  go_enter Try.func43, Try.ntmps43
  go_wp2_with (first | ((with_reducible refine zT (N := 1) rfl ?_); refine zP ?hg (N := 1) ?hd (cs := #[.int .i64 a0_0, .int .i64 a0_1, .int .i64 a0_2, .int .i64 a0_3, .int .i64 a0_4]) (t := 48) ?hr ?_; (case hd => rfl); (case hg => rfl); (case hr => first | (go_simp; done) | (go_simp; rfl)); intro gb101 hg w9 hbox hb; have n0_ := za.mk (zu (by repeat (first | (with_reducible first | exact HB.out | apply zc | apply zb | apply zg) | exact HB.out)) hb); have n1_ := za.mk (hbox); have n2_ := za.mk ((by rw [hg]; exact (zr (by repeat (first | (with_reducible first | exact HB.out | apply zc | apply zb | apply zg) | exact HB.out))) : w.heap.size ≤ gb101)); have n3_ := za.mk ((by rw [hg]; exact (zr (by repeat (first | (with_reducible first | exact HB.out | apply zc | apply zb | apply zg) | exact HB.out))) : w.heap.size ≤ gb101)); clear HB; have HB := n0_; have BK101 := n1_; have GW101 := n2_; have GE101 := n3_; clear n0_ n1_ n2_ n3_; clear hb hbox hg; have hcz10_0 : w9.cell? ⟨gb101, 0, none⟩ = some (.int .i64 a0_0) := (zi BK101.out 0).trans rfl; have hcz10_1 : w9.cell? ⟨gb101, 1, none⟩ = some (.int .i64 a0_1) := (zi BK101.out 1).trans rfl; have hcz10_2 : w9.cell? ⟨gb101, 2, none⟩ = some (.int .i64 a0_2) := (zi BK101.out 2).trans rfl; have hcz10_3 : w9.cell? ⟨gb101, 3, none⟩ = some (.int .i64 a0_3) := (zi BK101.out 3).trans rfl; have hcz10_4 : w9.cell? ⟨gb101, 4, none⟩ = some (.int .i64 a0_4) := (zi BK101.out 4).trans rfl; have hfz10_0 := ze BK101.out 0; have hfz10_1 := ze BK101.out 1; have hfz10_2 := ze BK101.out 2; have hfz10_3 := ze BK101.out 3; have hfz10_4 := ze BK101.out 4))
  go_ret
  exact ⟨by first | rfl | (simp [errW_none, errW_some] <;> rfl) | (simp [*, errW_none, errW_some] <;> rfl), by repeat (first | (with_reducible first | exact HB.out | apply zc | apply zb | apply zg | refine zn ?_ GE101.out) | exact HB.out)⟩
 rw [if_neg c8] at H
 have c8b0 : decide (a0_3 < 0) = false := decide_eq_false c8
 clear c8
 by_cases c11 : a0_4 < 1
 ·rw [if_pos c11] at H
  have c11b0 : decide (a0_4 < 1) = true := decide_eq_true c11
  clear c11
  obtain rfl := Option.some.inj H
  go_enter Try.func43, Try.ntmps43
  go_wp2_with (first | ((with_reducible refine zT (N := 1) rfl ?_); refine zP ?hg (N := 1) ?hd (cs := #[.int .i64 a0_0, .int .i64 a0_1, .int .i64 a0_2, .int .i64 a0_3, .int .i64 a0_4]) (t := 48) ?hr ?_; (case hd => rfl); (case hg => rfl); (case hr => first | (go_simp; done) | (go_simp; rfl)); intro gb101 hg w12 hbox hb; have n0_ := za.mk (zu (by repeat (first | (with_reducible first | exact HB.out | apply zc | apply zb | apply zg) | exact HB.out)) hb); have n1_ := za.mk (hbox); have n2_ := za.mk ((by rw [hg]; exact (zr (by repeat (first | (with_reducible first | exact HB.out | apply zc | apply zb | apply zg) | exact HB.out))) : w.heap.size ≤ gb101)); have n3_ := za.mk ((by rw [hg]; exact (zr (by repeat (first | (with_reducible first | exact HB.out | apply zc | apply zb | apply zg) | exact HB.out))) : w.heap.size ≤ gb101)); clear HB; have HB := n0_; have BK101 := n1_; have GW101 := n2_; have GE101 := n3_; clear n0_ n1_ n2_ n3_; clear hb hbox hg; have hcz13_0 : w12.cell? ⟨gb101, 0, none⟩ = some (.int .i64 a0_0) := (zi BK101.out 0).trans rfl; have hcz13_1 : w12.cell? ⟨gb101, 1, none⟩ = some (.int .i64 a0_1) := (zi BK101.out 1).trans rfl; have hcz13_2 : w12.cell? ⟨gb101, 2, none⟩ = some (.int .i64 a0_2) := (zi BK101.out 2).trans rfl; have hcz13_3 : w12.cell? ⟨gb101, 3, none⟩ = some (.int .i64 a0_3) := (zi BK101.out 3).trans rfl; have hcz13_4 : w12.cell? ⟨gb101, 4, none⟩ = some (.int .i64 a0_4) := (zi BK101.out 4).trans rfl; have hfz13_0 := ze BK101.out 0; have hfz13_1 := ze BK101.out 1; have hfz13_2 := ze BK101.out 2; have hfz13_3 := ze BK101.out 3; have hfz13_4 := ze BK101.out 4))
  go_ret
  exact ⟨by first | rfl | (simp [errW_none, errW_some] <;> rfl) | (simp [*, errW_none, errW_some] <;> rfl), by repeat (first | (with_reducible first | exact HB.out | apply zc | apply zb | apply zg | refine zn ?_ GE101.out) | exact HB.out)⟩
 rw [if_neg c11] at H
 have c11b0 : decide (a0_4 < 1) = false := decide_eq_false c11
 clear c11
 by_cases c14 : a0_4 > 512
 ·rw [if_pos c14] at H
  have c14b0 : decide (512 < a0_4) = true := decide_eq_true c14
  clear c14
  obtain rfl := Option.some.inj H
  go_enter Try.func43, Try.ntmps43
  go_wp2_with (first | ((with_reducible refine zT (N := 1) rfl ?_); refine zP ?hg (N := 1) ?hd (cs := #[.int .i64 a0_0, .int .i64 a0_1, .int .i64 a0_2, .int .i64 a0_3, .int .i64 a0_4]) (t := 48) ?hr ?_; (case hd => rfl); (case hg => rfl); (case hr => first | (go_simp; done) | (go_simp; rfl)); intro gb101 hg w15 hbox hb; have n0_ := za.mk (zu (by repeat (first | (with_reducible first | exact HB.out | apply zc | apply zb | apply zg) | exact HB.out)) hb); have n1_ := za.mk (hbox); have n2_ := za.mk ((by rw [hg]; exact (zr (by repeat (first | (with_reducible first | exact HB.out | apply zc | apply zb | apply zg) | exact HB.out))) : w.heap.size ≤ gb101)); have n3_ := za.mk ((by rw [hg]; exact (zr (by repeat (first | (with_reducible first | exact HB.out | apply zc | apply zb | apply zg) | exact HB.out))) : w.heap.size ≤ gb101)); clear HB; have HB := n0_; have BK101 := n1_; have GW101 := n2_; have GE101 := n3_; clear n0_ n1_ n2_ n3_; clear hb hbox hg; have hcz16_0 : w15.cell? ⟨gb101, 0, none⟩ = some (.int .i64 a0_0) := (zi BK101.out 0).trans rfl; have hcz16_1 : w15.cell? ⟨gb101, 1, none⟩ = some (.int .i64 a0_1) := (zi BK101.out 1).trans rfl; have hcz16_2 : w15.cell? ⟨gb101, 2, none⟩ = some (.int .i64 a0_2) := (zi BK101.out 2).trans rfl; have hcz16_3 : w15.cell? ⟨gb101, 3, none⟩ = some (.int .i64 a0_3) := (zi BK101.out 3).trans rfl; have hcz16_4 : w15.cell? ⟨gb101, 4, none⟩ = some (.int .i64 a0_4) := (zi BK101.out 4).trans rfl; have hfz16_0 := ze BK101.out 0; have hfz16_1 := ze BK101.out 1; have hfz16_2 := ze BK101.out 2; have hfz16_3 := ze BK101.out 3; have hfz16_4 := ze BK101.out 4))
  go_ret
  exact ⟨by first | rfl | (simp [errW_none, errW_some] <;> rfl) | (simp [*, errW_none, errW_some] <;> rfl), by repeat (first | (with_reducible first | exact HB.out | apply zc | apply zb | apply zg | refine zn ?_ GE101.out) | exact HB.out)⟩
 rw [if_neg c14] at H
 have c14b0 : decide (512 < a0_4) = false := decide_eq_false c14
 clear c14
 by_cases c17 : a0_0 > 255
 ·rw [if_pos c17] at H
  have c17b0 : decide (255 < a0_0) = true := decide_eq_true c17
  clear c17
  obtain rfl := Option.some.inj H
  go_enter Try.func43, Try.ntmps43
  go_wp2_with (first | ((with_reducible refine zT (N := 1) rfl ?_); refine zP ?hg (N := 1) ?hd (cs := #[.int .i64 a0_0, .int .i64 a0_1, .int .i64 a0_2, .int .i64 a0_3, .int .i64 a0_4]) (t := 48) ?hr ?_; (case hd => rfl); (case hg => rfl); (case hr => first | (go_simp; done) | (go_simp; rfl)); intro gb101 hg w18 hbox hb; have n0_ := za.mk (zu (by repeat (first | (with_reducible first | exact HB.out | apply zc | apply zb | apply zg) | exact HB.out)) hb); have n1_ := za.mk (hbox); have n2_ := za.mk ((by rw [hg]; exact (zr (by repeat (first | (with_reducible first | exact HB.out | apply zc | apply zb | apply zg) | exact HB.out))) : w.heap.size ≤ gb101)); have n3_ := za.mk ((by rw [hg]; exact (zr (by repeat (first | (with_reducible first | exact HB.out | apply zc | apply zb | apply zg) | exact HB.out))) : w.heap.size ≤ gb101)); clear HB; have HB := n0_; have BK101 := n1_; have GW101 := n2_; have GE101 := n3_; clear n0_ n1_ n2_ n3_; clear hb hbox hg; have hcz19_0 : w18.cell? ⟨gb101, 0, none⟩ = some (.int .i64 a0_0) := (zi BK101.out 0).trans rfl; have hcz19_1 : w18.cell? ⟨gb101, 1, none⟩ = some (.int .i64 a0_1) := (zi BK101.out 1).trans rfl; have hcz19_2 : w18.cell? ⟨gb101, 2, none⟩ = some (.int .i64 a0_2) := (zi BK101.out 2).trans rfl; have hcz19_3 : w18.cell? ⟨gb101, 3, none⟩ = some (.int .i64 a0_3) := (zi BK101.out 3).trans rfl; have hcz19_4 : w18.cell? ⟨gb101, 4, none⟩ = some (.int .i64 a0_4) := (zi BK101.out 4).trans rfl; have hfz19_0 := ze BK101.out 0; have hfz19_1 := ze BK101.out 1; have hfz19_2 := ze BK101.out 2; have hfz19_3 := ze BK101.out 3; have hfz19_4 := ze BK101.out 4))
  go_ret
  exact ⟨by first | rfl | (simp [errW_none, errW_some] <;> rfl) | (simp [*, errW_none, errW_some] <;> rfl), by repeat (first | (with_reducible first | exact HB.out | apply zc | apply zb | apply zg | refine zn ?_ GE101.out) | exact HB.out)⟩
 rw [if_neg c17] at H
 have c17b0 : decide (255 < a0_0) = false := decide_eq_false c17
 clear c17
 by_cases c20 : a0_1 > 255
 ·rw [if_pos c20] at H
  have c20b0 : decide (255 < a0_1) = true := decide_eq_true c20
  clear c20
  obtain rfl := Option.some.inj H
  go_enter Try.func43, Try.ntmps43
  go_wp2_with (first | ((with_reducible refine zT (N := 1) rfl ?_); refine zP ?hg (N := 1) ?hd (cs := #[.int .i64 a0_0, .int .i64 a0_1, .int .i64 a0_2, .int .i64 a0_3, .int .i64 a0_4]) (t := 48) ?hr ?_; (case hd => rfl); (case hg => rfl); (case hr => first | (go_simp; done) | (go_simp; rfl)); intro gb101 hg w21 hbox hb; have n0_ := za.mk (zu (by repeat (first | (with_reducible first | exact HB.out | apply zc | apply zb | apply zg) | exact HB.out)) hb); have n1_ := za.mk (hbox); have n2_ := za.mk ((by rw [hg]; exact (zr (by repeat (first | (with_reducible first | exact HB.out | apply zc | apply zb | apply zg) | exact HB.out))) : w.heap.size ≤ gb101)); have n3_ := za.mk ((by rw [hg]; exact (zr (by repeat (first | (with_reducible first | exact HB.out | apply zc | apply zb | apply zg) | exact HB.out))) : w.heap.size ≤ gb101)); clear HB; have HB := n0_; have BK101 := n1_; have GW101 := n2_; have GE101 := n3_; clear n0_ n1_ n2_ n3_; clear hb hbox hg; have hcz22_0 : w21.cell? ⟨gb101, 0, none⟩ = some (.int .i64 a0_0) := (zi BK101.out 0).trans rfl; have hcz22_1 : w21.cell? ⟨gb101, 1, none⟩ = some (.int .i64 a0_1) := (zi BK101.out 1).trans rfl; have hcz22_2 : w21.cell? ⟨gb101, 2, none⟩ = some (.int .i64 a0_2) := (zi BK101.out 2).trans rfl; have hcz22_3 : w21.cell? ⟨gb101, 3, none⟩ = some (.int .i64 a0_3) := (zi BK101.out 3).trans rfl; have hcz22_4 : w21.cell? ⟨gb101, 4, none⟩ = some (.int .i64 a0_4) := (zi BK101.out 4).trans rfl; have hfz22_0 := ze BK101.out 0; have hfz22_1 := ze BK101.out 1; have hfz22_2 := ze BK101.out 2; have hfz22_3 := ze BK101.out 3; have hfz22_4 := ze BK101.out 4))
  go_ret
  exact ⟨by first | rfl | (simp [errW_none, errW_some] <;> rfl) | (simp [*, errW_none, errW_some] <;> rfl), by repeat (first | (with_reducible first | exact HB.out | apply zc | apply zb | apply zg | refine zn ?_ GE101.out) | exact HB.out)⟩
 rw [if_neg c20] at H
 have c20b0 : decide (255 < a0_1) = false := decide_eq_false c20
 clear c20
 by_cases c23 : a0_2 > 255
 ·rw [if_pos c23] at H
  have c23b0 : decide (255 < a0_2) = true := decide_eq_true c23
  clear c23
  obtain rfl := Option.some.inj H
  go_enter Try.func43, Try.ntmps43
  go_wp2_with (first | ((with_reducible refine zT (N := 1) rfl ?_); refine zP ?hg (N := 1) ?hd (cs := #[.int .i64 a0_0, .int .i64 a0_1, .int .i64 a0_2, .int .i64 a0_3, .int .i64 a0_4]) (t := 48) ?hr ?_; (case hd => rfl); (case hg => rfl); (case hr => first | (go_simp; done) | (go_simp; rfl)); intro gb101 hg w24 hbox hb; have n0_ := za.mk (zu (by repeat (first | (with_reducible first | exact HB.out | apply zc | apply zb | apply zg) | exact HB.out)) hb); have n1_ := za.mk (hbox); have n2_ := za.mk ((by rw [hg]; exact (zr (by repeat (first | (with_reducible first | exact HB.out | apply zc | apply zb | apply zg) | exact HB.out))) : w.heap.size ≤ gb101)); have n3_ := za.mk ((by rw [hg]; exact (zr (by repeat (first | (with_reducible first | exact HB.out | apply zc | apply zb | apply zg) | exact HB.out))) : w.heap.size ≤ gb101)); clear HB; have HB := n0_; have BK101 := n1_; have GW101 := n2_; have GE101 := n3_; clear n0_ n1_ n2_ n3_; clear hb hbox hg; have hcz25_0 : w24.cell? ⟨gb101, 0, none⟩ = some (.int .i64 a0_0) := (zi BK101.out 0).trans rfl; have hcz25_1 : w24.cell? ⟨gb101, 1, none⟩ = some (.int .i64 a0_1) := (zi BK101.out 1).trans rfl; have hcz25_2 : w24.cell? ⟨gb101, 2, none⟩ = some (.int .i64 a0_2) := (zi BK101.out 2).trans rfl; have hcz25_3 : w24.cell? ⟨gb101, 3, none⟩ = some (.int .i64 a0_3) := (zi BK101.out 3).trans rfl; have hcz25_4 : w24.cell? ⟨gb101, 4, none⟩ = some (.int .i64 a0_4) := (zi BK101.out 4).trans rfl; have hfz25_0 := ze BK101.out 0; have hfz25_1 := ze BK101.out 1; have hfz25_2 := ze BK101.out 2; have hfz25_3 := ze BK101.out 3; have hfz25_4 := ze BK101.out 4))
  go_ret
  exact ⟨by first | rfl | (simp [errW_none, errW_some] <;> rfl) | (simp [*, errW_none, errW_some] <;> rfl), by repeat (first | (with_reducible first | exact HB.out | apply zc | apply zb | apply zg | refine zn ?_ GE101.out) | exact HB.out)⟩
 rw [if_neg c23] at H
 have c23b0 : decide (255 < a0_2) = false := decide_eq_false c23
 clear c23
 by_cases c26 : a0_3 > 255
 ·rw [if_pos c26] at H
  have c26b0 : decide (255 < a0_3) = true := decide_eq_true c26
  clear c26
  obtain rfl := Option.some.inj H
  go_enter Try.func43, Try.ntmps43
  go_wp2_with (first | ((with_reducible refine zT (N := 1) rfl ?_); refine zP ?hg (N := 1) ?hd (cs := #[.int .i64 a0_0, .int .i64 a0_1, .int .i64 a0_2, .int .i64 a0_3, .int .i64 a0_4]) (t := 48) ?hr ?_; (case hd => rfl); (case hg => rfl); (case hr => first | (go_simp; done) | (go_simp; rfl)); intro gb101 hg w27 hbox hb; have n0_ := za.mk (zu (by repeat (first | (with_reducible first | exact HB.out | apply zc | apply zb | apply zg) | exact HB.out)) hb); have n1_ := za.mk (hbox); have n2_ := za.mk ((by rw [hg]; exact (zr (by repeat (first | (with_reducible first | exact HB.out | apply zc | apply zb | apply zg) | exact HB.out))) : w.heap.size ≤ gb101)); have n3_ := za.mk ((by rw [hg]; exact (zr (by repeat (first | (with_reducible first | exact HB.out | apply zc | apply zb | apply zg) | exact HB.out))) : w.heap.size ≤ gb101)); clear HB; have HB := n0_; have BK101 := n1_; have GW101 := n2_; have GE101 := n3_; clear n0_ n1_ n2_ n3_; clear hb hbox hg; have hcz28_0 : w27.cell? ⟨gb101, 0, none⟩ = some (.int .i64 a0_0) := (zi BK101.out 0).trans rfl; have hcz28_1 : w27.cell? ⟨gb101, 1, none⟩ = some (.int .i64 a0_1) := (zi BK101.out 1).trans rfl; have hcz28_2 : w27.cell? ⟨gb101, 2, none⟩ = some (.int .i64 a0_2) := (zi BK101.out 2).trans rfl; have hcz28_3 : w27.cell? ⟨gb101, 3, none⟩ = some (.int .i64 a0_3) := (zi BK101.out 3).trans rfl; have hcz28_4 : w27.cell? ⟨gb101, 4, none⟩ = some (.int .i64 a0_4) := (zi BK101.out 4).trans rfl; have hfz28_0 := ze BK101.out 0; have hfz28_1 := ze BK101.out 1; have hfz28_2 := ze BK101.out 2; have hfz28_3 := ze BK101.out 3; have hfz28_4 := ze BK101.out 4))
  go_ret
  exact ⟨by first | rfl | (simp [errW_none, errW_some] <;> rfl) | (simp [*, errW_none, errW_some] <;> rfl), by repeat (first | (with_reducible first | exact HB.out | apply zc | apply zb | apply zg | refine zn ?_ GE101.out) | exact HB.out)⟩
 rw [if_neg c26] at H
 have c26b0 : decide (255 < a0_3) = false := decide_eq_false c26
 clear c26
 by_cases c29 : a0_0 ≥ (wrap64 ((wrap64 (a0_1 + a0_2)) + (wrap64 (2 * a0_3))))
 ·rw [if_pos c29] at H
  have c29b0 : decide ((wrap64 ((wrap64 (a0_1 + a0_2)) + (wrap64 (2 * a0_3)))) ≤ a0_0) = true := decide_eq_true c29
  clear c29
  obtain rfl := Option.some.inj H
  go_enter Try.func43, Try.ntmps43
  go_wp2_with (first | ((with_reducible refine zT (N := 1) rfl ?_); refine zP ?hg (N := 1) ?hd (cs := #[.int .i64 a0_0, .int .i64 a0_1, .int .i64 a0_2, .int .i64 a0_3, .int .i64 a0_4]) (t := 48) ?hr ?_; (case hd => rfl); (case hg => rfl); (case hr => first | (go_simp; done) | (go_simp; rfl)); intro gb101 hg w30 hbox hb; have n0_ := za.mk (zu (by repeat (first | (with_reducible first | exact HB.out | apply zc | apply zb | apply zg) | exact HB.out)) hb); have n1_ := za.mk (hbox); have n2_ := za.mk ((by rw [hg]; exact (zr (by repeat (first | (with_reducible first | exact HB.out | apply zc | apply zb | apply zg) | exact HB.out))) : w.heap.size ≤ gb101)); have n3_ := za.mk ((by rw [hg]; exact (zr (by repeat (first | (with_reducible first | exact HB.out | apply zc | apply zb | apply zg) | exact HB.out))) : w.heap.size ≤ gb101)); clear HB; have HB := n0_; have BK101 := n1_; have GW101 := n2_; have GE101 := n3_; clear n0_ n1_ n2_ n3_; clear hb hbox hg; have hcz31_0 : w30.cell? ⟨gb101, 0, none⟩ = some (.int .i64 a0_0) := (zi BK101.out 0).trans rfl; have hcz31_1 : w30.cell? ⟨gb101, 1, none⟩ = some (.int .i64 a0_1) := (zi BK101.out 1).trans rfl; have hcz31_2 : w30.cell? ⟨gb101, 2, none⟩ = some (.int .i64 a0_2) := (zi BK101.out 2).trans rfl; have hcz31_3 : w30.cell? ⟨gb101, 3, none⟩ = some (.int .i64 a0_3) := (zi BK101.out 3).trans rfl; have hcz31_4 : w30.cell? ⟨gb101, 4, none⟩ = some (.int .i64 a0_4) := (zi BK101.out 4).trans rfl; have hfz31_0 := ze BK101.out 0; have hfz31_1 := ze BK101.out 1; have hfz31_2 := ze BK101.out 2; have hfz31_3 := ze BK101.out 3; have hfz31_4 := ze BK101.out 4))
  go_ret
  exact ⟨by first | rfl | (simp [errW_none, errW_some] <;> rfl) | (simp [*, errW_none, errW_some] <;> rfl), by repeat (first | (with_reducible first | exact HB.out | apply zc | apply zb | apply zg | refine zn ?_ GE101.out) | exact HB.out)⟩
 rw [if_neg c29] at H
 have c29b0 : decide ((wrap64 ((wrap64 (a0_1 + a0_2)) + (wrap64 (2 * a0_3)))) ≤ a0_0) = false := decide_eq_false c29
 clear c29
 obtain rfl := Option.some.inj H
 go_enter Try.func43, Try.ntmps43
 go_wp2_with (first | ((with_reducible refine zT (N := 1) rfl ?_); refine zP ?hg (N := 1) ?hd (cs := #[.int .i64 a0_0, .int .i64 a0_1, .int .i64 a0_2, .int .i64 a0_3, .int .i64 a0_4]) (t := 48) ?hr ?_; (case hd => rfl); (case hg => rfl); (case hr => first | (go_simp; done) | (go_simp; rfl)); intro gb101 hg w32 hbox hb; have n0_ := za.mk (zu (by repeat (first | (with_reducible first | exact HB.out | apply zc | apply zb | apply zg) | exact HB.out)) hb); have n1_ := za.mk (hbox); have n2_ := za.mk ((by rw [hg]; exact (zr (by repeat (first | (with_reducible first | exact HB.out | apply zc | apply zb | apply zg) | exact HB.out))) : w.heap.size ≤ gb101)); have n3_ := za.mk ((by rw [hg]; exact (zr (by repeat (first | (with_reducible first | exact HB.out | apply zc | apply zb | apply zg) | exact HB.out))) : w.heap.size ≤ gb101)); clear HB; have HB := n0_; have BK101 := n1_; have GW101 := n2_; have GE101 := n3_; clear n0_ n1_ n2_ n3_; clear hb hbox hg; have hcz33_0 : w32.cell? ⟨gb101, 0, none⟩ = some (.int .i64 a0_0) := (zi BK101.out 0).trans rfl; have hcz33_1 : w32.cell? ⟨gb101, 1, none⟩ = some (.int .i64 a0_1) := (zi BK101.out 1).trans rfl; have hcz33_2 : w32.cell? ⟨gb101, 2, none⟩ = some (.int .i64 a0_2) := (zi BK101.out 2).trans rfl; have hcz33_3 : w32.cell? ⟨gb101, 3, none⟩ = some (.int .i64 a0_3) := (zi BK101.out 3).trans rfl; have hcz33_4 : w32.cell? ⟨gb101, 4, none⟩ = some (.int .i64 a0_4) := (zi BK101.out 4).trans rfl; have hfz33_0 := ze BK101.out 0; have hfz33_1 := ze BK101.out 1; have hfz33_2 := ze BK101.out 2; have hfz33_3 := ze BK101.out 3; have hfz33_4 := ze BK101.out 4))
 go_ret
 exact ⟨by first | rfl | (simp [errW_none, errW_some] <;> rfl) | (simp [*, errW_none, errW_some] <;> rfl), by repeat (first | (with_reducible first | exact HB.out | apply zc | apply zb | apply zg | refine zn ?_ GE101.out) | exact HB.out)⟩
def deal_Point.f (a0 : Int) : Option (Int) := some ((((a0) % 256) + 1) % 256)
set_option maxHeartbeats 8000000 in
set_option maxRecDepth 100000 in
theorem deal_Point.calls (a0 : Int) (r : Int) (w : World) (h : deal_Point.f a0 = some r) :
 Calls Try.prog 81 #[.int .i64 a0] w fun e w' => e = .returned (.int .u8 r) ∧ zq w w' := by
 have H : (some ((((a0) % 256) + 1) % 256)) = some r := h
 clear h
 obtain rfl := Option.some.inj H
 go_enter Try.func81, Try.ntmps81
 go_wp2
 go_ret
 exact ⟨by first | rfl | (simp; done) | (simp [*]; done), by repeat (first | exact zq.refl _ | apply zq.step)⟩
def deal_each.j0 : Nat → Int → Bool → Int → Int → Int → Int → Int → Option (Int)
 | 0, _, _, _, _, _, _, _ => none
 | k + 1, x5, x6, x104000, x104001, x104002, x104003, x104004 => if x6 = true then (some x104001) else (if x5 = 3 then (some (wrap64 ((wrap64 (x104001 + x104002)) - 1))) else (if x5 = 4 then (some (wrap64 (x104001 + x104002))) else (some 0)))
def deal_each.f (k : Nat) (a0_0 : Int) (a0_1 : Int) (a0_2 : Int) (a0_3 : Int) (a0_4 : Int) (a1 : Int) : Option (Int) := if a1 = 1 then (deal_each.j0 k a1 (a1 == 1) a0_0 a0_1 a0_2 a0_3 a0_4) else (deal_each.j0 k a1 (a1 == 2) a0_0 a0_1 a0_2 a0_3 a0_4)
set_option maxHeartbeats 8000000 in
set_option maxRecDepth 100000 in
theorem deal_each.calls (k : Nat) (a0_0 : Int) (a0_1 : Int) (a0_2 : Int) (a0_3 : Int) (a0_4 : Int) (a1 : Int) (r : Int) (w : World) (h : deal_each.f k a0_0 a0_1 a0_2 a0_3 a0_4 a1 = some r) :
 Calls Try.prog 82 #[.agg #[.int .i64 a0_0, .int .i64 a0_1, .int .i64 a0_2, .int .i64 a0_3, .int .i64 a0_4], .int .i64 a1] w fun e w' => e = .returned (.int .i64 r) ∧ Below w.heap.size w w' := by
 have hu48 := Try.underlying48
 have HB := za.mk (Below.refl w.heap.size w)
 have H : (if a1 = 1 then (deal_each.j0 k a1 (a1 == 1) a0_0 a0_1 a0_2 a0_3 a0_4) else (deal_each.j0 k a1 (a1 == 2) a0_0 a0_1 a0_2 a0_3 a0_4)) = some r := h
 clear h
 have HC3 := za.mk H
 clear H
 go_enter Try.func82, Try.ntmps82
 go_upto_if 6 with (first | ((with_reducible refine zT (N := 2) rfl ?_); refine zP ?hg (N := 2) ?hd (cs := #[.int .i64 a0_0, .int .i64 a0_1, .int .i64 a0_2, .int .i64 a0_3, .int .i64 a0_4]) (t := 48) ?hr ?_; (case hd => rfl); (case hg => rfl); (case hr => first | (go_simp; done) | (go_simp; rfl)); intro gb103 hg w4 hbox hb; have n0_ := za.mk (zu (by repeat (first | (with_reducible first | exact HB.out | apply zc | apply zb | apply zg) | exact HB.out)) hb); have n1_ := za.mk (hbox); have n2_ := za.mk ((by rw [hg]; exact (zr (by repeat (first | (with_reducible first | exact HB.out | apply zc | apply zb | apply zg) | exact HB.out))) : w.heap.size ≤ gb103)); have n3_ := za.mk ((by rw [hg]; exact (zr (by repeat (first | (with_reducible first | exact HB.out | apply zc | apply zb | apply zg) | exact HB.out))) : w.heap.size ≤ gb103)); clear HB; have HB := n0_; have BK103 := n1_; have GW103 := n2_; have GE103 := n3_; clear n0_ n1_ n2_ n3_; clear hb hbox hg))
 (try simp only [Act.put, List.setIfInBounds_toArray, List.set_cons_zero, List.set_cons_succ])
 go_cut [6] (fun v6 wc => ∃ (kq : Nat) (x6_2 : Bool), v6 = .bool x6_2 ∧ za (deal_each.j0 kq a1 x6_2 a0_0 a0_1 a0_2 a0_3 a0_4 = some r) ∧ za (kq ≤ k) ∧ za (wc.heap[gb103]? = some (.cells #[.int .i64 a0_0, .int .i64 a0_1, .int .i64 a0_2, .int .i64 a0_3, .int .i64 a0_4] 48 (0, 0))) ∧ za (Below w.heap.size w wc))
 case first =>
  have H := HC3.out
  clear HC3
  by_cases c5 : a1 = 1
  ·rw [if_pos c5] at H
   have c5b0 : (a1 == 1) = true := beq_iff_eq.mpr c5
   have c5b1 : (a1 != 1) = false := bne_eq_false_iff_eq.mpr c5
   clear c5
   (first | rw [c5b0] | (simp only [yY, jG]; rw [c5b0]) | skip)
   have H' := za.mk H
   clear H
   go_wp2
   go_meet
   case rel => exact ⟨_, ((a1 == 1)), (by first | rfl | (simp; done) | (simp [*]; done)), H', ⟨by first | omega | exact Nat.le_refl _⟩, ⟨by (with_reducible repeat (first | refine zC ?_ _ | refine zL ?_ | refine zt ?_ _)); exact BK103.out⟩, ⟨by repeat (first | (with_reducible first | exact HB.out | apply zc | apply zb | apply zg | refine zn ?_ GE103.out) | exact HB.out)⟩⟩
  rw [if_neg c5] at H
  have c5b0 : (a1 == 1) = false := beq_eq_false_iff_ne.mpr c5
  have c5b1 : (a1 != 1) = true := bne_iff_ne.mpr c5
  (first | rw [c5b0] | (simp only [yY, jG]; rw [c5b0]) | skip)
  have H' := za.mk H
  clear H
  go_wp2
  go_meet
  case rel => exact ⟨_, ((a1 == 2)), (by first | rfl | (simp; done) | (simp [*]; done)), H', ⟨by first | omega | exact Nat.le_refl _⟩, ⟨by (with_reducible repeat (first | refine zC ?_ _ | refine zL ?_ | refine zt ?_ _)); exact BK103.out⟩, ⟨by repeat (first | (with_reducible first | exact HB.out | apply zc | apply zb | apply zg | refine zn ?_ GE103.out) | exact HB.out)⟩⟩
 clear HC3
 try clear p2
 try clear c5
 try clear c5b0
 try clear c5b1
 obtain ⟨kq, x6_2, rfl, HA, HJ2, BK103, HB⟩ := hcut
 cases kq with
 | zero => exact absurd HA.out (by simp [deal_each.j0])
 | succ kj2 =>
   have H := HA.out
   clear HA
   simp only [deal_each.j0] at H
   by_cases c6 : x6_2 = true
   ·subst c6
    have H1 : (some a0_1) = some r := by rw [if_pos rfl] at H; exact H
    clear H
    have H := H1
    clear H1
    obtain rfl := Option.some.inj H
    have hcz7_0 : wc.cell? ⟨gb103, 0, none⟩ = some (.int .i64 a0_0) := (zi BK103.out 0).trans rfl
    have hcz7_1 : wc.cell? ⟨gb103, 1, none⟩ = some (.int .i64 a0_1) := (zi BK103.out 1).trans rfl
    have hcz7_2 : wc.cell? ⟨gb103, 2, none⟩ = some (.int .i64 a0_2) := (zi BK103.out 2).trans rfl
    have hcz7_3 : wc.cell? ⟨gb103, 3, none⟩ = some (.int .i64 a0_3) := (zi BK103.out 3).trans rfl
    have hcz7_4 : wc.cell? ⟨gb103, 4, none⟩ = some (.int .i64 a0_4) := (zi BK103.out 4).trans rfl
    have hfz7_0 := ze BK103.out 0
    have hfz7_1 := ze BK103.out 1
    have hfz7_2 := ze BK103.out 2
    have hfz7_3 := ze BK103.out 3
    have hfz7_4 := ze BK103.out 4
    go_wp2
    go_ret
    exact ⟨by first | rfl | (simp [errW_none, errW_some] <;> rfl) | (simp [*, errW_none, errW_some] <;> rfl), by repeat (first | (with_reducible first | exact HB.out | apply zc | apply zb | apply zg | refine zn ?_ GE103.out) | exact HB.out)⟩
   replace c6 := Bool.eq_false_iff.mpr c6
   subst c6
   have H1 : (if a1 = 3 then (some (wrap64 ((wrap64 (a0_1 + a0_2)) - 1))) else (if a1 = 4 then (some (wrap64 (a0_1 + a0_2))) else (some 0))) = some r := by rw [if_neg (show ¬ (false = true) by decide)] at H; exact H
   clear H
   have H := H1
   clear H1
   by_cases c8 : a1 = 3
   ·rw [if_pos c8] at H
    have c8b0 : (a1 == 3) = true := beq_iff_eq.mpr c8
    have c8b1 : (a1 != 3) = false := bne_eq_false_iff_eq.mpr c8
    clear c8
    obtain rfl := Option.some.inj H
    have hcz9_0 : wc.cell? ⟨gb103, 0, none⟩ = some (.int .i64 a0_0) := (zi BK103.out 0).trans rfl
    have hcz9_1 : wc.cell? ⟨gb103, 1, none⟩ = some (.int .i64 a0_1) := (zi BK103.out 1).trans rfl
    have hcz9_2 : wc.cell? ⟨gb103, 2, none⟩ = some (.int .i64 a0_2) := (zi BK103.out 2).trans rfl
    have hcz9_3 : wc.cell? ⟨gb103, 3, none⟩ = some (.int .i64 a0_3) := (zi BK103.out 3).trans rfl
    have hcz9_4 : wc.cell? ⟨gb103, 4, none⟩ = some (.int .i64 a0_4) := (zi BK103.out 4).trans rfl
    have hfz9_0 := ze BK103.out 0
    have hfz9_1 := ze BK103.out 1
    have hfz9_2 := ze BK103.out 2
    have hfz9_3 := ze BK103.out 3
    have hfz9_4 := ze BK103.out 4
    go_wp2
    go_ret
    exact ⟨by first | rfl | (simp [errW_none, errW_some] <;> rfl) | (simp [*, errW_none, errW_some] <;> rfl), by repeat (first | (with_reducible first | exact HB.out | apply zc | apply zb | apply zg | refine zn ?_ GE103.out) | exact HB.out)⟩
   rw [if_neg c8] at H
   have c8b0 : (a1 == 3) = false := beq_eq_false_iff_ne.mpr c8
   have c8b1 : (a1 != 3) = true := bne_iff_ne.mpr c8
   by_cases c10 : a1 = 4
   ·rw [if_pos c10] at H
    have c10b0 : (a1 == 4) = true := beq_iff_eq.mpr c10
    have c10b1 : (a1 != 4) = false := bne_eq_false_iff_eq.mpr c10
    clear c10
    obtain rfl := Option.some.inj H
    have hcz11_0 : wc.cell? ⟨gb103, 0, none⟩ = some (.int .i64 a0_0) := (zi BK103.out 0).trans rfl
    have hcz11_1 : wc.cell? ⟨gb103, 1, none⟩ = some (.int .i64 a0_1) := (zi BK103.out 1).trans rfl
    have hcz11_2 : wc.cell? ⟨gb103, 2, none⟩ = some (.int .i64 a0_2) := (zi BK103.out 2).trans rfl
    have hcz11_3 : wc.cell? ⟨gb103, 3, none⟩ = some (.int .i64 a0_3) := (zi BK103.out 3).trans rfl
    have hcz11_4 : wc.cell? ⟨gb103, 4, none⟩ = some (.int .i64 a0_4) := (zi BK103.out 4).trans rfl
    have hfz11_0 := ze BK103.out 0
    have hfz11_1 := ze BK103.out 1
    have hfz11_2 := ze BK103.out 2
    have hfz11_3 := ze BK103.out 3
    have hfz11_4 := ze BK103.out 4
    go_wp2
    go_ret
    exact ⟨by first | rfl | (simp [errW_none, errW_some] <;> rfl) | (simp [*, errW_none, errW_some] <;> rfl), by repeat (first | (with_reducible first | exact HB.out | apply zc | apply zb | apply zg | refine zn ?_ GE103.out) | exact HB.out)⟩
   rw [if_neg c10] at H
   have c10b0 : (a1 == 4) = false := beq_eq_false_iff_ne.mpr c10
   have c10b1 : (a1 != 4) = true := bne_iff_ne.mpr c10
   obtain rfl := Option.some.inj H
   go_wp2
   go_ret
   exact ⟨by first | rfl | (simp [errW_none, errW_some] <;> rfl) | (simp [*, errW_none, errW_some] <;> rfl), by repeat (first | (with_reducible first | exact HB.out | apply zc | apply zb | apply zg | refine zn ?_ GE103.out) | exact HB.out)⟩
def deal_Need.f (k : Nat) (a0_0 : Int) (a0_1 : Int) (a0_2 : Int) (a0_3 : Int) (a0_4 : Int) (a1 : Int) (a2 : Int) : Option (Int) := (deal_each.f k a0_0 a0_1 a0_2 a0_3 a0_4 a1).bind fun t105 => (some (wrap64 (t105 * a2)))
set_option maxHeartbeats 8000000 in
set_option maxRecDepth 100000 in
theorem deal_Need.calls (k : Nat) (a0_0 : Int) (a0_1 : Int) (a0_2 : Int) (a0_3 : Int) (a0_4 : Int) (a1 : Int) (a2 : Int) (r : Int) (w : World) (h : deal_Need.f k a0_0 a0_1 a0_2 a0_3 a0_4 a1 a2 = some r) :
 Calls Try.prog 49 #[.agg #[.int .i64 a0_0, .int .i64 a0_1, .int .i64 a0_2, .int .i64 a0_3, .int .i64 a0_4], .int .i64 a1, .int .i64 a2] w fun e w' => e = .returned (.int .i64 r) ∧ Below w.heap.size w w' := by
 have hu48 := Try.underlying48
 have HB := za.mk (Below.refl w.heap.size w)
 have H : ((deal_each.f k a0_0 a0_1 a0_2 a0_3 a0_4 a1).bind fun t105 => (some (wrap64 (t105 * a2)))) = some r := h
 clear h
 replace H := Option.bind_eq_some_iff.mp H
 obtain ⟨t105, A40, H⟩ := H
 replace H : (some (wrap64 (t105 * a2))) = some r := H
 have A4 := za.mk A40
 clear A40
 obtain rfl := Option.some.inj H
 go_enter Try.func49, Try.ntmps49
 go_wp2_with (first | ((with_reducible refine zT (N := 3) rfl ?_); refine zP ?hg (N := 3) ?hd (cs := #[.int .i64 a0_0, .int .i64 a0_1, .int .i64 a0_2, .int .i64 a0_3, .int .i64 a0_4]) (t := 48) ?hr ?_; (case hd => rfl); (case hg => rfl); (case hr => first | (go_simp; done) | (go_simp; rfl)); intro gb104 hg w5 hbox hb; have n0_ := za.mk (zu (by repeat (first | (with_reducible first | exact HB.out | apply zc | apply zb | apply zg) | exact HB.out)) hb); have n1_ := za.mk (hbox); have n2_ := za.mk ((by rw [hg]; exact (zr (by repeat (first | (with_reducible first | exact HB.out | apply zc | apply zb | apply zg) | exact HB.out))) : w.heap.size ≤ gb104)); have n3_ := za.mk ((by rw [hg]; exact (zr (by repeat (first | (with_reducible first | exact HB.out | apply zc | apply zb | apply zg) | exact HB.out))) : w.heap.size ≤ gb104)); clear HB; have HB := n0_; have BK104 := n1_; have GW104 := n2_; have GE104 := n3_; clear n0_ n1_ n2_ n3_; clear hb hbox hg; have hcz6_0 : w5.cell? ⟨gb104, 0, none⟩ = some (.int .i64 a0_0) := (zi BK104.out 0).trans rfl; have hcz6_1 : w5.cell? ⟨gb104, 1, none⟩ = some (.int .i64 a0_1) := (zi BK104.out 1).trans rfl; have hcz6_2 : w5.cell? ⟨gb104, 2, none⟩ = some (.int .i64 a0_2) := (zi BK104.out 2).trans rfl; have hcz6_3 : w5.cell? ⟨gb104, 3, none⟩ = some (.int .i64 a0_3) := (zi BK104.out 3).trans rfl; have hcz6_4 : w5.cell? ⟨gb104, 4, none⟩ = some (.int .i64 a0_4) := (zi BK104.out 4).trans rfl; have hfz6_0 := ze BK104.out 0; have hfz6_1 := ze BK104.out 1; have hfz6_2 := ze BK104.out 2; have hfz6_3 := ze BK104.out 3; have hfz6_4 := ze BK104.out 4) | ((with_reducible refine jR (f := 82) rfl ?_); refine zcq (some 9) rfl rfl Try.func82 (by kernel_rfl) rfl #[.agg #[.int .i64 a0_0, .int .i64 a0_1, .int .i64 a0_2, .int .i64 a0_3, .int .i64 a0_4], .int .i64 a1] rfl (by (try simp only [List.map_toArray, List.map_cons, List.map_nil]); first | done | rfl | (simp only [List.length_drop, List.length_take]; rfl)) ?_; (with_reducible refine (deal_each.calls k a0_0 a0_1 a0_2 a0_3 a0_4 a1 t105 _ A4.out).mono ?_); rintro e w7 ⟨rfl, hb⟩; refine ⟨_, rfl, ?_⟩; have n0_ := za.mk (zl (g := gb104) (o := .cells #[.int .i64 a0_0, .int .i64 a0_1, .int .i64 a0_2, .int .i64 a0_3, .int .i64 a0_4] 48 (0, 0)) (by (with_reducible repeat (first | refine zC ?_ _ | refine zL ?_ | refine zt ?_ _)); exact BK104.out) hb); have n1_ := za.mk (zu (by repeat (first | (with_reducible first | exact HB.out | apply zc | apply zb | apply zg | refine zn ?_ GE104.out) | exact HB.out)) hb); clear BK104; clear HB; have BK104 := n0_; have HB := n1_; clear n0_ n1_; (try clear hb); (try clear hb2); (try clear hk); (try clear hi)))
 go_ret
 exact ⟨by first | rfl | (simp [errW_none, errW_some] <;> rfl) | (simp [*, errW_none, errW_some] <;> rfl), by repeat (first | (with_reducible first | exact HB.out | apply zc | apply zb | apply zg | refine zn ?_ GE104.out) | exact HB.out)⟩
def shamrockref10_Good.l0 : Nat → List Int → Int → Int → Int → Int → Int → Int → Int → Option (Bool)
 | 0, _, _, _, _, _, _, _, _ => none
 | k + 1, x13, x14, x15, x113000, x113001, x113002, x113003, x113004 => if x15 < x14 then (if 0 ≤ x15 then (if x15 < (x13.length : Int) then (if (rd x13 x15) < 0 then (some false) else (if (rd x13 x15) > 255 then (some false) else (shamrockref10_Good.l0 k x13 x14 (wrap64 (x15 + 1)) x113000 x113001 x113002 x113003 x113004))) else (none)) else (none)) else (if x113001 ≥ 1 then (if x113002 ≥ 1 then (if x113004 ≥ 1 then (if x113004 ≤ 512 then (if x113000 ≥ (wrap64 ((wrap64 (x113001 + x113002)) + (wrap64 (2 * x113003)))) then (some (decide ((wrap64 (x113000 + x113002)) ≤ 255))) else (some false)) else (some false)) else (some false)) else (some false)) else (some false))
def shamrockref10_Good.f (k : Nat) (a0_0 : Int) (a0_1 : Int) (a0_2 : Int) (a0_3 : Int) (a0_4 : Int) : Option (Bool) := (some (([a0_0, a0_1, a0_2, a0_3] : List Int) : List Int)).bind fun y113 => (shamrockref10_Good.l0 k y113 (y113.length : Int) 0 a0_0 a0_1 a0_2 a0_3 a0_4)
set_option maxHeartbeats 8000000 in
set_option maxRecDepth 100000 in
theorem shamrockref10_Good.calls (k : Nat) (a0_0 : Int) (a0_1 : Int) (a0_2 : Int) (a0_3 : Int) (a0_4 : Int) (r : Bool) (w : World) (h : shamrockref10_Good.f k a0_0 a0_1 a0_2 a0_3 a0_4 = some r) :
 Calls Try.prog 44 #[.agg #[.int .i64 a0_0, .int .i64 a0_1, .int .i64 a0_2, .int .i64 a0_3, .int .i64 a0_4]] w fun e w' => e = .returned (.bool r) ∧ Below w.heap.size w w' := by
 have hu48 := Try.underlying48
 have HB := za.mk (Below.refl w.heap.size w)
 have H : ((some (([a0_0, a0_1, a0_2, a0_3] : List Int) : List Int)).bind fun y113 => (shamrockref10_Good.l0 k y113 (y113.length : Int) 0 a0_0 a0_1 a0_2 a0_3 a0_4)) = some r := h
 clear h
 obtain ⟨y113, hy113⟩ : ∃ y_ : List Int, y_ = (([a0_0, a0_1, a0_2, a0_3] : List Int)) := ⟨_, rfl⟩
 replace H : (shamrockref10_Good.l0 k y113 (y113.length : Int) 0 a0_0 a0_1 a0_2 a0_3 a0_4) = some r := by first | (rw [hy113]; with_reducible exact H) | (have H2_ := (Option.bind_some _ _).symm.trans H; rw [hy113]; with_reducible exact H2_) | (have H2_ := (Option.bind_some _ _).symm.trans H; with_reducible exact H2_) | with_reducible exact H | (rw [hy113]; exact H) | exact H
 have Ny113 := za.mk hy113
 clear hy113
 have H' := za.mk H
 clear H
 go_enter Try.func44, Try.ntmps44
 go_wp2_with (first | ((with_reducible refine zT (N := 1) rfl ?_); refine zP ?hg (N := 1) ?hd (cs := #[.int .i64 a0_0, .int .i64 a0_1, .int .i64 a0_2, .int .i64 a0_3, .int .i64 a0_4]) (t := 48) ?hr ?_; (case hd => rfl); (case hg => rfl); (case hr => first | (go_simp; done) | (go_simp; rfl)); intro gb112 hg w2 hbox hb; have n0_ := za.mk (zu (by repeat (first | (with_reducible first | exact HB.out | apply zc | apply zb | apply zg) | exact HB.out)) hb); have n1_ := za.mk (hbox); have n2_ := za.mk ((by rw [hg]; exact (zr (by repeat (first | (with_reducible first | exact HB.out | apply zc | apply zb | apply zg) | exact HB.out))) : w.heap.size ≤ gb112)); have n3_ := za.mk ((by rw [hg]; exact (zr (by repeat (first | (with_reducible first | exact HB.out | apply zc | apply zb | apply zg) | exact HB.out))) : w.heap.size ≤ gb112)); clear HB; have HB := n0_; have BK112 := n1_; have GW112 := n2_; have GE112 := n3_; clear n0_ n1_ n2_ n3_; clear hb hbox hg; have hcz3_0 : w2.cell? ⟨gb112, 0, none⟩ = some (.int .i64 a0_0) := (zi BK112.out 0).trans rfl; have hcz3_1 : w2.cell? ⟨gb112, 1, none⟩ = some (.int .i64 a0_1) := (zi BK112.out 1).trans rfl; have hcz3_2 : w2.cell? ⟨gb112, 2, none⟩ = some (.int .i64 a0_2) := (zi BK112.out 2).trans rfl; have hcz3_3 : w2.cell? ⟨gb112, 3, none⟩ = some (.int .i64 a0_3) := (zi BK112.out 3).trans rfl; have hcz3_4 : w2.cell? ⟨gb112, 4, none⟩ = some (.int .i64 a0_4) := (zi BK112.out 4).trans rfl; have hfz3_0 := ze BK112.out 0; have hfz3_1 := ze BK112.out 1; have hfz3_2 := ze BK112.out 2; have hfz3_3 := ze BK112.out 3; have hfz3_4 := ze BK112.out 4) | ((with_reducible refine zT (N := 13) rfl ?_); refine Kd.R_lit (Kd.int .i64) _ 3 ?hg (N := 13) ?hd (xs := ([a0_0, a0_1, a0_2, a0_3] : List Int)) (inner := [.int .i64 a0_0, .int .i64 a0_1, .int .i64 a0_2, .int .i64 a0_3]) (ok := fun _ => True) (okp := fun _ => True) ?hr ?hp (fun _ hk => hk) trivial (Below.refl _ _) (Nat.le_refl _) (by simp) ?_; (case hd => rfl); (case hg => rfl); (case hr => first | (go_simp; done) | (go_simp; rfl)); (case hp => exact (Zo.one (show Kd.M (Kd.int .i64) _ _ _ a0_0 [.int .i64 a0_0] from rfl) (Zo.one (show Kd.M (Kd.int .i64) _ _ _ a0_1 [.int .i64 a0_1] from rfl) (Zo.one (show Kd.M (Kd.int .i64) _ _ _ a0_2 [.int .i64 a0_2] from rfl) (Zo.one (show Kd.M (Kd.int .i64) _ _ _ a0_3 [.int .i64 a0_3] from rfl) (Zo.none _ _)))))); intro v114 w4 ho5 hb hg_ hnew_; clear hg_ hnew_; (first | rw [← Ny113.out] at ho5 | (simp only [Int.reduceToNat] at ho5; rw [← Ny113.out] at ho5)); have n0_ := za.mk (Kd.R_lower ho5 (zr (by repeat (first | (with_reducible first | exact HB.out | apply zc | apply zb | apply zg | refine zn ?_ GE112.out) | exact HB.out)))); have n1_ := za.mk (zl (g := gb112) (o := .cells #[.int .i64 a0_0, .int .i64 a0_1, .int .i64 a0_2, .int .i64 a0_3, .int .i64 a0_4] 48 (0, 0)) (by (with_reducible repeat (first | refine zC ?_ _ | refine zL ?_ | refine zt ?_ _)); exact BK112.out) hb); have n2_ := za.mk (zu (by repeat (first | (with_reducible first | exact HB.out | apply zc | apply zb | apply zg | refine zn ?_ GE112.out) | exact HB.out)) hb); clear BK112; clear HB; have HO115 := n0_; have BK112 := n1_; have HB := n2_; clear n0_ n1_ n2_; clear hb ho5; obtain ⟨Ao6, co6, eo6⟩ := Kd.R_slice HO115.out; subst eo6))
 go_loopg [15] k (fun kq v15 w' => ∃ (x15_1 : Int), v15 = .int .i64 x15_1 ∧ za (shamrockref10_Good.l0 kq y113 (y113.length : Int) x15_1 a0_0 a0_1 a0_2 a0_3 a0_4 = some r) ∧ za (kq ≤ k) ∧ za (Kd.R (Kd.int .i64) 3 w' w.heap.size (fun _ => True) (.slice Ao6 y113.length co6) y113) ∧ za (w'.heap[gb112]? = some (.cells #[.int .i64 a0_0, .int .i64 a0_1, .int .i64 a0_2, .int .i64 a0_3, .int .i64 a0_4] 48 (0, 0))) ∧ za (Below w.heap.size w w'))
 case atStart => exact ⟨(0), (by first | rfl | (simp; done) | (simp [*]; done)), H', ⟨Nat.le_refl _⟩, ⟨by (with_reducible repeat (first | apply Kd.R_alloc | apply Kd.R_drewN | apply Kd.R_drew)); exact HO115.out⟩, ⟨by (with_reducible repeat (first | refine zC ?_ _ | refine zL ?_ | refine zt ?_ _)); exact BK112.out⟩, ⟨by repeat (first | (with_reducible first | exact HB.out | apply zc | apply zb | apply zg | refine zn ?_ GE112.out) | exact HB.out)⟩⟩
 clear H'
 try clear p2
 try clear c4
 try clear hcz3_0
 try clear hcz3_1
 try clear hcz3_2
 try clear hcz3_3
 try clear hcz3_4
 try clear hfz3_0
 try clear hfz3_1
 try clear hfz3_2
 try clear hfz3_3
 try clear hfz3_4
 obtain ⟨x15_1, rfl, HA, HK1, HO_13, BK112, HB⟩ := hrel
 cases gk with
 | zero => exact absurd HA.out (by simp [shamrockref10_Good.l0])
 | succ k1 =>
   have H := HA.out
   clear HA
   simp only [shamrockref10_Good.l0] at H
   by_cases c7 : x15_1 < (y113.length : Int)
   ·rw [if_pos c7] at H
    have c7b0 : decide (x15_1 < (y113.length : Int)) = true := decide_eq_true c7
    clear c7
    by_cases c8 : 0 ≤ x15_1
    ·rw [if_pos c8] at H
     have c8b0 : decide (0 ≤ x15_1) = true := decide_eq_true c8
     clear c8
     by_cases c9 : x15_1 < (y113.length : Int)
     ·rw [if_pos c9] at H
      have c9b0 : decide (x15_1 < (y113.length : Int)) = true := decide_eq_true c9
      clear c9
      by_cases c10 : (rd y113 x15_1) < 0
      ·rw [if_pos c10] at H
       have c10b0 : decide ((rd y113 x15_1) < 0) = true := decide_eq_true c10
       clear c10
       obtain rfl := Option.some.inj H
       have p116 : 0 ≤ (x15_1 : Int) := of_decide_eq_true (by first | (with_reducible assumption) | assumption)
       have q116 : x15_1 < (y113.length : Int) := of_decide_eq_true (by first | (with_reducible assumption) | assumption)
       obtain ⟨ad116, e116, hx116_0⟩ := Kd.at_int (Kd.R_reads' HO_13.out).2.2 x15_1 p116 q116
       cases e116
       replace p116 := eq_true p116
       replace q116 := eq_true q116
       go_wp2
       go_ret
       exact ⟨by first | rfl | (simp [errW_none, errW_some] <;> rfl) | (simp [*, errW_none, errW_some] <;> rfl), by repeat (first | (with_reducible first | exact HB.out | apply zc | apply zb | apply zg | refine zn ?_ GE112.out) | exact HB.out)⟩
      rw [if_neg c10] at H
      have c10b0 : decide ((rd y113 x15_1) < 0) = false := decide_eq_false c10
      clear c10
      by_cases c11 : (rd y113 x15_1) > 255
      ·rw [if_pos c11] at H
       have c11b0 : decide (255 < (rd y113 x15_1)) = true := decide_eq_true c11
       clear c11
       obtain rfl := Option.some.inj H
       have p116 : 0 ≤ (x15_1 : Int) := of_decide_eq_true (by first | (with_reducible assumption) | assumption)
       have q116 : x15_1 < (y113.length : Int) := of_decide_eq_true (by first | (with_reducible assumption) | assumption)
       obtain ⟨ad116, e116, hx116_0⟩ := Kd.at_int (Kd.R_reads' HO_13.out).2.2 x15_1 p116 q116
       cases e116
       replace p116 := eq_true p116
       replace q116 := eq_true q116
       go_wp2
       go_ret
       exact ⟨by first | rfl | (simp [errW_none, errW_some] <;> rfl) | (simp [*, errW_none, errW_some] <;> rfl), by repeat (first | (with_reducible first | exact HB.out | apply zc | apply zb | apply zg | refine zn ?_ GE112.out) | exact HB.out)⟩
      rw [if_neg c11] at H
      have c11b0 : decide (255 < (rd y113 x15_1)) = false := decide_eq_false c11
      clear c11
      have H' := za.mk H
      clear H
      have p116 : 0 ≤ (x15_1 : Int) := of_decide_eq_true (by first | (with_reducible assumption) | assumption)
      have q116 : x15_1 < (y113.length : Int) := of_decide_eq_true (by first | (with_reducible assumption) | assumption)
      obtain ⟨ad116, e116, hx116_0⟩ := Kd.at_int (Kd.R_reads' HO_13.out).2.2 x15_1 p116 q116
      cases e116
      replace p116 := eq_true p116
      replace q116 := eq_true q116
      go_wp2
      go_roundg k1
      case measure => have := HK1.out; omega
      case rel => exact ⟨(wrap64 (x15_1 + 1)), (by first | rfl | (simp; done) | (simp [*]; done)), H', ⟨by have := HK1.out; omega⟩, ⟨by (with_reducible repeat (first | apply Kd.R_alloc | apply Kd.R_drewN | apply Kd.R_drew)); exact HO_13.out⟩, ⟨by (with_reducible repeat (first | refine zC ?_ _ | refine zL ?_ | refine zt ?_ _)); exact BK112.out⟩, ⟨by repeat (first | (with_reducible first | exact HB.out | apply zc | apply zb | apply zg | refine zn ?_ GE112.out) | exact HB.out)⟩⟩
     rw [if_neg c9] at H
     exact absurd H (by simp)
    rw [if_neg c8] at H
    exact absurd H (by simp)
   rw [if_neg c7] at H
   have c7b0 : decide (x15_1 < (y113.length : Int)) = false := decide_eq_false c7
   clear c7
   by_cases c12 : a0_1 ≥ 1
   ·rw [if_pos c12] at H
    have c12b0 : decide (1 ≤ a0_1) = true := decide_eq_true c12
    clear c12
    by_cases c13 : a0_2 ≥ 1
    ·rw [if_pos c13] at H
     have c13b0 : decide (1 ≤ a0_2) = true := decide_eq_true c13
     clear c13
     by_cases c14 : a0_4 ≥ 1
     ·rw [if_pos c14] at H
      have c14b0 : decide (1 ≤ a0_4) = true := decide_eq_true c14
      clear c14
      by_cases c15 : a0_4 ≤ 512
      ·rw [if_pos c15] at H
       have c15b0 : decide (a0_4 ≤ 512) = true := decide_eq_true c15
       clear c15
       by_cases c16 : a0_0 ≥ (wrap64 ((wrap64 (a0_1 + a0_2)) + (wrap64 (2 * a0_3))))
       ·rw [if_pos c16] at H
        have c16b0 : decide ((wrap64 ((wrap64 (a0_1 + a0_2)) + (wrap64 (2 * a0_3)))) ≤ a0_0) = true := decide_eq_true c16
        clear c16
        obtain rfl := Option.some.inj H
        have hcz17_0 : wr.cell? ⟨gb112, 0, none⟩ = some (.int .i64 a0_0) := (zi BK112.out 0).trans rfl
        have hcz17_1 : wr.cell? ⟨gb112, 1, none⟩ = some (.int .i64 a0_1) := (zi BK112.out 1).trans rfl
        have hcz17_2 : wr.cell? ⟨gb112, 2, none⟩ = some (.int .i64 a0_2) := (zi BK112.out 2).trans rfl
        have hcz17_3 : wr.cell? ⟨gb112, 3, none⟩ = some (.int .i64 a0_3) := (zi BK112.out 3).trans rfl
        have hcz17_4 : wr.cell? ⟨gb112, 4, none⟩ = some (.int .i64 a0_4) := (zi BK112.out 4).trans rfl
        have hfz17_0 := ze BK112.out 0
        have hfz17_1 := ze BK112.out 1
        have hfz17_2 := ze BK112.out 2
        have hfz17_3 := ze BK112.out 3
        have hfz17_4 := ze BK112.out 4
        go_wp2
        go_ret
        exact ⟨by first | rfl | (simp [errW_none, errW_some] <;> rfl) | (simp [*, errW_none, errW_some] <;> rfl), by repeat (first | (with_reducible first | exact HB.out | apply zc | apply zb | apply zg | refine zn ?_ GE112.out) | exact HB.out)⟩
       rw [if_neg c16] at H
       have c16b0 : decide ((wrap64 ((wrap64 (a0_1 + a0_2)) + (wrap64 (2 * a0_3)))) ≤ a0_0) = false := decide_eq_false c16
       clear c16
       obtain rfl := Option.some.inj H
       have hcz18_0 : wr.cell? ⟨gb112, 0, none⟩ = some (.int .i64 a0_0) := (zi BK112.out 0).trans rfl
       have hcz18_1 : wr.cell? ⟨gb112, 1, none⟩ = some (.int .i64 a0_1) := (zi BK112.out 1).trans rfl
       have hcz18_2 : wr.cell? ⟨gb112, 2, none⟩ = some (.int .i64 a0_2) := (zi BK112.out 2).trans rfl
       have hcz18_3 : wr.cell? ⟨gb112, 3, none⟩ = some (.int .i64 a0_3) := (zi BK112.out 3).trans rfl
       have hcz18_4 : wr.cell? ⟨gb112, 4, none⟩ = some (.int .i64 a0_4) := (zi BK112.out 4).trans rfl
       have hfz18_0 := ze BK112.out 0
       have hfz18_1 := ze BK112.out 1
       have hfz18_2 := ze BK112.out 2
       have hfz18_3 := ze BK112.out 3
       have hfz18_4 := ze BK112.out 4
       go_wp2
       go_ret
       exact ⟨by first | rfl | (simp [errW_none, errW_some] <;> rfl) | (simp [*, errW_none, errW_some] <;> rfl), by repeat (first | (with_reducible first | exact HB.out | apply zc | apply zb | apply zg | refine zn ?_ GE112.out) | exact HB.out)⟩
      rw [if_neg c15] at H
      have c15b0 : decide (a0_4 ≤ 512) = false := decide_eq_false c15
      clear c15
      obtain rfl := Option.some.inj H
      have hcz19_0 : wr.cell? ⟨gb112, 0, none⟩ = some (.int .i64 a0_0) := (zi BK112.out 0).trans rfl
      have hcz19_1 : wr.cell? ⟨gb112, 1, none⟩ = some (.int .i64 a0_1) := (zi BK112.out 1).trans rfl
      have hcz19_2 : wr.cell? ⟨gb112, 2, none⟩ = some (.int .i64 a0_2) := (zi BK112.out 2).trans rfl
      have hcz19_3 : wr.cell? ⟨gb112, 3, none⟩ = some (.int .i64 a0_3) := (zi BK112.out 3).trans rfl
      have hcz19_4 : wr.cell? ⟨gb112, 4, none⟩ = some (.int .i64 a0_4) := (zi BK112.out 4).trans rfl
      have hfz19_0 := ze BK112.out 0
      have hfz19_1 := ze BK112.out 1
      have hfz19_2 := ze BK112.out 2
      have hfz19_3 := ze BK112.out 3
      have hfz19_4 := ze BK112.out 4
      go_wp2
      go_ret
      exact ⟨by first | rfl | (simp [errW_none, errW_some] <;> rfl) | (simp [*, errW_none, errW_some] <;> rfl), by repeat (first | (with_reducible first | exact HB.out | apply zc | apply zb | apply zg | refine zn ?_ GE112.out) | exact HB.out)⟩
     rw [if_neg c14] at H
     have c14b0 : decide (1 ≤ a0_4) = false := decide_eq_false c14
     clear c14
     obtain rfl := Option.some.inj H
     have hcz20_0 : wr.cell? ⟨gb112, 0, none⟩ = some (.int .i64 a0_0) := (zi BK112.out 0).trans rfl
     have hcz20_1 : wr.cell? ⟨gb112, 1, none⟩ = some (.int .i64 a0_1) := (zi BK112.out 1).trans rfl
     have hcz20_2 : wr.cell? ⟨gb112, 2, none⟩ = some (.int .i64 a0_2) := (zi BK112.out 2).trans rfl
     have hcz20_3 : wr.cell? ⟨gb112, 3, none⟩ = some (.int .i64 a0_3) := (zi BK112.out 3).trans rfl
     have hcz20_4 : wr.cell? ⟨gb112, 4, none⟩ = some (.int .i64 a0_4) := (zi BK112.out 4).trans rfl
     have hfz20_0 := ze BK112.out 0
     have hfz20_1 := ze BK112.out 1
     have hfz20_2 := ze BK112.out 2
     have hfz20_3 := ze BK112.out 3
     have hfz20_4 := ze BK112.out 4
     go_wp2
     go_ret
     exact ⟨by first | rfl | (simp [errW_none, errW_some] <;> rfl) | (simp [*, errW_none, errW_some] <;> rfl), by repeat (first | (with_reducible first | exact HB.out | apply zc | apply zb | apply zg | refine zn ?_ GE112.out) | exact HB.out)⟩
    rw [if_neg c13] at H
    have c13b0 : decide (1 ≤ a0_2) = false := decide_eq_false c13
    clear c13
    obtain rfl := Option.some.inj H
    have hcz21_0 : wr.cell? ⟨gb112, 0, none⟩ = some (.int .i64 a0_0) := (zi BK112.out 0).trans rfl
    have hcz21_1 : wr.cell? ⟨gb112, 1, none⟩ = some (.int .i64 a0_1) := (zi BK112.out 1).trans rfl
    have hcz21_2 : wr.cell? ⟨gb112, 2, none⟩ = some (.int .i64 a0_2) := (zi BK112.out 2).trans rfl
    have hcz21_3 : wr.cell? ⟨gb112, 3, none⟩ = some (.int .i64 a0_3) := (zi BK112.out 3).trans rfl
    have hcz21_4 : wr.cell? ⟨gb112, 4, none⟩ = some (.int .i64 a0_4) := (zi BK112.out 4).trans rfl
    have hfz21_0 := ze BK112.out 0
    have hfz21_1 := ze BK112.out 1
    have hfz21_2 := ze BK112.out 2
    have hfz21_3 := ze BK112.out 3
    have hfz21_4 := ze BK112.out 4
    go_wp2
    go_ret
    exact ⟨by first | rfl | (simp [errW_none, errW_some] <;> rfl) | (simp [*, errW_none, errW_some] <;> rfl), by repeat (first | (with_reducible first | exact HB.out | apply zc | apply zb | apply zg | refine zn ?_ GE112.out) | exact HB.out)⟩
   rw [if_neg c12] at H
   have c12b0 : decide (1 ≤ a0_1) = false := decide_eq_false c12
   clear c12
   obtain rfl := Option.some.inj H
   have hcz22_0 : wr.cell? ⟨gb112, 0, none⟩ = some (.int .i64 a0_0) := (zi BK112.out 0).trans rfl
   have hcz22_1 : wr.cell? ⟨gb112, 1, none⟩ = some (.int .i64 a0_1) := (zi BK112.out 1).trans rfl
   have hcz22_2 : wr.cell? ⟨gb112, 2, none⟩ = some (.int .i64 a0_2) := (zi BK112.out 2).trans rfl
   have hcz22_3 : wr.cell? ⟨gb112, 3, none⟩ = some (.int .i64 a0_3) := (zi BK112.out 3).trans rfl
   have hcz22_4 : wr.cell? ⟨gb112, 4, none⟩ = some (.int .i64 a0_4) := (zi BK112.out 4).trans rfl
   have hfz22_0 := ze BK112.out 0
   have hfz22_1 := ze BK112.out 1
   have hfz22_2 := ze BK112.out 2
   have hfz22_3 := ze BK112.out 3
   have hfz22_4 := ze BK112.out 4
   go_wp2
   go_ret
   exact ⟨by first | rfl | (simp [errW_none, errW_some] <;> rfl) | (simp [*, errW_none, errW_some] <;> rfl), by repeat (first | (with_reducible first | exact HB.out | apply zc | apply zb | apply zg | refine zn ?_ GE112.out) | exact HB.out)⟩
end Go.Proofs.Ytpeiejkcoadhfaa.PDealPoints
