/- What the view's laws take, Vt33: PViewEmptyx3. -/
import Derived.Test.YtpeiejkcoadhfaaVt22
set_option linter.all false
namespace Go.Proofs.Ytpeiejkcoadhfaa.PViewEmpty
open Go.RowKit Go.Proofs.YtpeiejkcoadhfaaW.PrintWords Go.Proofs.YtpeiejkcoadhfaaW.PrintLast Go.Proofs.YtpeiejkcoadhfaaW.PrintMore
attribute [local go_sem] max2_int min2_int max_two min_two max_three min_three max_four min_four   -- for this text's walks alone
set_option linter.unusedVariables false
set_option linter.unusedSimpArgs false
mutual
def shamrocklaw24_small.j0 : Nat → Bool → Int → Int → Int → Int → Int → List (S90) → List (List Int) → Option (Bool)
  | 0, _, _, _, _, _, _, _, _ => none
  | k + 1, x19, x153000, x153001, x153002, x153003, x153004, x153005, x153006 => if x19 = true then (some false) else (shamrocklaw24_small.l0 k 0 x153000 x153001 x153002 x153003 x153004 x153005 x153006)
def shamrocklaw24_small.l0 : Nat → Int → Int → Int → Int → Int → Int → List (S90) → List (List Int) → Option (Bool)
  | 0, _, _, _, _, _, _, _, _ => none
  | k + 1, x5, x153000, x153001, x153002, x153003, x153004, x153005, x153006 => if x5 < (x153006.length : Int) then (shamrocklaw24_small.j2 k x5 (decide (x5 < 200)) x153000 x153001 x153002 x153003 x153004 x153005 x153006) else (shamrocklaw24_small.j2 k x5 false x153000 x153001 x153002 x153003 x153004 x153005 x153006)
def shamrocklaw24_small.j2 : Nat → Int → Bool → Int → Int → Int → Int → Int → List (S90) → List (List Int) → Option (Bool)
  | 0, _, _, _, _, _, _, _, _, _ => none
  | k + 1, x5, x28, x153000, x153001, x153002, x153003, x153004, x153005, x153006 => if x28 = true then (if 0 ≤ x5 then (if x5 < (x153006.length : Int) then (if ((rd_L2 x153006 x5).length : Int) > 1000 then (some false) else (shamrocklaw24_small.l0 k (wrap64 (x5 + 1)) x153000 x153001 x153002 x153003 x153004 x153005 x153006)) else (none)) else (none)) else (some (decide ((x153006.length : Int) ≤ 200)))
end
def shamrocklaw24_small.f (k : Nat) (a0_0 : Int) (a0_1 : Int) (a0_2 : Int) (a0_3 : Int) (a0_4 : Int) (l0_5 : List (S90)) (l0_6 : List (List Int)) (a1 : Int) : Option (Bool) := if (l0_5.length : Int) > 12 then (shamrocklaw24_small.j0 k true a0_0 a0_1 a0_2 a0_3 a0_4 l0_5 l0_6) else (if a1 > 24 then (shamrocklaw24_small.j0 k true a0_0 a0_1 a0_2 a0_3 a0_4 l0_5 l0_6) else (shamrocklaw24_small.j0 k (decide (a0_0 > 20)) a0_0 a0_1 a0_2 a0_3 a0_4 l0_5 l0_6))
set_option maxHeartbeats 8000000 in
set_option maxRecDepth 100000 in
theorem shamrocklaw24_small.calls (k : Nat) (a0_0 : Int) (a0_1 : Int) (a0_2 : Int) (a0_3 : Int) (a0_4 : Int) (A0_5 : Option Addr) (c0_5 : Nat) (l0_5 : List (S90)) (A0_6 : Option Addr) (c0_6 : Nat) (l0_6 : List (List Int)) (a1 : Int) (r : Bool) (w : World) (hr0_5 : Kd.C k90 w A0_5 l0_5.length l0_5) (hc0_5 : l0_5.length ≤ c0_5) (hr0_6 : Kd.C (Kd.slice 5 (Kd.int .u8)) w A0_6 l0_6.length l0_6) (hc0_6 : l0_6.length ≤ c0_6) (h : shamrocklaw24_small.f k a0_0 a0_1 a0_2 a0_3 a0_4 l0_5 l0_6 a1 = some r) :
    Calls Try.prog 70 #[.agg #[.int .i64 a0_0, .int .i64 a0_1, .int .i64 a0_2, .int .i64 a0_3, .int .i64 a0_4, .slice A0_5 l0_5.length c0_5, .slice A0_6 l0_6.length c0_6], .int .i64 a1] w fun e w' => e = .returned (.bool r) ∧ Below w.heap.size w w' := by
  have hu77 := Try.underlying77
  have HR0_5 := Aside0.mk hr0_5
  have HC0_5 := Aside0.mk hc0_5
  clear hr0_5 hc0_5
  have HR0_6 := Aside0.mk hr0_6
  have HC0_6 := Aside0.mk hc0_6
  clear hr0_6 hc0_6
  have HB := Aside0.mk (Below.refl w.heap.size w)
  have H : (if (l0_5.length : Int) > 12 then (shamrocklaw24_small.j0 k true a0_0 a0_1 a0_2 a0_3 a0_4 l0_5 l0_6) else (if a1 > 24 then (shamrocklaw24_small.j0 k true a0_0 a0_1 a0_2 a0_3 a0_4 l0_5 l0_6) else (shamrocklaw24_small.j0 k (decide (a0_0 > 20)) a0_0 a0_1 a0_2 a0_3 a0_4 l0_5 l0_6))) = some r := h
  clear h
  have HC3 := Aside0.mk H
  clear H
  go_enter Try.func70, Try.ntmps70
  go_upto_region 1 with (first | ((with_reducible refine gate_dst (N := 2) rfl ?_); refine box_event ?hg (N := 2) ?hd (cs := #[.int .i64 a0_0, .int .i64 a0_1, .int .i64 a0_2, .int .i64 a0_3, .int .i64 a0_4, .slice A0_5 l0_5.length c0_5, .slice A0_6 l0_6.length c0_6]) (t := 77) ?hr ?_; (case hd => rfl); (case hg => rfl); (case hr => first | (go_simp; done) | (go_simp; rfl)); intro gb152 hg w4 hbox hb; have n0_ := Aside0.mk (below_step (by repeat (first | (with_reducible first | exact HB.out | apply below_alloc | apply pw_below_drewN | apply below_drew1) | exact HB.out)) hb); have n1_ := Aside0.mk (hbox); have n2_ := Aside0.mk ((by rw [hg]; exact (below_size (by repeat (first | (with_reducible first | exact HB.out | apply below_alloc | apply pw_below_drewN | apply below_drew1) | exact HB.out))) : w.heap.size ≤ gb152)); have n3_ := Aside0.mk ((by rw [hg]; exact (below_size (by repeat (first | (with_reducible first | exact HB.out | apply below_alloc | apply pw_below_drewN | apply below_drew1) | exact HB.out))) : w.heap.size ≤ gb152)); clear HB; have HB := n0_; have BK152 := n1_; have GW152 := n2_; have GE152 := n3_; clear n0_ n1_ n2_ n3_; clear hb hbox hg))
  (try simp only [Act.put, List.setIfInBounds_toArray, List.set_cons_zero, List.set_cons_succ])
  go_cut [19] (fun v19 wc => ∃ (kq : Nat) (x19_2 : Bool), v19 = .bool x19_2 ∧ Aside0 (shamrocklaw24_small.j0 kq x19_2 a0_0 a0_1 a0_2 a0_3 a0_4 l0_5 l0_6 = some r) ∧ Aside0 (kq ≤ k) ∧ Aside0 (wc.heap[gb152]? = some (.cells #[.int .i64 a0_0, .int .i64 a0_1, .int .i64 a0_2, .int .i64 a0_3, .int .i64 a0_4, (.slice A0_5 l0_5.length c0_5), (.slice A0_6 l0_6.length c0_6)] 77 (0, 0))) ∧ Aside0 (Below w.heap.size w wc))
  case first =>
    have H := HC3.out
    clear HC3
    by_cases c5 : (l0_5.length : Int) > 12
    · rw [if_pos c5] at H
      have c5b0 : decide (12 < (l0_5.length : Int)) = true := decide_eq_true c5
      have c5b1 : decide (12 < l0_5.length) = true := decide_eq_true (by omega)
      clear c5
      (first | rw [c5b0] | (simp only [i64_w, i32_w]; rw [c5b0]) | skip)
      have H' := Aside0.mk H
      clear H
      have hcz6_0 : w4.cell? ⟨gb152, 0, none⟩ = some (.int .i64 a0_0) := (blk_cell BK152.out 0).trans rfl
      have hcz6_1 : w4.cell? ⟨gb152, 1, none⟩ = some (.int .i64 a0_1) := (blk_cell BK152.out 1).trans rfl
      have hcz6_2 : w4.cell? ⟨gb152, 2, none⟩ = some (.int .i64 a0_2) := (blk_cell BK152.out 2).trans rfl
      have hcz6_3 : w4.cell? ⟨gb152, 3, none⟩ = some (.int .i64 a0_3) := (blk_cell BK152.out 3).trans rfl
      have hcz6_4 : w4.cell? ⟨gb152, 4, none⟩ = some (.int .i64 a0_4) := (blk_cell BK152.out 4).trans rfl
      have hcz6_5 : w4.cell? ⟨gb152, 5, none⟩ = some (.slice A0_5 l0_5.length c0_5) := (blk_cell BK152.out 5).trans rfl
      have hcz6_6 : w4.cell? ⟨gb152, 6, none⟩ = some (.slice A0_6 l0_6.length c0_6) := (blk_cell BK152.out 6).trans rfl
      have hfz6_0 := blk_frozen BK152.out 0
      have hfz6_1 := blk_frozen BK152.out 1
      have hfz6_2 := blk_frozen BK152.out 2
      have hfz6_3 := blk_frozen BK152.out 3
      have hfz6_4 := blk_frozen BK152.out 4
      have hfz6_5 := blk_frozen BK152.out 5
      have hfz6_6 := blk_frozen BK152.out 6
      go_wp2
      go_meet
      case rel => exact ⟨_, (true), (by first | rfl | (simp; done) | (simp [*]; done)), H', ⟨by first | omega | exact Nat.le_refl _⟩, ⟨by (with_reducible repeat (first | refine blk_drewN ?_ _ | refine blk_drew ?_ | refine blk_alloc ?_ _)); exact BK152.out⟩, ⟨by repeat (first | (with_reducible first | exact HB.out | apply below_alloc | apply pw_below_drewN | apply below_drew1 | refine below_set ?_ GE152.out) | exact HB.out)⟩⟩
    · rw [if_neg c5] at H
      have c5b0 : decide (12 < (l0_5.length : Int)) = false := decide_eq_false c5
      have c5b1 : decide (12 < l0_5.length) = false := decide_eq_false (by omega)
      clear c5
      (first | rw [c5b0] | (simp only [i64_w, i32_w]; rw [c5b0]) | skip)
      by_cases c7 : a1 > 24
      · rw [if_pos c7] at H
        have c7b0 : decide (24 < a1) = true := decide_eq_true c7
        clear c7
        have H' := Aside0.mk H
        clear H
        have hcz8_0 : w4.cell? ⟨gb152, 0, none⟩ = some (.int .i64 a0_0) := (blk_cell BK152.out 0).trans rfl
        have hcz8_1 : w4.cell? ⟨gb152, 1, none⟩ = some (.int .i64 a0_1) := (blk_cell BK152.out 1).trans rfl
        have hcz8_2 : w4.cell? ⟨gb152, 2, none⟩ = some (.int .i64 a0_2) := (blk_cell BK152.out 2).trans rfl
        have hcz8_3 : w4.cell? ⟨gb152, 3, none⟩ = some (.int .i64 a0_3) := (blk_cell BK152.out 3).trans rfl
        have hcz8_4 : w4.cell? ⟨gb152, 4, none⟩ = some (.int .i64 a0_4) := (blk_cell BK152.out 4).trans rfl
        have hcz8_5 : w4.cell? ⟨gb152, 5, none⟩ = some (.slice A0_5 l0_5.length c0_5) := (blk_cell BK152.out 5).trans rfl
        have hcz8_6 : w4.cell? ⟨gb152, 6, none⟩ = some (.slice A0_6 l0_6.length c0_6) := (blk_cell BK152.out 6).trans rfl
        have hfz8_0 := blk_frozen BK152.out 0
        have hfz8_1 := blk_frozen BK152.out 1
        have hfz8_2 := blk_frozen BK152.out 2
        have hfz8_3 := blk_frozen BK152.out 3
        have hfz8_4 := blk_frozen BK152.out 4
        have hfz8_5 := blk_frozen BK152.out 5
        have hfz8_6 := blk_frozen BK152.out 6
        go_wp2
        go_meet
        case rel => exact ⟨_, (true), (by first | rfl | (simp; done) | (simp [*]; done)), H', ⟨by first | omega | exact Nat.le_refl _⟩, ⟨by (with_reducible repeat (first | refine blk_drewN ?_ _ | refine blk_drew ?_ | refine blk_alloc ?_ _)); exact BK152.out⟩, ⟨by repeat (first | (with_reducible first | exact HB.out | apply below_alloc | apply pw_below_drewN | apply below_drew1 | refine below_set ?_ GE152.out) | exact HB.out)⟩⟩
      · rw [if_neg c7] at H
        have c7b0 : decide (24 < a1) = false := decide_eq_false c7
        clear c7
        have H' := Aside0.mk H
        clear H
        have hcz9_0 : w4.cell? ⟨gb152, 0, none⟩ = some (.int .i64 a0_0) := (blk_cell BK152.out 0).trans rfl
        have hcz9_1 : w4.cell? ⟨gb152, 1, none⟩ = some (.int .i64 a0_1) := (blk_cell BK152.out 1).trans rfl
        have hcz9_2 : w4.cell? ⟨gb152, 2, none⟩ = some (.int .i64 a0_2) := (blk_cell BK152.out 2).trans rfl
        have hcz9_3 : w4.cell? ⟨gb152, 3, none⟩ = some (.int .i64 a0_3) := (blk_cell BK152.out 3).trans rfl
        have hcz9_4 : w4.cell? ⟨gb152, 4, none⟩ = some (.int .i64 a0_4) := (blk_cell BK152.out 4).trans rfl
        have hcz9_5 : w4.cell? ⟨gb152, 5, none⟩ = some (.slice A0_5 l0_5.length c0_5) := (blk_cell BK152.out 5).trans rfl
        have hcz9_6 : w4.cell? ⟨gb152, 6, none⟩ = some (.slice A0_6 l0_6.length c0_6) := (blk_cell BK152.out 6).trans rfl
        have hfz9_0 := blk_frozen BK152.out 0
        have hfz9_1 := blk_frozen BK152.out 1
        have hfz9_2 := blk_frozen BK152.out 2
        have hfz9_3 := blk_frozen BK152.out 3
        have hfz9_4 := blk_frozen BK152.out 4
        have hfz9_5 := blk_frozen BK152.out 5
        have hfz9_6 := blk_frozen BK152.out 6
        go_wp2
        go_meet
        case rel => exact ⟨_, (decide (a0_0 > 20)), (by first | rfl | (simp; done) | (simp [*]; done)), H', ⟨by first | omega | exact Nat.le_refl _⟩, ⟨by (with_reducible repeat (first | refine blk_drewN ?_ _ | refine blk_drew ?_ | refine blk_alloc ?_ _)); exact BK152.out⟩, ⟨by repeat (first | (with_reducible first | exact HB.out | apply below_alloc | apply pw_below_drewN | apply below_drew1 | refine below_set ?_ GE152.out) | exact HB.out)⟩⟩
  case rest =>
    clear HC3
    try clear p2
    try clear c5
    try clear c5b0
    try clear c5b1
    try clear c7
    try clear c7b0
    try clear hcz6_0
    try clear hcz6_1
    try clear hcz6_2
    try clear hcz6_3
    try clear hcz6_4
    try clear hcz6_5
    try clear hcz6_6
    try clear hcz8_0
    try clear hcz8_1
    try clear hcz8_2
    try clear hcz8_3
    try clear hcz8_4
    try clear hcz8_5
    try clear hcz8_6
    try clear hcz9_0
    try clear hcz9_1
    try clear hcz9_2
    try clear hcz9_3
    try clear hcz9_4
    try clear hcz9_5
    try clear hcz9_6
    try clear hfz6_0
    try clear hfz6_1
    try clear hfz6_2
    try clear hfz6_3
    try clear hfz6_4
    try clear hfz6_5
    try clear hfz6_6
    try clear hfz8_0
    try clear hfz8_1
    try clear hfz8_2
    try clear hfz8_3
    try clear hfz8_4
    try clear hfz8_5
    try clear hfz8_6
    try clear hfz9_0
    try clear hfz9_1
    try clear hfz9_2
    try clear hfz9_3
    try clear hfz9_4
    try clear hfz9_5
    try clear hfz9_6
    obtain ⟨kq, x19_2, rfl, HA, HJ2, BK152, HB⟩ := hcut
    cases kq with
    | zero => exact absurd HA.out (by simp [shamrocklaw24_small.j0])
    | succ kj2 =>
      have H := HA.out
      clear HA
      simp only [shamrocklaw24_small.j0] at H
      by_cases c10 : x19_2 = true
      · subst c10
        have H1 : (some false) = some r := by rw [if_pos rfl] at H; exact H
        clear H
        have H := H1
        clear H1
        obtain rfl := Option.some.inj H
        go_wp2
        go_ret
        exact ⟨by first | rfl | (simp [errW_none, errW_some] <;> rfl) | (simp [*, errW_none, errW_some] <;> rfl), by repeat (first | (with_reducible first | exact HB.out | apply below_alloc | apply pw_below_drewN | apply below_drew1 | refine below_set ?_ GE152.out) | exact HB.out)⟩
      · replace c10 := Bool.eq_false_iff.mpr c10
        subst c10
        have H1 : (shamrocklaw24_small.l0 kj2 0 a0_0 a0_1 a0_2 a0_3 a0_4 l0_5 l0_6) = some r := by rw [if_neg (show ¬ (false = true) by decide)] at H; exact H
        clear H
        have H := H1
        clear H1
        have H' := Aside0.mk H
        clear H
        go_wp2
        go_loopg [5] kj2 (fun kq v5 w' => ∃ (x5_2 : Int), v5 = .int .i64 x5_2 ∧ Aside0 (shamrocklaw24_small.l0 kq x5_2 a0_0 a0_1 a0_2 a0_3 a0_4 l0_5 l0_6 = some r) ∧ Aside0 (kq ≤ kj2) ∧ Aside0 (w'.heap[gb152]? = some (.cells #[.int .i64 a0_0, .int .i64 a0_1, .int .i64 a0_2, .int .i64 a0_3, .int .i64 a0_4, (.slice A0_5 l0_5.length c0_5), (.slice A0_6 l0_6.length c0_6)] 77 (0, 0))) ∧ Aside0 (Below w.heap.size w w'))
        case atStart => exact ⟨(0), (by first | rfl | (simp; done) | (simp [*]; done)), H', ⟨Nat.le_refl _⟩, ⟨by (with_reducible repeat (first | refine blk_drewN ?_ _ | refine blk_drew ?_ | refine blk_alloc ?_ _)); exact BK152.out⟩, ⟨by repeat (first | (with_reducible first | exact HB.out | apply below_alloc | apply pw_below_drewN | apply below_drew1 | refine below_set ?_ GE152.out) | exact HB.out)⟩⟩
        case round =>
          clear H'
          try clear c1
          try clear p2
          try clear c5
          try clear c5b0
          try clear c5b1
          try clear c7
          try clear c7b0
          try clear c10
          try clear hcz6_0
          try clear hcz6_1
          try clear hcz6_2
          try clear hcz6_3
          try clear hcz6_4
          try clear hcz6_5
          try clear hcz6_6
          try clear hcz8_0
          try clear hcz8_1
          try clear hcz8_2
          try clear hcz8_3
          try clear hcz8_4
          try clear hcz8_5
          try clear hcz8_6
          try clear hcz9_0
          try clear hcz9_1
          try clear hcz9_2
          try clear hcz9_3
          try clear hcz9_4
          try clear hcz9_5
          try clear hcz9_6
          try clear hfz6_0
          try clear hfz6_1
          try clear hfz6_2
          try clear hfz6_3
          try clear hfz6_4
          try clear hfz6_5
          try clear hfz6_6
          try clear hfz8_0
          try clear hfz8_1
          try clear hfz8_2
          try clear hfz8_3
          try clear hfz8_4
          try clear hfz8_5
          try clear hfz8_6
          try clear hfz9_0
          try clear hfz9_1
          try clear hfz9_2
          try clear hfz9_3
          try clear hfz9_4
          try clear hfz9_5
          try clear hfz9_6
          try clear p2
          obtain ⟨x5_2, rfl, HA, HK2, BK152, HB⟩ := hrel
          cases gk with
          | zero => exact absurd HA.out (by simp [shamrocklaw24_small.l0])
          | succ k2 =>
            have H := HA.out
            clear HA
            simp only [shamrocklaw24_small.l0] at H
            have HC11 := Aside0.mk H
            clear H
            go_upto_region 4 with (fail)
            go_cut [28] (fun v28 wc => ∃ (kq : Nat) (x28_10 : Bool), v28 = .bool x28_10 ∧ Aside0 (shamrocklaw24_small.j2 kq x5_2 x28_10 a0_0 a0_1 a0_2 a0_3 a0_4 l0_5 l0_6 = some r) ∧ Aside0 (kq ≤ k2) ∧ Aside0 (wc.heap[gb152]? = some (.cells #[.int .i64 a0_0, .int .i64 a0_1, .int .i64 a0_2, .int .i64 a0_3, .int .i64 a0_4, (.slice A0_5 l0_5.length c0_5), (.slice A0_6 l0_6.length c0_6)] 77 (0, 0))) ∧ Aside0 (Below w.heap.size w wc))
            case first =>
              have H := HC11.out
              clear HC11
              by_cases c12 : x5_2 < (l0_6.length : Int)
              · rw [if_pos c12] at H
                have c12b0 : decide (x5_2 < (l0_6.length : Int)) = true := decide_eq_true c12
                clear c12
                (first | rw [c12b0] | (simp only [i64_w, i32_w]; rw [c12b0]) | skip)
                have H' := Aside0.mk H
                clear H
                have hcz13_0 : wr.cell? ⟨gb152, 0, none⟩ = some (.int .i64 a0_0) := (blk_cell BK152.out 0).trans rfl
                have hcz13_1 : wr.cell? ⟨gb152, 1, none⟩ = some (.int .i64 a0_1) := (blk_cell BK152.out 1).trans rfl
                have hcz13_2 : wr.cell? ⟨gb152, 2, none⟩ = some (.int .i64 a0_2) := (blk_cell BK152.out 2).trans rfl
                have hcz13_3 : wr.cell? ⟨gb152, 3, none⟩ = some (.int .i64 a0_3) := (blk_cell BK152.out 3).trans rfl
                have hcz13_4 : wr.cell? ⟨gb152, 4, none⟩ = some (.int .i64 a0_4) := (blk_cell BK152.out 4).trans rfl
                have hcz13_5 : wr.cell? ⟨gb152, 5, none⟩ = some (.slice A0_5 l0_5.length c0_5) := (blk_cell BK152.out 5).trans rfl
                have hcz13_6 : wr.cell? ⟨gb152, 6, none⟩ = some (.slice A0_6 l0_6.length c0_6) := (blk_cell BK152.out 6).trans rfl
                have hfz13_0 := blk_frozen BK152.out 0
                have hfz13_1 := blk_frozen BK152.out 1
                have hfz13_2 := blk_frozen BK152.out 2
                have hfz13_3 := blk_frozen BK152.out 3
                have hfz13_4 := blk_frozen BK152.out 4
                have hfz13_5 := blk_frozen BK152.out 5
                have hfz13_6 := blk_frozen BK152.out 6
                go_wp2
                go_meet
                case rel => exact ⟨_, (decide (x5_2 < 200)), (by first | rfl | (simp; done) | (simp [*]; done)), H', ⟨by have := HJ2.out; have := HK2.out; first | omega | exact Nat.le_refl _⟩, ⟨by (with_reducible repeat (first | refine blk_drewN ?_ _ | refine blk_drew ?_ | refine blk_alloc ?_ _)); exact BK152.out⟩, ⟨by repeat (first | (with_reducible first | exact HB.out | apply below_alloc | apply pw_below_drewN | apply below_drew1 | refine below_set ?_ GE152.out) | exact HB.out)⟩⟩
              · rw [if_neg c12] at H
                have c12b0 : decide (x5_2 < (l0_6.length : Int)) = false := decide_eq_false c12
                clear c12
                (first | rw [c12b0] | (simp only [i64_w, i32_w]; rw [c12b0]) | skip)
                have H' := Aside0.mk H
                clear H
                have hcz14_0 : wr.cell? ⟨gb152, 0, none⟩ = some (.int .i64 a0_0) := (blk_cell BK152.out 0).trans rfl
                have hcz14_1 : wr.cell? ⟨gb152, 1, none⟩ = some (.int .i64 a0_1) := (blk_cell BK152.out 1).trans rfl
                have hcz14_2 : wr.cell? ⟨gb152, 2, none⟩ = some (.int .i64 a0_2) := (blk_cell BK152.out 2).trans rfl
                have hcz14_3 : wr.cell? ⟨gb152, 3, none⟩ = some (.int .i64 a0_3) := (blk_cell BK152.out 3).trans rfl
                have hcz14_4 : wr.cell? ⟨gb152, 4, none⟩ = some (.int .i64 a0_4) := (blk_cell BK152.out 4).trans rfl
                have hcz14_5 : wr.cell? ⟨gb152, 5, none⟩ = some (.slice A0_5 l0_5.length c0_5) := (blk_cell BK152.out 5).trans rfl
                have hcz14_6 : wr.cell? ⟨gb152, 6, none⟩ = some (.slice A0_6 l0_6.length c0_6) := (blk_cell BK152.out 6).trans rfl
                have hfz14_0 := blk_frozen BK152.out 0
                have hfz14_1 := blk_frozen BK152.out 1
                have hfz14_2 := blk_frozen BK152.out 2
                have hfz14_3 := blk_frozen BK152.out 3
                have hfz14_4 := blk_frozen BK152.out 4
                have hfz14_5 := blk_frozen BK152.out 5
                have hfz14_6 := blk_frozen BK152.out 6
                go_wp2
                go_meet
                case rel => exact ⟨_, (false), (by first | rfl | (simp; done) | (simp [*]; done)), H', ⟨by have := HJ2.out; have := HK2.out; first | omega | exact Nat.le_refl _⟩, ⟨by (with_reducible repeat (first | refine blk_drewN ?_ _ | refine blk_drew ?_ | refine blk_alloc ?_ _)); exact BK152.out⟩, ⟨by repeat (first | (with_reducible first | exact HB.out | apply below_alloc | apply pw_below_drewN | apply below_drew1 | refine below_set ?_ GE152.out) | exact HB.out)⟩⟩
            case rest =>
              clear HC11
              try clear c1
              try clear p2
              try clear c5
              try clear c5b0
              try clear c5b1
              try clear c7
              try clear c7b0
              try clear c10
              try clear c12
              try clear c12b0
              try clear hcz13_0
              try clear hcz13_1
              try clear hcz13_2
              try clear hcz13_3
              try clear hcz13_4
              try clear hcz13_5
              try clear hcz13_6
              try clear hcz14_0
              try clear hcz14_1
              try clear hcz14_2
              try clear hcz14_3
              try clear hcz14_4
              try clear hcz14_5
              try clear hcz14_6
              try clear hcz6_0
              try clear hcz6_1
              try clear hcz6_2
              try clear hcz6_3
              try clear hcz6_4
              try clear hcz6_5
              try clear hcz6_6
              try clear hcz8_0
              try clear hcz8_1
              try clear hcz8_2
              try clear hcz8_3
              try clear hcz8_4
              try clear hcz8_5
              try clear hcz8_6
              try clear hcz9_0
              try clear hcz9_1
              try clear hcz9_2
              try clear hcz9_3
              try clear hcz9_4
              try clear hcz9_5
              try clear hcz9_6
              try clear hfz13_0
              try clear hfz13_1
              try clear hfz13_2
              try clear hfz13_3
              try clear hfz13_4
              try clear hfz13_5
              try clear hfz13_6
              try clear hfz14_0
              try clear hfz14_1
              try clear hfz14_2
              try clear hfz14_3
              try clear hfz14_4
              try clear hfz14_5
              try clear hfz14_6
              try clear hfz6_0
              try clear hfz6_1
              try clear hfz6_2
              try clear hfz6_3
              try clear hfz6_4
              try clear hfz6_5
              try clear hfz6_6
              try clear hfz8_0
              try clear hfz8_1
              try clear hfz8_2
              try clear hfz8_3
              try clear hfz8_4
              try clear hfz8_5
              try clear hfz8_6
              try clear hfz9_0
              try clear hfz9_1
              try clear hfz9_2
              try clear hfz9_3
              try clear hfz9_4
              try clear hfz9_5
              try clear hfz9_6
              try clear p2
              obtain ⟨kq, x28_10, rfl, HA, HJ10, BK152, HB⟩ := hcut
              cases kq with
              | zero => exact absurd HA.out (by simp [shamrocklaw24_small.j2])
              | succ kj10 =>
                have H := HA.out
                clear HA
                simp only [shamrocklaw24_small.j2] at H
                by_cases c15 : x28_10 = true
                · subst c15
                  have H1 : (if 0 ≤ x5_2 then (if x5_2 < (l0_6.length : Int) then (if ((rd_L2 l0_6 x5_2).length : Int) > 1000 then (some false) else (shamrocklaw24_small.l0 kj10 (wrap64 (x5_2 + 1)) a0_0 a0_1 a0_2 a0_3 a0_4 l0_5 l0_6)) else (none)) else (none)) = some r := by rw [if_pos rfl] at H; exact H
                  clear H
                  have H := H1
                  clear H1
                  by_cases c16 : 0 ≤ x5_2
                  · rw [if_pos c16] at H
                    have c16b0 : decide (0 ≤ x5_2) = true := decide_eq_true c16
                    clear c16
                    by_cases c17 : x5_2 < (l0_6.length : Int)
                    · rw [if_pos c17] at H
                      have c17b0 : decide (x5_2 < (l0_6.length : Int)) = true := decide_eq_true c17
                      clear c17
                      by_cases c18 : ((rd_L2 l0_6 x5_2).length : Int) > 1000
                      · rw [if_pos c18] at H
                        have c18b0 : decide (1000 < ((rd_L2 l0_6 x5_2).length : Int)) = true := decide_eq_true c18
                        have c18b1 : decide (1000 < (rd_L2 l0_6 x5_2).length) = true := decide_eq_true (by omega)
                        clear c18
                        obtain rfl := Option.some.inj H
                        have hcz19_0 : wc.cell? ⟨gb152, 0, none⟩ = some (.int .i64 a0_0) := (blk_cell BK152.out 0).trans rfl
                        have hcz19_1 : wc.cell? ⟨gb152, 1, none⟩ = some (.int .i64 a0_1) := (blk_cell BK152.out 1).trans rfl
                        have hcz19_2 : wc.cell? ⟨gb152, 2, none⟩ = some (.int .i64 a0_2) := (blk_cell BK152.out 2).trans rfl
                        have hcz19_3 : wc.cell? ⟨gb152, 3, none⟩ = some (.int .i64 a0_3) := (blk_cell BK152.out 3).trans rfl
                        have hcz19_4 : wc.cell? ⟨gb152, 4, none⟩ = some (.int .i64 a0_4) := (blk_cell BK152.out 4).trans rfl
                        have hcz19_5 : wc.cell? ⟨gb152, 5, none⟩ = some (.slice A0_5 l0_5.length c0_5) := (blk_cell BK152.out 5).trans rfl
                        have hcz19_6 : wc.cell? ⟨gb152, 6, none⟩ = some (.slice A0_6 l0_6.length c0_6) := (blk_cell BK152.out 6).trans rfl
                        have hfz19_0 := blk_frozen BK152.out 0
                        have hfz19_1 := blk_frozen BK152.out 1
                        have hfz19_2 := blk_frozen BK152.out 2
                        have hfz19_3 := blk_frozen BK152.out 3
                        have hfz19_4 := blk_frozen BK152.out 4
                        have hfz19_5 := blk_frozen BK152.out 5
                        have hfz19_6 := blk_frozen BK152.out 6
                        have p153 : 0 ≤ (x5_2 : Int) := of_decide_eq_true (by first | (with_reducible assumption) | assumption)
                        have q153 : x5_2 < (l0_6.length : Int) := of_decide_eq_true (by first | (with_reducible assumption) | assumption)
                        obtain ⟨ad153, A153_0, c153_0, e153, hx153_0, hl153_0, hi153_0⟩ := at_L2 HR0_6.out x5_2 p153 q153
                        cases e153
                        replace hx153_0 := (HB.out.cell (World.block_lt_of_cell? w _ hx153_0)).trans hx153_0
                        have HR153_0 := Aside0.mk hi153_0
                        have HC153_0 := Aside0.mk hl153_0
                        clear hi153_0 hl153_0
                        replace p153 := eq_true p153
                        replace q153 := eq_true q153
                        go_wp2
                        go_ret
                        exact ⟨by first | rfl | (simp [errW_none, errW_some] <;> rfl) | (simp [*, errW_none, errW_some] <;> rfl), by repeat (first | (with_reducible first | exact HB.out | apply below_alloc | apply pw_below_drewN | apply below_drew1 | refine below_set ?_ GE152.out) | exact HB.out)⟩
                      · rw [if_neg c18] at H
                        have c18b0 : decide (1000 < ((rd_L2 l0_6 x5_2).length : Int)) = false := decide_eq_false c18
                        have c18b1 : decide (1000 < (rd_L2 l0_6 x5_2).length) = false := decide_eq_false (by omega)
                        clear c18
                        have H' := Aside0.mk H
                        clear H
                        have hcz20_0 : wc.cell? ⟨gb152, 0, none⟩ = some (.int .i64 a0_0) := (blk_cell BK152.out 0).trans rfl
                        have hcz20_1 : wc.cell? ⟨gb152, 1, none⟩ = some (.int .i64 a0_1) := (blk_cell BK152.out 1).trans rfl
                        have hcz20_2 : wc.cell? ⟨gb152, 2, none⟩ = some (.int .i64 a0_2) := (blk_cell BK152.out 2).trans rfl
                        have hcz20_3 : wc.cell? ⟨gb152, 3, none⟩ = some (.int .i64 a0_3) := (blk_cell BK152.out 3).trans rfl
                        have hcz20_4 : wc.cell? ⟨gb152, 4, none⟩ = some (.int .i64 a0_4) := (blk_cell BK152.out 4).trans rfl
                        have hcz20_5 : wc.cell? ⟨gb152, 5, none⟩ = some (.slice A0_5 l0_5.length c0_5) := (blk_cell BK152.out 5).trans rfl
                        have hcz20_6 : wc.cell? ⟨gb152, 6, none⟩ = some (.slice A0_6 l0_6.length c0_6) := (blk_cell BK152.out 6).trans rfl
                        have hfz20_0 := blk_frozen BK152.out 0
                        have hfz20_1 := blk_frozen BK152.out 1
                        have hfz20_2 := blk_frozen BK152.out 2
                        have hfz20_3 := blk_frozen BK152.out 3
                        have hfz20_4 := blk_frozen BK152.out 4
                        have hfz20_5 := blk_frozen BK152.out 5
                        have hfz20_6 := blk_frozen BK152.out 6
                        have p153 : 0 ≤ (x5_2 : Int) := of_decide_eq_true (by first | (with_reducible assumption) | assumption)
                        have q153 : x5_2 < (l0_6.length : Int) := of_decide_eq_true (by first | (with_reducible assumption) | assumption)
                        obtain ⟨ad153, A153_0, c153_0, e153, hx153_0, hl153_0, hi153_0⟩ := at_L2 HR0_6.out x5_2 p153 q153
                        cases e153
                        replace hx153_0 := (HB.out.cell (World.block_lt_of_cell? w _ hx153_0)).trans hx153_0
                        have HR153_0 := Aside0.mk hi153_0
                        have HC153_0 := Aside0.mk hl153_0
                        clear hi153_0 hl153_0
                        replace p153 := eq_true p153
                        replace q153 := eq_true q153
                        go_wp2
                        go_roundg kj10
                        case measure => have := HJ2.out; have := HK2.out; have := HJ10.out; omega
                        case rel => exact ⟨(wrap64 (x5_2 + 1)), (by first | rfl | (simp; done) | (simp [*]; done)), H', ⟨by have := HJ2.out; have := HK2.out; have := HJ10.out; omega⟩, ⟨by (with_reducible repeat (first | refine blk_drewN ?_ _ | refine blk_drew ?_ | refine blk_alloc ?_ _)); exact BK152.out⟩, ⟨by repeat (first | (with_reducible first | exact HB.out | apply below_alloc | apply pw_below_drewN | apply below_drew1 | refine below_set ?_ GE152.out) | exact HB.out)⟩⟩
                    · rw [if_neg c17] at H
                      exact absurd H (by simp)
                  · rw [if_neg c16] at H
                    exact absurd H (by simp)
                · replace c15 := Bool.eq_false_iff.mpr c15
                  subst c15
                  have H1 : (some (decide ((l0_6.length : Int) ≤ 200))) = some r := by rw [if_neg (show ¬ (false = true) by decide)] at H; exact H
                  clear H
                  have H := H1
                  clear H1
                  obtain rfl := Option.some.inj H
                  have hcz21_0 : wc.cell? ⟨gb152, 0, none⟩ = some (.int .i64 a0_0) := (blk_cell BK152.out 0).trans rfl
                  have hcz21_1 : wc.cell? ⟨gb152, 1, none⟩ = some (.int .i64 a0_1) := (blk_cell BK152.out 1).trans rfl
                  have hcz21_2 : wc.cell? ⟨gb152, 2, none⟩ = some (.int .i64 a0_2) := (blk_cell BK152.out 2).trans rfl
                  have hcz21_3 : wc.cell? ⟨gb152, 3, none⟩ = some (.int .i64 a0_3) := (blk_cell BK152.out 3).trans rfl
                  have hcz21_4 : wc.cell? ⟨gb152, 4, none⟩ = some (.int .i64 a0_4) := (blk_cell BK152.out 4).trans rfl
                  have hcz21_5 : wc.cell? ⟨gb152, 5, none⟩ = some (.slice A0_5 l0_5.length c0_5) := (blk_cell BK152.out 5).trans rfl
                  have hcz21_6 : wc.cell? ⟨gb152, 6, none⟩ = some (.slice A0_6 l0_6.length c0_6) := (blk_cell BK152.out 6).trans rfl
                  have hfz21_0 := blk_frozen BK152.out 0
                  have hfz21_1 := blk_frozen BK152.out 1
                  have hfz21_2 := blk_frozen BK152.out 2
                  have hfz21_3 := blk_frozen BK152.out 3
                  have hfz21_4 := blk_frozen BK152.out 4
                  have hfz21_5 := blk_frozen BK152.out 5
                  have hfz21_6 := blk_frozen BK152.out 6
                  go_wp2
                  go_ret
                  exact ⟨by first | rfl | (simp [errW_none, errW_some] <;> rfl) | (simp [*, errW_none, errW_some] <;> rfl), by repeat (first | (with_reducible first | exact HB.out | apply below_alloc | apply pw_below_drewN | apply below_drew1 | refine below_set ?_ GE152.out) | exact HB.out)⟩
def shamrockref10_Each.j0 : Nat → Int → Bool → Int → Int → Int → Int → Int → Option (Int)
  | 0, _, _, _, _, _, _, _ => none
  | k + 1, x1, x10, x155000, x155001, x155002, x155003, x155004 => if x10 = true then (some x155001) else (if x1 = 3 then (some (wrap64 ((wrap64 (x155001 + x155002)) - 1))) else (if x1 = 4 then (some (wrap64 (x155001 + x155002))) else (some 0)))
def shamrockref10_Each.f (k : Nat) (a0_0 : Int) (a0_1 : Int) (a0_2 : Int) (a0_3 : Int) (a0_4 : Int) (a1 : Int) : Option (Int) := if a1 = 1 then (shamrockref10_Each.j0 k a1 true a0_0 a0_1 a0_2 a0_3 a0_4) else (shamrockref10_Each.j0 k a1 (a1 == 2) a0_0 a0_1 a0_2 a0_3 a0_4)
set_option maxHeartbeats 8000000 in
set_option maxRecDepth 100000 in
theorem shamrockref10_Each.calls (k : Nat) (a0_0 : Int) (a0_1 : Int) (a0_2 : Int) (a0_3 : Int) (a0_4 : Int) (a1 : Int) (r : Int) (w : World) (h : shamrockref10_Each.f k a0_0 a0_1 a0_2 a0_3 a0_4 a1 = some r) :
    Calls Try.prog 50 #[.agg #[.int .i64 a0_0, .int .i64 a0_1, .int .i64 a0_2, .int .i64 a0_3, .int .i64 a0_4], .int .i64 a1] w fun e w' => e = .returned (.int .i64 r) ∧ Below w.heap.size w w' := by
  have hu48 := Try.underlying48
  have HB := Aside0.mk (Below.refl w.heap.size w)
  have H : (if a1 = 1 then (shamrockref10_Each.j0 k a1 true a0_0 a0_1 a0_2 a0_3 a0_4) else (shamrockref10_Each.j0 k a1 (a1 == 2) a0_0 a0_1 a0_2 a0_3 a0_4)) = some r := h
  clear h
  have HC3 := Aside0.mk H
  clear H
  go_enter Try.func50, Try.ntmps50
  go_upto_region 1 with (first | ((with_reducible refine gate_dst (N := 2) rfl ?_); refine box_event ?hg (N := 2) ?hd (cs := #[.int .i64 a0_0, .int .i64 a0_1, .int .i64 a0_2, .int .i64 a0_3, .int .i64 a0_4]) (t := 48) ?hr ?_; (case hd => rfl); (case hg => rfl); (case hr => first | (go_simp; done) | (go_simp; rfl)); intro gb154 hg w4 hbox hb; have n0_ := Aside0.mk (below_step (by repeat (first | (with_reducible first | exact HB.out | apply below_alloc | apply pw_below_drewN | apply below_drew1) | exact HB.out)) hb); have n1_ := Aside0.mk (hbox); have n2_ := Aside0.mk ((by rw [hg]; exact (below_size (by repeat (first | (with_reducible first | exact HB.out | apply below_alloc | apply pw_below_drewN | apply below_drew1) | exact HB.out))) : w.heap.size ≤ gb154)); have n3_ := Aside0.mk ((by rw [hg]; exact (below_size (by repeat (first | (with_reducible first | exact HB.out | apply below_alloc | apply pw_below_drewN | apply below_drew1) | exact HB.out))) : w.heap.size ≤ gb154)); clear HB; have HB := n0_; have BK154 := n1_; have GW154 := n2_; have GE154 := n3_; clear n0_ n1_ n2_ n3_; clear hb hbox hg))
  (try simp only [Act.put, List.setIfInBounds_toArray, List.set_cons_zero, List.set_cons_succ])
  go_cut [10] (fun v10 wc => ∃ (kq : Nat) (x10_2 : Bool), v10 = .bool x10_2 ∧ Aside0 (shamrockref10_Each.j0 kq a1 x10_2 a0_0 a0_1 a0_2 a0_3 a0_4 = some r) ∧ Aside0 (kq ≤ k) ∧ Aside0 (wc.heap[gb154]? = some (.cells #[.int .i64 a0_0, .int .i64 a0_1, .int .i64 a0_2, .int .i64 a0_3, .int .i64 a0_4] 48 (0, 0))) ∧ Aside0 (Below w.heap.size w wc))
  case first =>
    have H := HC3.out
    clear HC3
    by_cases c5 : a1 = 1
    · rw [if_pos c5] at H
      have c5b0 : (a1 == 1) = true := beq_iff_eq.mpr c5
      have c5b1 : (a1 != 1) = false := bne_eq_false_iff_eq.mpr c5
      clear c5
      (first | rw [c5b0] | (simp only [i64_w, i32_w]; rw [c5b0]) | skip)
      have H' := Aside0.mk H
      clear H
      go_wp2
      go_meet
      case rel => exact ⟨_, (true), (by first | rfl | (simp; done) | (simp [*]; done)), H', ⟨by first | omega | exact Nat.le_refl _⟩, ⟨by (with_reducible repeat (first | refine blk_drewN ?_ _ | refine blk_drew ?_ | refine blk_alloc ?_ _)); exact BK154.out⟩, ⟨by repeat (first | (with_reducible first | exact HB.out | apply below_alloc | apply pw_below_drewN | apply below_drew1 | refine below_set ?_ GE154.out) | exact HB.out)⟩⟩
    · rw [if_neg c5] at H
      have c5b0 : (a1 == 1) = false := beq_eq_false_iff_ne.mpr c5
      have c5b1 : (a1 != 1) = true := bne_iff_ne.mpr c5
      (first | rw [c5b0] | (simp only [i64_w, i32_w]; rw [c5b0]) | skip)
      have H' := Aside0.mk H
      clear H
      go_wp2
      go_meet
      case rel => exact ⟨_, ((a1 == 2)), (by first | rfl | (simp; done) | (simp [*]; done)), H', ⟨by first | omega | exact Nat.le_refl _⟩, ⟨by (with_reducible repeat (first | refine blk_drewN ?_ _ | refine blk_drew ?_ | refine blk_alloc ?_ _)); exact BK154.out⟩, ⟨by repeat (first | (with_reducible first | exact HB.out | apply below_alloc | apply pw_below_drewN | apply below_drew1 | refine below_set ?_ GE154.out) | exact HB.out)⟩⟩
  case rest =>
    clear HC3
    try clear p2
    try clear c5
    try clear c5b0
    try clear c5b1
    obtain ⟨kq, x10_2, rfl, HA, HJ2, BK154, HB⟩ := hcut
    cases kq with
    | zero => exact absurd HA.out (by simp [shamrockref10_Each.j0])
    | succ kj2 =>
      have H := HA.out
      clear HA
      simp only [shamrockref10_Each.j0] at H
      by_cases c6 : x10_2 = true
      · subst c6
        have H1 : (some a0_1) = some r := by rw [if_pos rfl] at H; exact H
        clear H
        have H := H1
        clear H1
        obtain rfl := Option.some.inj H
        have hcz7_0 : wc.cell? ⟨gb154, 0, none⟩ = some (.int .i64 a0_0) := (blk_cell BK154.out 0).trans rfl
        have hcz7_1 : wc.cell? ⟨gb154, 1, none⟩ = some (.int .i64 a0_1) := (blk_cell BK154.out 1).trans rfl
        have hcz7_2 : wc.cell? ⟨gb154, 2, none⟩ = some (.int .i64 a0_2) := (blk_cell BK154.out 2).trans rfl
        have hcz7_3 : wc.cell? ⟨gb154, 3, none⟩ = some (.int .i64 a0_3) := (blk_cell BK154.out 3).trans rfl
        have hcz7_4 : wc.cell? ⟨gb154, 4, none⟩ = some (.int .i64 a0_4) := (blk_cell BK154.out 4).trans rfl
        have hfz7_0 := blk_frozen BK154.out 0
        have hfz7_1 := blk_frozen BK154.out 1
        have hfz7_2 := blk_frozen BK154.out 2
        have hfz7_3 := blk_frozen BK154.out 3
        have hfz7_4 := blk_frozen BK154.out 4
        go_wp2
        go_ret
        exact ⟨by first | rfl | (simp [errW_none, errW_some] <;> rfl) | (simp [*, errW_none, errW_some] <;> rfl), by repeat (first | (with_reducible first | exact HB.out | apply below_alloc | apply pw_below_drewN | apply below_drew1 | refine below_set ?_ GE154.out) | exact HB.out)⟩
      · replace c6 := Bool.eq_false_iff.mpr c6
        subst c6
        have H1 : (if a1 = 3 then (some (wrap64 ((wrap64 (a0_1 + a0_2)) - 1))) else (if a1 = 4 then (some (wrap64 (a0_1 + a0_2))) else (some 0))) = some r := by rw [if_neg (show ¬ (false = true) by decide)] at H; exact H
        clear H
        have H := H1
        clear H1
        by_cases c8 : a1 = 3
        · rw [if_pos c8] at H
          have c8b0 : (a1 == 3) = true := beq_iff_eq.mpr c8
          have c8b1 : (a1 != 3) = false := bne_eq_false_iff_eq.mpr c8
          clear c8
          obtain rfl := Option.some.inj H
          have hcz9_0 : wc.cell? ⟨gb154, 0, none⟩ = some (.int .i64 a0_0) := (blk_cell BK154.out 0).trans rfl
          have hcz9_1 : wc.cell? ⟨gb154, 1, none⟩ = some (.int .i64 a0_1) := (blk_cell BK154.out 1).trans rfl
          have hcz9_2 : wc.cell? ⟨gb154, 2, none⟩ = some (.int .i64 a0_2) := (blk_cell BK154.out 2).trans rfl
          have hcz9_3 : wc.cell? ⟨gb154, 3, none⟩ = some (.int .i64 a0_3) := (blk_cell BK154.out 3).trans rfl
          have hcz9_4 : wc.cell? ⟨gb154, 4, none⟩ = some (.int .i64 a0_4) := (blk_cell BK154.out 4).trans rfl
          have hfz9_0 := blk_frozen BK154.out 0
          have hfz9_1 := blk_frozen BK154.out 1
          have hfz9_2 := blk_frozen BK154.out 2
          have hfz9_3 := blk_frozen BK154.out 3
          have hfz9_4 := blk_frozen BK154.out 4
          go_wp2
          go_ret
          exact ⟨by first | rfl | (simp [errW_none, errW_some] <;> rfl) | (simp [*, errW_none, errW_some] <;> rfl), by repeat (first | (with_reducible first | exact HB.out | apply below_alloc | apply pw_below_drewN | apply below_drew1 | refine below_set ?_ GE154.out) | exact HB.out)⟩
        · rw [if_neg c8] at H
          have c8b0 : (a1 == 3) = false := beq_eq_false_iff_ne.mpr c8
          have c8b1 : (a1 != 3) = true := bne_iff_ne.mpr c8
          by_cases c10 : a1 = 4
          · rw [if_pos c10] at H
            have c10b0 : (a1 == 4) = true := beq_iff_eq.mpr c10
            have c10b1 : (a1 != 4) = false := bne_eq_false_iff_eq.mpr c10
            clear c10
            obtain rfl := Option.some.inj H
            have hcz11_0 : wc.cell? ⟨gb154, 0, none⟩ = some (.int .i64 a0_0) := (blk_cell BK154.out 0).trans rfl
            have hcz11_1 : wc.cell? ⟨gb154, 1, none⟩ = some (.int .i64 a0_1) := (blk_cell BK154.out 1).trans rfl
            have hcz11_2 : wc.cell? ⟨gb154, 2, none⟩ = some (.int .i64 a0_2) := (blk_cell BK154.out 2).trans rfl
            have hcz11_3 : wc.cell? ⟨gb154, 3, none⟩ = some (.int .i64 a0_3) := (blk_cell BK154.out 3).trans rfl
            have hcz11_4 : wc.cell? ⟨gb154, 4, none⟩ = some (.int .i64 a0_4) := (blk_cell BK154.out 4).trans rfl
            have hfz11_0 := blk_frozen BK154.out 0
            have hfz11_1 := blk_frozen BK154.out 1
            have hfz11_2 := blk_frozen BK154.out 2
            have hfz11_3 := blk_frozen BK154.out 3
            have hfz11_4 := blk_frozen BK154.out 4
            go_wp2
            go_ret
            exact ⟨by first | rfl | (simp [errW_none, errW_some] <;> rfl) | (simp [*, errW_none, errW_some] <;> rfl), by repeat (first | (with_reducible first | exact HB.out | apply below_alloc | apply pw_below_drewN | apply below_drew1 | refine below_set ?_ GE154.out) | exact HB.out)⟩
          · rw [if_neg c10] at H
            have c10b0 : (a1 == 4) = false := beq_eq_false_iff_ne.mpr c10
            have c10b1 : (a1 != 4) = true := bne_iff_ne.mpr c10
            obtain rfl := Option.some.inj H
            go_wp2
            go_ret
            exact ⟨by first | rfl | (simp [errW_none, errW_some] <;> rfl) | (simp [*, errW_none, errW_some] <;> rfl), by repeat (first | (with_reducible first | exact HB.out | apply below_alloc | apply pw_below_drewN | apply below_drew1 | refine below_set ?_ GE154.out) | exact HB.out)⟩
end Go.Proofs.Ytpeiejkcoadhfaa.PViewEmpty
