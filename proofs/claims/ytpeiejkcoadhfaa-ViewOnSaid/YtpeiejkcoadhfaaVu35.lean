/- What the view's laws take, Vu35: VwAQ. -/
import Derived.Test.YtpeiejkcoadhfaaVu22
import Derived.Test.YtpeiejkcoadhfaaVu34
set_option linter.all false
namespace Go.Proofs.Ytpeiejkcoadhfaa.PViewEmpty
open Go.RowKit Go.Proofs.YtpeiejkcoadhfaaW.PrintWords Go.Proofs.YtpeiejkcoadhfaaW.PrintLast Go.Proofs.YtpeiejkcoadhfaaW.PrintMore
attribute [local go_sem] jt jk Zd jM yW jb jv jA
set_option linter.unusedVariables false
set_option linter.unusedSimpArgs false
def shamrockref10_Columns.f (a0 : Int) (a1 : Int) : Option (Int) := if a1 = 0 then (none) else (some (wrap64 (Int.tdiv (wrap64 ((wrap64 (a0 + a1)) - 1)) a1)))
set_option maxHeartbeats 8000000 in
set_option maxRecDepth 100000 in
theorem shamrockref10_Columns.calls (a0 : Int) (a1 : Int) (r : Int) (w : World) (h : shamrockref10_Columns.f a0 a1 = some r) :
 Calls Try.prog 104 #[.int .i64 a0, .int .i64 a1] w fun e w' => e = .returned (.int .i64 r) ∧ zq w w' := by
 have H : (if a1 = 0 then (none) else (some (wrap64 (Int.tdiv (wrap64 ((wrap64 (a0 + a1)) - 1)) a1)))) = some r := h
 clear h
 by_cases c3 : a1 = 0
 ·rw [if_pos c3] at H
  exact absurd H (by simp)
 rw [if_neg c3] at H
 have c3b0 : (a1 == 0) = false := beq_eq_false_iff_ne.mpr c3
 have c3b1 : (a1 != 0) = true := bne_iff_ne.mpr c3
 obtain rfl := Option.some.inj H
 go_enter Try.func104, Try.ntmps104
 go_wp2
 go_ret
 exact ⟨by first | rfl | (simp; done) | (simp [*]; done), by repeat (first | exact zq.refl _ | apply zq.step)⟩
mutual
def shamrockref24_Tapes.l0 : Nat → List (S90) → Int → List Int → Int → Int → Int → Int → Int → Int → Option (List Int)
 | 0, _, _, _, _, _, _, _, _, _ => none
 | k + 1, x2, x7, x8, x9, x192000, x192001, x192002, x192003, x192004 => if x9 < (x2.length : Int) then (shamrockref24_Tapes.l1 k x2 x7 x8 x9 0 x192000 x192001 x192002 x192003 x192004) else (some x8)
def shamrockref24_Tapes.l1 : Nat → List (S90) → Int → List Int → Int → Int → Int → Int → Int → Int → Int → Option (List Int)
 | 0, _, _, _, _, _, _, _, _, _, _ => none
 | k + 1, x2, x7, x8, x9, x10, x192000, x192001, x192002, x192003, x192004 => if 0 ≤ x9 then (if x9 < (x2.length : Int) then (if x10 < (((yG x2 x9).f2).length : Int) then ((shamrockref10_Each.f k x192000 x192001 x192002 x192003 x192004 ((yG x2 x9).f0)).bind fun t199 => (if x8.length < 17592186044416 then (shamrockref24_Tapes.l1 k x2 x7 (x8 ++ [wrap64 (t199 * x7)]) x9 (wrap64 (x10 + 1)) x192000 x192001 x192002 x192003 x192004) else (none))) else (shamrockref24_Tapes.l0 k x2 x7 x8 (wrap64 (x9 + 1)) x192000 x192001 x192002 x192003 x192004)) else (none)) else (none)
end
def shamrockref24_Tapes.f (k : Nat) (a0_0 : Int) (a0_1 : Int) (a0_2 : Int) (a0_3 : Int) (a0_4 : Int) (a1 : Int) (l2 : List (S90)) : Option (List Int) := (shamrockref24_May.f k a0_0 a0_1 a0_2 a0_3 a0_4 a1 l2).bind fun t192 => (if t192 = true then ((shamrockref10_Columns.f a1 a0_2).bind fun t193 => (shamrockref24_Tapes.l0 k l2 t193 (([wrap64 (a0_1 * t193)] : List Int)) 0 a0_0 a0_1 a0_2 a0_3 a0_4)) else (some ([] : List Int)))
def shamrockref24_Tapes.T11 : Bool × List (List Nat × List Nat) := (true, [([], []), ([], []), ([], []), ([], []), ([2, 3], [2, 3]), ([4], [4]), ([5], [5]), ([1, 6], [1, 6]), ([], []), ([7, 8], [7, 8]), ([9], [9]), ([0, 10, 7], [0, 10]), ([11, 11, 0, 1, 2, 3, 4, 5, 6, 7, 8, 9, 10, 11], [0, 11])])
def shamrockref24_Tapes.B11 : List Nat := [0, 0, 0, 0, 12, 28, 60, 126, 0, 510, 1022, 2047, 4095]
theorem shamrockref24_Tapes.tab11 : Jv .any (zpG Try.f69 11) = shamrockref24_Tapes.T11 := by kernel_rfl
theorem shamrockref24_Tapes.bits11 : zbG shamrockref24_Tapes.T11.2 shamrockref24_Tapes.B11 = true := by kernel_rfl
set_option maxHeartbeats 8000000 in
set_option maxRecDepth 100000 in
theorem shamrockref24_Tapes.calls (k : Nat) (a0_0 : Int) (a0_1 : Int) (a0_2 : Int) (a0_3 : Int) (a0_4 : Int) (a1 : Int) (A2 : Option Addr) (c2 : Nat) (l2 : List (S90)) (r : List Int) (w : World) (hr2 : Kd.C k90 w A2 l2.length l2) (hc2 : l2.length ≤ c2) (h : shamrockref24_Tapes.f k a0_0 a0_1 a0_2 a0_3 a0_4 a1 l2 = some r) :
 Calls Try.prog 69 #[.agg #[.int .i64 a0_0, .int .i64 a0_1, .int .i64 a0_2, .int .i64 a0_3, .int .i64 a0_4], .int .i64 a1, .slice A2 l2.length c2] w fun e w' => ∃ v0_ : Value, e = .returned (v0_) ∧ Kd.R (Kd.int .i64) 3 w' w.heap.size (fun _ => True) v0_ r ∧ Below w.heap.size w w' := by
 have hu48 := Try.underlying48
 have HR2 := za.mk hr2
 have HC2 := za.mk hc2
 clear hr2 hc2
 have HB := za.mk (Below.refl w.heap.size w)
 have H : ((shamrockref24_May.f k a0_0 a0_1 a0_2 a0_3 a0_4 a1 l2).bind fun t192 => (if t192 = true then ((shamrockref10_Columns.f a1 a0_2).bind fun t193 => (shamrockref24_Tapes.l0 k l2 t193 (([wrap64 (a0_1 * t193)] : List Int)) 0 a0_0 a0_1 a0_2 a0_3 a0_4)) else (some ([] : List Int)))) = some r := h
 clear h
 replace H := Option.bind_eq_some_iff.mp H
 obtain ⟨t192, A40, H⟩ := H
 replace H : (if t192 = true then ((shamrockref10_Columns.f a1 a0_2).bind fun t193 => (shamrockref24_Tapes.l0 k l2 t193 (([wrap64 (a0_1 * t193)] : List Int)) 0 a0_0 a0_1 a0_2 a0_3 a0_4)) else (some ([] : List Int))) = some r := H
 have A4 := za.mk A40
 clear A40
 by_cases c5 : t192 = true
 ·subst c5
  have H1 : ((shamrockref10_Columns.f a1 a0_2).bind fun t193 => (shamrockref24_Tapes.l0 k l2 t193 (([wrap64 (a0_1 * t193)] : List Int)) 0 a0_0 a0_1 a0_2 a0_3 a0_4)) = some r := by rw [if_pos rfl] at H; exact H
  clear H
  have H := H1
  clear H1
  replace H := Option.bind_eq_some_iff.mp H
  obtain ⟨t193, A60, H⟩ := H
  replace H : (shamrockref24_Tapes.l0 k l2 t193 (([wrap64 (a0_1 * t193)] : List Int)) 0 a0_0 a0_1 a0_2 a0_3 a0_4) = some r := H
  have A6 := za.mk A60
  clear A60
  obtain ⟨y194, hy194⟩ : ∃ y_ : List Int, y_ = (([wrap64 (a0_1 * t193)] : List Int)) := ⟨_, rfl⟩
  replace H : (shamrockref24_Tapes.l0 k l2 t193 y194 0 a0_0 a0_1 a0_2 a0_3 a0_4) = some r := by first | (rw [hy194]; with_reducible exact H) | (have H2_ := (Option.bind_some _ _).symm.trans H; rw [hy194]; with_reducible exact H2_) | (have H2_ := (Option.bind_some _ _).symm.trans H; with_reducible exact H2_) | with_reducible exact H | (rw [hy194]; exact H) | exact H
  have Ny194 := za.mk hy194
  clear hy194
  have H' := za.mk H
  clear H
  go_enter Try.func69, Try.ntmps69
  go_wp2_with (first | ((with_reducible refine zT (N := 3) rfl ?_); refine zP ?hg (N := 3) ?hd (cs := #[.int .i64 a0_0, .int .i64 a0_1, .int .i64 a0_2, .int .i64 a0_3, .int .i64 a0_4]) (t := 48) ?hr ?_; (case hd => rfl); (case hg => rfl); (case hr => first | (go_simp; done) | (go_simp; rfl)); intro gb191 hg w7 hbox hb; have n0_ := za.mk (zu (by repeat (first | (with_reducible first | exact HB.out | apply zc | apply zb | apply zg) | exact HB.out)) hb); have n1_ := za.mk (hbox); have n2_ := za.mk ((by rw [hg]; exact (zr (by repeat (first | (with_reducible first | exact HB.out | apply zc | apply zb | apply zg) | exact HB.out))) : w.heap.size ≤ gb191)); have n3_ := za.mk ((by rw [hg]; exact (zr (by repeat (first | (with_reducible first | exact HB.out | apply zc | apply zb | apply zg) | exact HB.out))) : w.heap.size ≤ gb191)); clear HB; have HB := n0_; have BK191 := n1_; have GW191 := n2_; have GE191 := n3_; clear n0_ n1_ n2_ n3_; clear hb hbox hg; have hcz8_0 : w7.cell? ⟨gb191, 0, none⟩ = some (.int .i64 a0_0) := (zi BK191.out 0).trans rfl; have hcz8_1 : w7.cell? ⟨gb191, 1, none⟩ = some (.int .i64 a0_1) := (zi BK191.out 1).trans rfl; have hcz8_2 : w7.cell? ⟨gb191, 2, none⟩ = some (.int .i64 a0_2) := (zi BK191.out 2).trans rfl; have hcz8_3 : w7.cell? ⟨gb191, 3, none⟩ = some (.int .i64 a0_3) := (zi BK191.out 3).trans rfl; have hcz8_4 : w7.cell? ⟨gb191, 4, none⟩ = some (.int .i64 a0_4) := (zi BK191.out 4).trans rfl; have hfz8_0 := ze BK191.out 0; have hfz8_1 := ze BK191.out 1; have hfz8_2 := ze BK191.out 2; have hfz8_3 := ze BK191.out 3; have hfz8_4 := ze BK191.out 4) | ((with_reducible refine jR (f := 66) rfl ?_); refine zcq (some 14) rfl rfl Try.func66 (by kernel_rfl) rfl #[.agg #[.int .i64 a0_0, .int .i64 a0_1, .int .i64 a0_2, .int .i64 a0_3, .int .i64 a0_4], .int .i64 a1, .slice A2 l2.length c2] rfl (by (try simp only [List.map_toArray, List.map_cons, List.map_nil]); first | done | rfl | (simp only [List.length_drop, List.length_take]; rfl)) ?_; (with_reducible refine (shamrockref24_May.calls k a0_0 a0_1 a0_2 a0_3 a0_4 a1 _ _ l2 true _ ?side1 ?side2 A4.out).mono ?_); (case side1 => repeat (first | exact (Kd.C_below HR2.out HB.out) | (with_reducible refine Kd.C_alloc ?_ _) | (with_reducible refine Kd.C_drewN ?_ _) | (with_reducible refine Kd.C_drew ?_))); (case side2 => exact HC2.out); rintro e w9 ⟨rfl, hb⟩; refine ⟨_, rfl, ?_⟩; have n0_ := za.mk (zl (g := gb191) (o := .cells #[.int .i64 a0_0, .int .i64 a0_1, .int .i64 a0_2, .int .i64 a0_3, .int .i64 a0_4] 48 (0, 0)) (by (with_reducible repeat (first | refine zC ?_ _ | refine zL ?_ | refine zt ?_ _)); exact BK191.out) hb); have n1_ := za.mk (zu (by repeat (first | (with_reducible first | exact HB.out | apply zc | apply zb | apply zg | refine zn ?_ GE191.out) | exact HB.out)) hb); clear BK191; clear HB; have BK191 := n0_; have HB := n1_; clear n0_ n1_; (try clear hb); (try clear hb2); (try clear hk); (try clear hi); have hcz10_0 : w9.cell? ⟨gb191, 0, none⟩ = some (.int .i64 a0_0) := (zi BK191.out 0).trans rfl; have hcz10_1 : w9.cell? ⟨gb191, 1, none⟩ = some (.int .i64 a0_1) := (zi BK191.out 1).trans rfl; have hcz10_2 : w9.cell? ⟨gb191, 2, none⟩ = some (.int .i64 a0_2) := (zi BK191.out 2).trans rfl; have hcz10_3 : w9.cell? ⟨gb191, 3, none⟩ = some (.int .i64 a0_3) := (zi BK191.out 3).trans rfl; have hcz10_4 : w9.cell? ⟨gb191, 4, none⟩ = some (.int .i64 a0_4) := (zi BK191.out 4).trans rfl; have hfz10_0 := ze BK191.out 0; have hfz10_1 := ze BK191.out 1; have hfz10_2 := ze BK191.out 2; have hfz10_3 := ze BK191.out 3; have hfz10_4 := ze BK191.out 4) | ((with_reducible refine jR (f := 104) rfl ?_); refine zcq (some 19) rfl rfl Try.func104 (by kernel_rfl) rfl #[.int .i64 a1, .int .i64 a0_2] rfl (by (try simp only [List.map_toArray, List.map_cons, List.map_nil]); first | done | rfl | (simp only [List.length_drop, List.length_take]; rfl)) ?_; (with_reducible refine (shamrockref10_Columns.calls a1 a0_2 t193 _ A6.out).mono ?_); rintro e w' ⟨rfl, ⟨nd, rfl⟩⟩; refine ⟨_, rfl, ?_⟩) | ((with_reducible refine zT (N := 24) rfl ?_); refine Kd.R_lit (Kd.int .i64) _ 3 ?hg (N := 24) ?hd (xs := ([wrap64 (a0_1 * t193)] : List Int)) (inner := [.int .i64 (wrap64 (a0_1 * t193))]) (ok := fun _ => True) (okp := fun _ => True) ?hr ?hp (fun _ hk => hk) trivial (Below.refl _ _) (Nat.le_refl _) (by simp) ?_; (case hd => rfl); (case hg => rfl); (case hr => first | (go_simp; done) | (go_simp; rfl)); (case hp => exact (Zo.one (show Kd.M (Kd.int .i64) _ _ _ (wrap64 (a0_1 * t193)) [.int .i64 (wrap64 (a0_1 * t193))] from rfl) (Zo.none _ _))); intro v195 w11 ho12 hb hg_ hnew_; clear hg_ hnew_; (first | rw [← Ny194.out] at ho12 | (simp only [Int.reduceToNat] at ho12; rw [← Ny194.out] at ho12)); have n0_ := za.mk (Kd.R_lower ho12 (zr (by repeat (first | (with_reducible first | exact HB.out | apply zc | apply zb | apply zg | refine zn ?_ GE191.out) | exact HB.out)))); have n1_ := za.mk (zl (g := gb191) (o := .cells #[.int .i64 a0_0, .int .i64 a0_1, .int .i64 a0_2, .int .i64 a0_3, .int .i64 a0_4] 48 (0, 0)) (by (with_reducible repeat (first | refine zC ?_ _ | refine zL ?_ | refine zt ?_ _)); exact BK191.out) hb); have n2_ := za.mk (zu (by repeat (first | (with_reducible first | exact HB.out | apply zc | apply zb | apply zg | refine zn ?_ GE191.out) | exact HB.out)) hb); clear BK191; clear HB; have HO196 := n0_; have BK191 := n1_; have HB := n2_; clear n0_ n1_ n2_; clear hb ho12))
  go_loopg [8, 9] k (fun kq v8 v9 w' => ∃ (x8_1 : List Int) (x9_1 : Int), v9 = .int .i64 x9_1 ∧ za (shamrockref24_Tapes.l0 kq l2 t193 x8_1 x9_1 a0_0 a0_1 a0_2 a0_3 a0_4 = some r) ∧ za (kq ≤ k) ∧ za (Kd.R (Kd.int .i64) 3 w' w.heap.size (fun _ => True) v8 x8_1) ∧ za (w'.heap[gb191]? = some (.cells #[.int .i64 a0_0, .int .i64 a0_1, .int .i64 a0_2, .int .i64 a0_3, .int .i64 a0_4] 48 (0, 0))) ∧ za (Below w.heap.size w w'))
  case atStart => exact ⟨(y194), (0), (by first | rfl | (simp; done) | (simp [*]; done)), H', ⟨Nat.le_refl _⟩, ⟨by (with_reducible repeat (first | apply Kd.R_alloc | apply Kd.R_drewN | apply Kd.R_drew)); exact HO196.out⟩, ⟨by (with_reducible repeat (first | refine zC ?_ _ | refine zL ?_ | refine zt ?_ _)); exact BK191.out⟩, ⟨by repeat (first | (with_reducible first | exact HB.out | apply zc | apply zb | apply zg | refine zn ?_ GE191.out) | exact HB.out)⟩⟩
  clear H'
  try clear c1
  try clear c2
  try clear p2
  try clear c5
  try clear c6
  try clear p6
  try clear c10
  try clear hcz10_0
  try clear hcz10_1
  try clear hcz10_2
  try clear hcz10_3
  try clear hcz10_4
  try clear hcz8_0
  try clear hcz8_1
  try clear hcz8_2
  try clear hcz8_3
  try clear hcz8_4
  try clear hfz10_0
  try clear hfz10_1
  try clear hfz10_2
  try clear hfz10_3
  try clear hfz10_4
  try clear hfz8_0
  try clear hfz8_1
  try clear hfz8_2
  try clear hfz8_3
  try clear hfz8_4
  obtain ⟨x8_1, x9_1, rfl, HA, HK1, HO_8, BK191, HB⟩ := hrel
  cases gk with
  | zero => exact absurd HA.out (by simp [shamrockref24_Tapes.l0])
  | succ k1 =>
    have H := HA.out
    clear HA
    simp only [shamrockref24_Tapes.l0] at H
    by_cases c13 : x9_1 < (l2.length : Int)
    ·rw [if_pos c13] at H
     have c13b0 : decide (x9_1 < (l2.length : Int)) = true := decide_eq_true c13
     clear c13
     have H' := za.mk H
     clear H
     go_wp2
     go_loopg [8, 10] k1 (fun kq v8 v10 w' => ∃ (x8_2 : List Int) (x10_2 : Int), v10 = .int .i64 x10_2 ∧ za (shamrockref24_Tapes.l1 kq l2 t193 x8_2 x9_1 x10_2 a0_0 a0_1 a0_2 a0_3 a0_4 = some r) ∧ za (kq ≤ k1) ∧ za (Kd.R (Kd.int .i64) 3 w' w.heap.size (fun _ => True) v8 x8_2) ∧ za (w'.heap[gb191]? = some (.cells #[.int .i64 a0_0, .int .i64 a0_1, .int .i64 a0_2, .int .i64 a0_3, .int .i64 a0_4] 48 (0, 0))) ∧ za (Below w.heap.size w w'))
     case atStart => exact ⟨(x8_1), (0), (by first | rfl | (simp; done) | (simp [*]; done)), H', ⟨Nat.le_refl _⟩, ⟨by (with_reducible repeat (first | apply Kd.R_alloc | apply Kd.R_drewN | apply Kd.R_drew)); exact HO_8.out⟩, ⟨by (with_reducible repeat (first | refine zC ?_ _ | refine zL ?_ | refine zt ?_ _)); exact BK191.out⟩, ⟨by repeat (first | (with_reducible first | exact HB.out | apply zc | apply zb | apply zg | refine zn ?_ GE191.out) | exact HB.out)⟩⟩
     clear H'
     try clear c1
     try clear c2
     try clear p2
     try clear c5
     try clear c6
     try clear p6
     try clear c10
     try clear c13
     try clear c13b0
     try clear hcz10_0
     try clear hcz10_1
     try clear hcz10_2
     try clear hcz10_3
     try clear hcz10_4
     try clear hcz8_0
     try clear hcz8_1
     try clear hcz8_2
     try clear hcz8_3
     try clear hcz8_4
     try clear hfz10_0
     try clear hfz10_1
     try clear hfz10_2
     try clear hfz10_3
     try clear hfz10_4
     try clear hfz8_0
     try clear hfz8_1
     try clear hfz8_2
     try clear hfz8_3
     try clear hfz8_4
     try clear p2
     try clear p6
     obtain ⟨x8_2, x10_2, rfl, HA, HK2, HO_8, BK191, HB⟩ := hrel
     cases gk with
     | zero => exact absurd HA.out (by simp [shamrockref24_Tapes.l1])
     | succ k2 =>
       have H := HA.out
       clear HA
       simp only [shamrockref24_Tapes.l1] at H
       by_cases c14 : 0 ≤ x9_1
       ·rw [if_pos c14] at H
        have c14b0 : decide (0 ≤ x9_1) = true := decide_eq_true c14
        clear c14
        by_cases c15 : x9_1 < (l2.length : Int)
        ·rw [if_pos c15] at H
         have c15b0 : decide (x9_1 < (l2.length : Int)) = true := decide_eq_true c15
         clear c15
         by_cases c16 : x10_2 < (((yG l2 x9_1).f2).length : Int)
         ·rw [if_pos c16] at H
          have c16b0 : decide (x10_2 < (((yG l2 x9_1).f2).length : Int)) = true := decide_eq_true c16
          clear c16
          replace H := Option.bind_eq_some_iff.mp H
          obtain ⟨t199, A170, H⟩ := H
          replace H : (if x8_2.length < 17592186044416 then (shamrockref24_Tapes.l1 k2 l2 t193 (x8_2 ++ [wrap64 (t199 * t193)]) x9_1 (wrap64 (x10_2 + 1)) a0_0 a0_1 a0_2 a0_3 a0_4) else (none)) = some r := H
          have A17 := za.mk A170
          clear A170
          by_cases c18 : x8_2.length < 17592186044416
          ·rw [if_pos c18] at H
           have LMc18 := za.mk c18
           clear c18
           obtain ⟨y200, hy200⟩ : ∃ y_ : List Int, y_ = (x8_2 ++ [wrap64 (t199 * t193)]) := ⟨_, rfl⟩
           replace H : (shamrockref24_Tapes.l1 k2 l2 t193 y200 x9_1 (wrap64 (x10_2 + 1)) a0_0 a0_1 a0_2 a0_3 a0_4) = some r := by first | (rw [hy200]; with_reducible exact H) | (have H2_ := (Option.bind_some _ _).symm.trans H; rw [hy200]; with_reducible exact H2_) | (have H2_ := (Option.bind_some _ _).symm.trans H; with_reducible exact H2_) | with_reducible exact H | (rw [hy200]; exact H) | exact H
           have Ny200 := za.mk hy200
           clear hy200
           have H' := za.mk H
           clear H
           have p197 : 0 ≤ (x9_1 : Int) := of_decide_eq_true (by first | (with_reducible assumption) | assumption)
           have q197 : x9_1 < (l2.length : Int) := of_decide_eq_true (by first | (with_reducible assumption) | assumption)
           obtain ⟨ad197, A197_2, c197_2, A197_3, c197_3, e197, hx197_0, hx197_1, hx197_2, hx197_3, hl197_2, hi197_2, hl197_3, hi197_3⟩ := zfN HR2.out x9_1 p197 q197
           cases e197
           replace hx197_0 := (HB.out.cell (World.block_lt_of_cell? w _ hx197_0)).trans hx197_0
           replace hx197_1 := (HB.out.cell (World.block_lt_of_cell? w _ hx197_1)).trans hx197_1
           replace hx197_2 := (HB.out.cell (World.block_lt_of_cell? w _ hx197_2)).trans hx197_2
           replace hx197_3 := (HB.out.cell (World.block_lt_of_cell? w _ hx197_3)).trans hx197_3
           have HR197_2 := za.mk hi197_2
           have HC197_2 := za.mk hl197_2
           clear hi197_2 hl197_2
           have HR197_3 := za.mk hi197_3
           have HC197_3 := za.mk hl197_3
           clear hi197_3 hl197_3
           replace p197 := eq_true p197
           replace q197 := eq_true q197
           try go_wp2
           have n0_ := za.mk (Kd.R_drew HO_8.out)
           have n1_ := za.mk (zL BK191.out)
           have n2_ := za.mk (zg HB.out)
           clear HO_8
           clear BK191
           clear HB
           have HO_8 := n0_
           have BK191 := n1_
           have HB := n2_
           clear n0_ n1_ n2_
           have p198 : 0 ≤ (x9_1 : Int) := of_decide_eq_true (by first | (with_reducible assumption) | assumption)
           have q198 : x9_1 < (l2.length : Int) := of_decide_eq_true (by first | (with_reducible assumption) | assumption)
           obtain ⟨ad198, A198_2, c198_2, A198_3, c198_3, e198, hx198_0, hx198_1, hx198_2, hx198_3, hl198_2, hi198_2, hl198_3, hi198_3⟩ := zfN HR2.out x9_1 p198 q198
           have hw198_3 := hx198_3
           have hw198_2 := hx198_2
           have hw198_1 := hx198_1
           have hw198_0 := hx198_0
           obtain rfl : ad197 = ad198 := (by injection e198)
           replace hx198_0 := (HB.out.cell (World.block_lt_of_cell? w _ hx198_0)).trans hx198_0
           replace hx198_1 := (HB.out.cell (World.block_lt_of_cell? w _ hx198_1)).trans hx198_1
           replace hx198_2 := (HB.out.cell (World.block_lt_of_cell? w _ hx198_2)).trans hx198_2
           replace hx198_3 := (HB.out.cell (World.block_lt_of_cell? w _ hx198_3)).trans hx198_3
           have HR198_2 := za.mk hi198_2
           have HC198_2 := za.mk hl198_2
           clear hi198_2 hl198_2
           have HR198_3 := za.mk hi198_3
           have HC198_3 := za.mk hl198_3
           clear hi198_3 hl198_3
           replace p198 := eq_true p198
           replace q198 := eq_true q198
           refine zpg (n := 13) (S := fun w' => w'.cell? ⟨gb191, 0, none⟩ = some (.int .i64 a0_0) ∧ w'.cell? ⟨gb191, 1, none⟩ = some (.int .i64 a0_1) ∧ w'.cell? ⟨gb191, 2, none⟩ = some (.int .i64 a0_2) ∧ w'.cell? ⟨gb191, 3, none⟩ = some (.int .i64 a0_3) ∧ w'.cell? ⟨gb191, 4, none⟩ = some (.int .i64 a0_4) ∧ w'.cell? (ad197.add ((x9_1).toNat * 4)) = some (.int .i64 ((yG l2 x9_1).f0)) ∧ w'.cell? ⟨(ad197.add ((x9_1).toNat * 4)).block, (ad197.add ((x9_1).toNat * 4)).off + 1, none⟩ = some (.int .i64 ((yG l2 x9_1).f1)) ∧ w'.cell? ⟨(ad197.add ((x9_1).toNat * 4)).block, (ad197.add ((x9_1).toNat * 4)).off + 2, none⟩ = some (.slice A198_2 ((yG l2 x9_1).f2).length c198_2) ∧ w'.cell? ⟨(ad197.add ((x9_1).toNat * 4)).block, (ad197.add ((x9_1).toNat * 4)).off + 3, none⟩ = some (.slice A198_3 ((yG l2 x9_1).f3).length c198_3)) (ds := []) #[false, false, false, false, false, false, false, false, false, false, false, false, false] (by kernel_rfl) rfl rfl ⟨(zi BK191.out 0).trans rfl, (zi BK191.out 1).trans rfl, (zi BK191.out 2).trans rfl, (zi BK191.out 3).trans rfl, (zi BK191.out 4).trans rfl, ((HB.out.cell (World.block_lt_of_cell? w _ hw198_0)).trans hw198_0), ((HB.out.cell (World.block_lt_of_cell? w _ hw198_1)).trans hw198_1), ((HB.out.cell (World.block_lt_of_cell? w _ hw198_2)).trans hw198_2), ((HB.out.cell (World.block_lt_of_cell? w _ hw198_3)).trans hw198_3)⟩ (fun hHeld => ?_); refine zkr shamrockref24_Tapes.tab11 shamrockref24_Tapes.bits11 (fun HT_ HW_ => ?_)
           generalize wr.drew = w19 at HO_8 BK191 HB HR198_2 HR198_3 hx198_0 hx198_1 hx198_2 hx198_3 hHeld ⊢
           refine zcZ (i := 0) (N := some 41) (v := ?_) (a' := ?_) #[true, false, false, false, false, false, false, false, false, false, false, false, false] rfl rfl (zao HT_.out (by kernel_rfl)) (fun _ _ _ h => h) (Or.inl ⟨by rfl, ?_⟩) ?_ ?_
           rotate_left
           ·intro w'
            go_simp
            with_reducible rfl
           rotate_left
           ·simp only [Act.put, List.setIfInBounds_toArray, List.set_cons_zero, List.set_cons_succ, yY, jG]
            rfl
           refine zcZ (i := 2) (N := some 43) (v := ?_) (a' := ?_) #[true, false, true, false, false, false, false, false, false, false, false, false, false] rfl rfl (zao HT_.out (by kernel_rfl)) (fun _ _ _ h => h) (Or.inl ⟨by rfl, ?_⟩) ?_ ?_
           rotate_left
           ·intro w'
            go_simp
            with_reducible rfl
           rotate_left
           ·simp only [Act.put, List.setIfInBounds_toArray, List.set_cons_zero, List.set_cons_succ, yY, jG]
            rfl
           refine zcZ (i := 3) (N := some 44) (v := ?_) (a' := ?_) #[true, false, true, true, false, false, false, false, false, false, false, false, false] rfl rfl (zao HT_.out (by kernel_rfl)) (fun _ _ _ h => h) (Or.inl ⟨by rfl, ?_⟩) ?_ ?_
           rotate_left
           ·intro w'
            go_simp
            with_reducible rfl
           rotate_left
           ·simp only [Act.put, List.setIfInBounds_toArray, List.set_cons_zero, List.set_cons_succ, yY, jG]
            rfl
           refine zcZ (i := 4) (N := some 45) (v := ?_) (a' := ?_) #[true, false, true, true, true, false, false, false, false, false, false, false, false] rfl rfl (zao HT_.out (by kernel_rfl)) (fun _ _ _ h => h) (Or.inl ⟨by rfl, ?_⟩) ?_ ?_
           rotate_left
           ·intro w'
            go_simp
            with_reducible rfl
           rotate_left
           ·simp only [Act.put, List.setIfInBounds_toArray, List.set_cons_zero, List.set_cons_succ, yY, jG]
            rfl
           refine zcZ (i := 5) (N := some 46) (v := ?_) (a' := ?_) #[true, false, true, true, true, true, false, false, false, false, false, false, false] rfl rfl (zao HT_.out (by kernel_rfl)) (fun _ _ _ h => h) (Or.inl ⟨by rfl, ?_⟩) ?_ ?_
           rotate_left
           ·intro w'
            go_simp
            with_reducible rfl
           rotate_left
           ·simp only [Act.put, List.setIfInBounds_toArray, List.set_cons_zero, List.set_cons_succ, yY, jG]
            rfl
           refine zcZ (i := 8) (N := some 49) (v := ?_) (a' := ?_) #[true, false, true, true, true, true, false, false, true, false, false, false, false] rfl rfl (zao HT_.out (by kernel_rfl)) (fun _ _ _ h => h) (Or.inl ⟨by rfl, ?_⟩) ?_ ?_
           rotate_left
           ·intro w'
            go_simp
            with_reducible rfl
           rotate_left
           ·simp only [Act.put, List.setIfInBounds_toArray, List.set_cons_zero, List.set_cons_succ, yY, jG]
            rfl
           refine take_ (i := 1) (N := some 42) (v := ?_) (a' := ?_) #[true, true, true, true, true, true, false, false, true, false, false, false, false] rfl rfl (zhN HT_.out HW_.out (by kernel_rfl)) (fun _ _ _ h => h) (Or.inl ⟨by rfl, ?_⟩) hHeld ?_ ?_
           rotate_left
           ·rintro w' ⟨s0, s1, s2, s3, s4, s5, s6, s7, s8⟩
            go_simp
            with_reducible rfl
           rotate_left
           ·simp only [Act.put, List.setIfInBounds_toArray, List.set_cons_zero, List.set_cons_succ, yY, jG]
            rfl
           refine take_ (i := 6) (N := some 47) (v := ?_) (a' := ?_) #[true, true, true, true, true, true, true, false, true, false, false, false, false] rfl rfl (zhN HT_.out HW_.out (by kernel_rfl)) (fun _ _ _ h => h) (Or.inl ⟨by rfl, ?_⟩) hHeld ?_ ?_
           rotate_left
           ·rintro w' ⟨s0, s1, s2, s3, s4, s5, s6, s7, s8⟩
            go_simp
            with_reducible rfl
           rotate_left
           ·simp only [Act.put, List.setIfInBounds_toArray, List.set_cons_zero, List.set_cons_succ, yY, jG]
            rfl
           refine zoU (i := 7) (N := some 48) #[true, true, true, true, true, true, true, true, true, false, false, false, false] rfl rfl (ziB HT_.out (by kernel_rfl)) (by decide) (fun K hK => ?_)
           refine zpM Try.func50 (by kernel_rfl) rfl #[.agg #[.int .i64 a0_0, .int .i64 a0_1, .int .i64 a0_2, .int .i64 a0_3, .int .i64 a0_4], .int .i64 ((yG l2 x9_1).f0)] (by rfl) rfl rfl (by (try simp only [List.map_toArray, List.map_cons, List.map_nil]); first | done | rfl | (simp only [List.length_drop, List.length_take]; rfl)) ?_
           with_reducible refine (shamrockref10_Each.calls k2 a0_0 a0_1 a0_2 a0_3 a0_4 ((yG l2 x9_1).f0) t199 _ A17.out).mono ?_
           rintro e w20 ⟨rfl, hb⟩
           refine ⟨_, rfl, ?_⟩
           have n0_ := za.mk (Kd.R_below (by (with_reducible repeat (first | apply Kd.R_alloc | apply Kd.R_drewN | apply Kd.R_drew)); exact HO_8.out) hb)
           have n1_ := za.mk (zl (g := gb191) (o := .cells #[.int .i64 a0_0, .int .i64 a0_1, .int .i64 a0_2, .int .i64 a0_3, .int .i64 a0_4] 48 (0, 0)) (by (with_reducible repeat (first | refine zC ?_ _ | refine zL ?_ | refine zt ?_ _)); exact BK191.out) hb)
           have n2_ := za.mk (zu (by repeat (first | (with_reducible first | exact HB.out | apply zc | apply zb | apply zg | refine zn ?_ GE191.out) | exact HB.out)) hb)
           clear HO_8
           clear BK191
           clear HB
           have HO_8 := n0_
           have BK191 := n1_
           have HB := n2_
           clear n0_ n1_ n2_
           (try clear hb)
           (try clear hb2)
           (try clear hk)
           (try clear hi)
           refine hK.out _ _ ⟨(zi BK191.out 0).trans rfl, (zi BK191.out 1).trans rfl, (zi BK191.out 2).trans rfl, (zi BK191.out 3).trans rfl, (zi BK191.out 4).trans rfl, ((HB.out.cell (World.block_lt_of_cell? w _ hw198_0)).trans hw198_0), ((HB.out.cell (World.block_lt_of_cell? w _ hw198_1)).trans hw198_1), ((HB.out.cell (World.block_lt_of_cell? w _ hw198_2)).trans hw198_2), ((HB.out.cell (World.block_lt_of_cell? w _ hw198_3)).trans hw198_3)⟩ (fun hHeld => ?_)
           clear hK K
           refine zmz (a' := ?_) ?_ ?_
           rotate_left
           ·show Act.put _ (some 48) _ = _
            simp only [Act.put, List.setIfInBounds_toArray, List.set_cons_zero, List.set_cons_succ, yY, jG]
            rfl
           refine zcZ (i := 9) (N := some 50) (v := ?_) (a' := ?_) #[true, true, true, true, true, true, true, true, true, true, false, false, false] rfl rfl (zao HT_.out (by kernel_rfl)) (fun _ _ _ h => h) (Or.inl ⟨by rfl, ?_⟩) ?_ ?_
           rotate_left
           ·intro w'
            go_simp
            with_reducible rfl
           rotate_left
           ·simp only [Act.put, List.setIfInBounds_toArray, List.set_cons_zero, List.set_cons_succ, yY, jG]
            rfl
           refine zoU (i := 10) (N := some 51) #[true, true, true, true, true, true, true, true, true, true, true, false, false] rfl rfl (ziB HT_.out (by kernel_rfl)) (by decide) (fun K hK => ?_)
           refine zpo (w1 := ?_) (v := ?_) (by rfl) rfl ?_ ?_
           rotate_left 2
           ·go_simp
            constructor
            ·rfl
            rfl
           refine hK.out _ _ ⟨(zi (zt BK191.out _) 0).trans rfl, (zi (zt BK191.out _) 1).trans rfl, (zi (zt BK191.out _) 2).trans rfl, (zi (zt BK191.out _) 3).trans rfl, (zi (zt BK191.out _) 4).trans rfl, (World.cell?_alloc_lt _ _ _ (World.block_lt_of_cell? _ _ (((HB.out.cell (World.block_lt_of_cell? w _ hw198_0)).trans hw198_0)))).trans (((HB.out.cell (World.block_lt_of_cell? w _ hw198_0)).trans hw198_0)), (World.cell?_alloc_lt _ _ _ (World.block_lt_of_cell? _ _ (((HB.out.cell (World.block_lt_of_cell? w _ hw198_1)).trans hw198_1)))).trans (((HB.out.cell (World.block_lt_of_cell? w _ hw198_1)).trans hw198_1)), (World.cell?_alloc_lt _ _ _ (World.block_lt_of_cell? _ _ (((HB.out.cell (World.block_lt_of_cell? w _ hw198_2)).trans hw198_2)))).trans (((HB.out.cell (World.block_lt_of_cell? w _ hw198_2)).trans hw198_2)), (World.cell?_alloc_lt _ _ _ (World.block_lt_of_cell? _ _ (((HB.out.cell (World.block_lt_of_cell? w _ hw198_3)).trans hw198_3)))).trans (((HB.out.cell (World.block_lt_of_cell? w _ hw198_3)).trans hw198_3))⟩ (fun hHeld => ?_)
           clear hK K
           refine zmz (a' := ?_) ?_ ?_
           rotate_left
           ·show Act.put _ (some 51) _ = _
            simp only [Act.put, List.setIfInBounds_toArray, List.set_cons_zero, List.set_cons_succ, yY, jG]
            rfl
           refine zoU (i := 11) (N := some 52) #[true, true, true, true, true, true, true, true, true, true, true, true, false] rfl rfl (ziB HT_.out (by kernel_rfl)) (by decide) (fun K hK => ?_)
           refine Kd.R_append_step (Kd.int .i64) (w0 := w) w.heap.size (by rfl) (.tmp 41) (.tmp 51) 50 3 (.int .i64 0) 8 rfl Try.underlying50 zpB rfl (by decide) (by omega) u8 x8_2 (wrap64 (t199 * t193)) [.int .i64 (wrap64 (t199 * t193))] (fun _ => True) (fun _ => False) rfl rfl ?aP (fun _ hk => hk.elim) ?aF ?aO ?aB ?aS ?aL ?_
           (case aP => exact rfl)
           (case aB => exact (by repeat (first | (with_reducible first | exact HB.out | apply zc | apply zb | apply zg | refine zn ?_ GE191.out) | exact HB.out)))
           (case aF => exact (fun _ _ => trivial))
           (case aO => exact (by (with_reducible repeat (first | apply Kd.R_alloc | apply Kd.R_drewN | apply Kd.R_drew)); exact HO_8.out))
           (case aS => exact (zr (by repeat (first | (with_reducible first | exact HB.out | apply zc | apply zb | apply zg | refine zn ?_ GE191.out) | exact HB.out))))
           (case aL => have := LMc18.out; omega)
           intro v201 w21 ho hb hg hat
           rw [← Ny200.out] at ho
           have n0_ := za.mk (zcn (g := gb191) (o := .cells #[.int .i64 a0_0, .int .i64 a0_1, .int .i64 a0_2, .int .i64 a0_3, .int .i64 a0_4] 48 (0, 0)) (by (with_reducible repeat (first | refine zC ?_ _ | refine zL ?_ | refine zt ?_ _)); exact BK191.out) hg (Kd.R_ne HO_8.out BK191.out (by decide)))
           have n1_ := za.mk (hb)
           have n2_ := za.mk (ho)
           clear BK191
           clear HB
           clear HO_8
           have BK191 := n0_
           have HB := n1_
           have HO202 := n2_
           clear n0_ n1_ n2_
           clear ho hb hg hat
           refine hK.out _ _ ⟨(zi BK191.out 0).trans rfl, (zi BK191.out 1).trans rfl, (zi BK191.out 2).trans rfl, (zi BK191.out 3).trans rfl, (zi BK191.out 4).trans rfl, ((HB.out.cell (World.block_lt_of_cell? w _ hw198_0)).trans hw198_0), ((HB.out.cell (World.block_lt_of_cell? w _ hw198_1)).trans hw198_1), ((HB.out.cell (World.block_lt_of_cell? w _ hw198_2)).trans hw198_2), ((HB.out.cell (World.block_lt_of_cell? w _ hw198_3)).trans hw198_3)⟩ (fun hHeld => ?_)
           clear hK K
           refine zmz (a' := ?_) ?_ ?_
           rotate_left
           ·show Act.put _ (some 52) _ = _
            simp only [Act.put, List.setIfInBounds_toArray, List.set_cons_zero, List.set_cons_succ, yY, jG]
            rfl
           refine zcZ (i := 12) (N := some 8) (v := ?_) (a' := ?_) #[true, true, true, true, true, true, true, true, true, true, true, true, true] rfl rfl (zao HT_.out (by kernel_rfl)) (fun _ _ _ h => h) (Or.inl ⟨by rfl, ?_⟩) ?_ ?_
           rotate_left
           ·intro w'
            go_simp
            with_reducible rfl
           rotate_left
           ·simp only [Act.put, List.setIfInBounds_toArray, List.set_cons_zero, List.set_cons_succ, yY, jG]
            rfl
           refine zpE (znG HT_.out (by kernel_rfl)) ?_
           try go_wp2
           go_roundg k2
           case measure => have := HK1.out; have := HK2.out; omega
           case rel => exact ⟨(y200), (wrap64 (x10_2 + 1)), (by first | rfl | (simp; done) | (simp [*]; done)), H', ⟨by have := HK1.out; have := HK2.out; omega⟩, ⟨by (with_reducible repeat (first | apply Kd.R_alloc | apply Kd.R_drewN | apply Kd.R_drew)); exact HO202.out⟩, ⟨by (with_reducible repeat (first | refine zC ?_ _ | refine zL ?_ | refine zt ?_ _)); exact BK191.out⟩, ⟨by repeat (first | (with_reducible first | exact HB.out | apply zc | apply zb | apply zg | refine zn ?_ GE191.out) | exact HB.out)⟩⟩
          rw [if_neg c18] at H
          exact absurd H (by simp)
         rw [if_neg c16] at H
         have c16b0 : decide (x10_2 < (((yG l2 x9_1).f2).length : Int)) = false := decide_eq_false c16
         clear c16
         have H' := za.mk H
         clear H
         have p197 : 0 ≤ (x9_1 : Int) := of_decide_eq_true (by first | (with_reducible assumption) | assumption)
         have q197 : x9_1 < (l2.length : Int) := of_decide_eq_true (by first | (with_reducible assumption) | assumption)
         obtain ⟨ad197, A197_2, c197_2, A197_3, c197_3, e197, hx197_0, hx197_1, hx197_2, hx197_3, hl197_2, hi197_2, hl197_3, hi197_3⟩ := zfN HR2.out x9_1 p197 q197
         cases e197
         replace hx197_0 := (HB.out.cell (World.block_lt_of_cell? w _ hx197_0)).trans hx197_0
         replace hx197_1 := (HB.out.cell (World.block_lt_of_cell? w _ hx197_1)).trans hx197_1
         replace hx197_2 := (HB.out.cell (World.block_lt_of_cell? w _ hx197_2)).trans hx197_2
         replace hx197_3 := (HB.out.cell (World.block_lt_of_cell? w _ hx197_3)).trans hx197_3
         have HR197_2 := za.mk hi197_2
         have HC197_2 := za.mk hl197_2
         clear hi197_2 hl197_2
         have HR197_3 := za.mk hi197_3
         have HC197_3 := za.mk hl197_3
         clear hi197_3 hl197_3
         replace p197 := eq_true p197
         replace q197 := eq_true q197
         go_wp2
         go_roundg k2
         case measure => have := HK1.out; have := HK2.out; omega
         case rel => exact ⟨(x8_2), (wrap64 (x9_1 + 1)), (by first | rfl | (simp; done) | (simp [*]; done)), H', ⟨by have := HK1.out; have := HK2.out; omega⟩, ⟨by (with_reducible repeat (first | apply Kd.R_alloc | apply Kd.R_drewN | apply Kd.R_drew)); exact HO_8.out⟩, ⟨by (with_reducible repeat (first | refine zC ?_ _ | refine zL ?_ | refine zt ?_ _)); exact BK191.out⟩, ⟨by repeat (first | (with_reducible first | exact HB.out | apply zc | apply zb | apply zg | refine zn ?_ GE191.out) | exact HB.out)⟩⟩
        rw [if_neg c15] at H
        exact absurd H (by simp)
       rw [if_neg c14] at H
       exact absurd H (by simp)
    rw [if_neg c13] at H
    have c13b0 : decide (x9_1 < (l2.length : Int)) = false := decide_eq_false c13
    clear c13
    obtain rfl := Option.some.inj H
    go_wp2
    go_ret
    exact ⟨_, by first | rfl | (simp [errW_none, errW_some] <;> rfl) | (simp [*, errW_none, errW_some] <;> rfl), by (with_reducible repeat (first | apply Kd.R_alloc | apply Kd.R_drewN | apply Kd.R_drew)); exact HO_8.out, by repeat (first | (with_reducible first | exact HB.out | apply zc | apply zb | apply zg | refine zn ?_ GE191.out) | exact HB.out)⟩
 replace c5 := Bool.eq_false_iff.mpr c5
 subst c5
 have H1 : (some ([] : List Int)) = some r := by rw [if_neg (show ¬ (false = true) by decide)] at H; exact H
 clear H
 have H := H1
 clear H1
 obtain rfl := Option.some.inj H
 go_enter Try.func69, Try.ntmps69
 go_wp2_with (first | ((with_reducible refine zT (N := 3) rfl ?_); refine zP ?hg (N := 3) ?hd (cs := #[.int .i64 a0_0, .int .i64 a0_1, .int .i64 a0_2, .int .i64 a0_3, .int .i64 a0_4]) (t := 48) ?hr ?_; (case hd => rfl); (case hg => rfl); (case hr => first | (go_simp; done) | (go_simp; rfl)); intro gb191 hg w22 hbox hb; have n0_ := za.mk (zu (by repeat (first | (with_reducible first | exact HB.out | apply zc | apply zb | apply zg) | exact HB.out)) hb); have n1_ := za.mk (hbox); have n2_ := za.mk ((by rw [hg]; exact (zr (by repeat (first | (with_reducible first | exact HB.out | apply zc | apply zb | apply zg) | exact HB.out))) : w.heap.size ≤ gb191)); have n3_ := za.mk ((by rw [hg]; exact (zr (by repeat (first | (with_reducible first | exact HB.out | apply zc | apply zb | apply zg) | exact HB.out))) : w.heap.size ≤ gb191)); clear HB; have HB := n0_; have BK191 := n1_; have GW191 := n2_; have GE191 := n3_; clear n0_ n1_ n2_ n3_; clear hb hbox hg; have hcz23_0 : w22.cell? ⟨gb191, 0, none⟩ = some (.int .i64 a0_0) := (zi BK191.out 0).trans rfl; have hcz23_1 : w22.cell? ⟨gb191, 1, none⟩ = some (.int .i64 a0_1) := (zi BK191.out 1).trans rfl; have hcz23_2 : w22.cell? ⟨gb191, 2, none⟩ = some (.int .i64 a0_2) := (zi BK191.out 2).trans rfl; have hcz23_3 : w22.cell? ⟨gb191, 3, none⟩ = some (.int .i64 a0_3) := (zi BK191.out 3).trans rfl; have hcz23_4 : w22.cell? ⟨gb191, 4, none⟩ = some (.int .i64 a0_4) := (zi BK191.out 4).trans rfl; have hfz23_0 := ze BK191.out 0; have hfz23_1 := ze BK191.out 1; have hfz23_2 := ze BK191.out 2; have hfz23_3 := ze BK191.out 3; have hfz23_4 := ze BK191.out 4) | ((with_reducible refine jR (f := 66) rfl ?_); refine zcq (some 14) rfl rfl Try.func66 (by kernel_rfl) rfl #[.agg #[.int .i64 a0_0, .int .i64 a0_1, .int .i64 a0_2, .int .i64 a0_3, .int .i64 a0_4], .int .i64 a1, .slice A2 l2.length c2] rfl (by (try simp only [List.map_toArray, List.map_cons, List.map_nil]); first | done | rfl | (simp only [List.length_drop, List.length_take]; rfl)) ?_; (with_reducible refine (shamrockref24_May.calls k a0_0 a0_1 a0_2 a0_3 a0_4 a1 _ _ l2 false _ ?side1 ?side2 A4.out).mono ?_); (case side1 => repeat (first | exact (Kd.C_below HR2.out HB.out) | (with_reducible refine Kd.C_alloc ?_ _) | (with_reducible refine Kd.C_drewN ?_ _) | (with_reducible refine Kd.C_drew ?_))); (case side2 => exact HC2.out); rintro e w24 ⟨rfl, hb⟩; refine ⟨_, rfl, ?_⟩; have n0_ := za.mk (zl (g := gb191) (o := .cells #[.int .i64 a0_0, .int .i64 a0_1, .int .i64 a0_2, .int .i64 a0_3, .int .i64 a0_4] 48 (0, 0)) (by (with_reducible repeat (first | refine zC ?_ _ | refine zL ?_ | refine zt ?_ _)); exact BK191.out) hb); have n1_ := za.mk (zu (by repeat (first | (with_reducible first | exact HB.out | apply zc | apply zb | apply zg | refine zn ?_ GE191.out) | exact HB.out)) hb); clear BK191; clear HB; have BK191 := n0_; have HB := n1_; clear n0_ n1_; (try clear hb); (try clear hb2); (try clear hk); (try clear hi)))
 go_ret
 exact ⟨_, by first | rfl | (simp [errW_none, errW_some] <;> rfl) | (simp [*, errW_none, errW_some] <;> rfl), by first | exact Kd.R_nil _ _ _ _ _ | exact Kd.N_nil _ _ _ _ _ | exact Kd.V_nil _ _ _ _ _ | exact Kd.Q_nil _ _ _ _ _ | exact Kd.S_nil _ _ _ _ _, by repeat (first | (with_reducible first | exact HB.out | apply zc | apply zb | apply zg | refine zn ?_ GE191.out) | exact HB.out)⟩
mutual
def shamrockref24_Right.j0 : Nat → List (List Int) → List Int → Bool → Option (Bool)
 | 0, _, _, _ => none
 | k + 1, x3, x9, x24 => if x24 = true then (some false) else (shamrockref24_Right.l0 k x3 x9 0)
def shamrockref24_Right.l0 : Nat → List (List Int) → List Int → Int → Option (Bool)
 | 0, _, _, _ => none
 | k + 1, x3, x9, x10 => if x10 < (x9.length : Int) then (if 0 ≤ x10 then (if x10 < (x3.length : Int) then (if ((zaf x3 x10).length : Int) = (rd x9 x10) then (shamrockref24_Right.l0 k x3 x9 (wrap64 (x10 + 1))) else (some false)) else (none)) else (none)) else (some true)
end
def shamrockref24_Right.f (k : Nat) (a0_0 : Int) (a0_1 : Int) (a0_2 : Int) (a0_3 : Int) (a0_4 : Int) (a1 : Int) (l2 : List (S90)) (l3 : List (List Int)) : Option (Bool) := (shamrockref24_Tapes.f k a0_0 a0_1 a0_2 a0_3 a0_4 a1 l2).bind fun t204 => (if (t204.length : Int) = 0 then (shamrockref24_Right.j0 k l3 t204 true) else (shamrockref24_Right.j0 k l3 t204 ((l3.length : Int) != (t204.length : Int))))
set_option maxHeartbeats 8000000 in
set_option maxRecDepth 100000 in
theorem shamrockref24_Right.calls (k : Nat) (a0_0 : Int) (a0_1 : Int) (a0_2 : Int) (a0_3 : Int) (a0_4 : Int) (a1 : Int) (A2 : Option Addr) (c2 : Nat) (l2 : List (S90)) (A3 : Option Addr) (c3 : Nat) (l3 : List (List Int)) (r : Bool) (w : World) (hr2 : Kd.C k90 w A2 l2.length l2) (hc2 : l2.length ≤ c2) (hr3 : Kd.C (Kd.slice 5 (Kd.int .u8)) w A3 l3.length l3) (hc3 : l3.length ≤ c3) (h : shamrockref24_Right.f k a0_0 a0_1 a0_2 a0_3 a0_4 a1 l2 l3 = some r) :
 Calls Try.prog 72 #[.agg #[.int .i64 a0_0, .int .i64 a0_1, .int .i64 a0_2, .int .i64 a0_3, .int .i64 a0_4], .int .i64 a1, .slice A2 l2.length c2, .slice A3 l3.length c3] w fun e w' => e = .returned (.bool r) ∧ Below w.heap.size w w' := by
 have hu48 := Try.underlying48
 have HR2 := za.mk hr2
 have HC2 := za.mk hc2
 clear hr2 hc2
 have HR3 := za.mk hr3
 have HC3 := za.mk hc3
 clear hr3 hc3
 have HB := za.mk (Below.refl w.heap.size w)
 have H : ((shamrockref24_Tapes.f k a0_0 a0_1 a0_2 a0_3 a0_4 a1 l2).bind fun t204 => (if (t204.length : Int) = 0 then (shamrockref24_Right.j0 k l3 t204 true) else (shamrockref24_Right.j0 k l3 t204 ((l3.length : Int) != (t204.length : Int))))) = some r := h
 clear h
 replace H := Option.bind_eq_some_iff.mp H
 obtain ⟨t204, A50, H⟩ := H
 replace H : (if (t204.length : Int) = 0 then (shamrockref24_Right.j0 k l3 t204 true) else (shamrockref24_Right.j0 k l3 t204 ((l3.length : Int) != (t204.length : Int)))) = some r := H
 have A5 := za.mk A50
 clear A50
 have HC6 := za.mk H
 clear H
 go_enter Try.func72, Try.ntmps72
 go_upto_region 2 with (first | ((with_reducible refine zT (N := 4) rfl ?_); (try (refine Zu (by rfl) ?_; dsimp only)); refine zP ?hg (N := 4) ?hd (cs := #[.int .i64 a0_0, .int .i64 a0_1, .int .i64 a0_2, .int .i64 a0_3, .int .i64 a0_4]) (t := 48) ?hr ?_; (case hd => rfl); (case hg => rfl); (case hr => first | (go_simp; done) | (go_simp; rfl)); intro gb203 hg w7 hbox hb; have n0_ := za.mk (zu (by repeat (first | (with_reducible first | exact HB.out | apply zc | apply zb | apply zg) | exact HB.out)) hb); have n1_ := za.mk (hbox); have n2_ := za.mk ((by rw [hg]; exact (zr (by repeat (first | (with_reducible first | exact HB.out | apply zc | apply zb | apply zg) | exact HB.out))) : w.heap.size ≤ gb203)); have n3_ := za.mk ((by rw [hg]; exact (zr (by repeat (first | (with_reducible first | exact HB.out | apply zc | apply zb | apply zg) | exact HB.out))) : w.heap.size ≤ gb203)); clear HB; have HB := n0_; have BK203 := n1_; have GW203 := n2_; have GE203 := n3_; clear n0_ n1_ n2_ n3_; clear hb hbox hg; have hcz8_0 : w7.cell? ⟨gb203, 0, none⟩ = some (.int .i64 a0_0) := (zi BK203.out 0).trans rfl; have hcz8_1 : w7.cell? ⟨gb203, 1, none⟩ = some (.int .i64 a0_1) := (zi BK203.out 1).trans rfl; have hcz8_2 : w7.cell? ⟨gb203, 2, none⟩ = some (.int .i64 a0_2) := (zi BK203.out 2).trans rfl; have hcz8_3 : w7.cell? ⟨gb203, 3, none⟩ = some (.int .i64 a0_3) := (zi BK203.out 3).trans rfl; have hcz8_4 : w7.cell? ⟨gb203, 4, none⟩ = some (.int .i64 a0_4) := (zi BK203.out 4).trans rfl; have hfz8_0 := ze BK203.out 0; have hfz8_1 := ze BK203.out 1; have hfz8_2 := ze BK203.out 2; have hfz8_3 := ze BK203.out 3; have hfz8_4 := ze BK203.out 4) | (go_at_call 69; (with_reducible refine (shamrockref24_Tapes.calls k a0_0 a0_1 a0_2 a0_3 a0_4 a1 _ _ l2 t204 _ ?side1 ?side2 A5.out).mono ?_); (case side1 => repeat (first | exact (Kd.C_below HR2.out HB.out) | (with_reducible refine Kd.C_alloc ?_ _) | (with_reducible refine Kd.C_drewN ?_ _) | (with_reducible refine Kd.C_drew ?_))); (case side2 => exact HC2.out); rintro e w9 ⟨v205, rfl, ho0, hb⟩; have n0_ := za.mk (Kd.R_lower ho0 (zr (by repeat (first | (with_reducible first | exact HB.out | apply zc | apply zb | apply zg | refine zn ?_ GE203.out) | exact HB.out)))); have n1_ := za.mk (zl (g := gb203) (o := .cells #[.int .i64 a0_0, .int .i64 a0_1, .int .i64 a0_2, .int .i64 a0_3, .int .i64 a0_4] 48 (0, 0)) (by (with_reducible repeat (first | refine zC ?_ _ | refine zL ?_ | refine zt ?_ _)); exact BK203.out) hb); have n2_ := za.mk (zu (by repeat (first | (with_reducible first | exact HB.out | apply zc | apply zb | apply zg | refine zn ?_ GE203.out) | exact HB.out)) hb); clear BK203; clear HB; have HO206 := n0_; have BK203 := n1_; have HB := n2_; clear n0_ n1_ n2_; (try clear hb); (try clear hb2); (try clear hk); (try clear hi); (try clear ho0)))
 repeat (go_quiet (first | ((with_reducible refine zT (N := 4) rfl ?_); (try (refine Zu (by rfl) ?_; dsimp only)); refine zP ?hg (N := 4) ?hd (cs := #[.int .i64 a0_0, .int .i64 a0_1, .int .i64 a0_2, .int .i64 a0_3, .int .i64 a0_4]) (t := 48) ?hr ?_; (case hd => rfl); (case hg => rfl); (case hr => first | (go_simp; done) | (go_simp; rfl)); intro gb203 hg w7 hbox hb; have n0_ := za.mk (zu (by repeat (first | (with_reducible first | exact HB.out | apply zc | apply zb | apply zg) | exact HB.out)) hb); have n1_ := za.mk (hbox); have n2_ := za.mk ((by rw [hg]; exact (zr (by repeat (first | (with_reducible first | exact HB.out | apply zc | apply zb | apply zg) | exact HB.out))) : w.heap.size ≤ gb203)); have n3_ := za.mk ((by rw [hg]; exact (zr (by repeat (first | (with_reducible first | exact HB.out | apply zc | apply zb | apply zg) | exact HB.out))) : w.heap.size ≤ gb203)); clear HB; have HB := n0_; have BK203 := n1_; have GW203 := n2_; have GE203 := n3_; clear n0_ n1_ n2_ n3_; clear hb hbox hg; have hcz8_0 : w7.cell? ⟨gb203, 0, none⟩ = some (.int .i64 a0_0) := (zi BK203.out 0).trans rfl; have hcz8_1 : w7.cell? ⟨gb203, 1, none⟩ = some (.int .i64 a0_1) := (zi BK203.out 1).trans rfl; have hcz8_2 : w7.cell? ⟨gb203, 2, none⟩ = some (.int .i64 a0_2) := (zi BK203.out 2).trans rfl; have hcz8_3 : w7.cell? ⟨gb203, 3, none⟩ = some (.int .i64 a0_3) := (zi BK203.out 3).trans rfl; have hcz8_4 : w7.cell? ⟨gb203, 4, none⟩ = some (.int .i64 a0_4) := (zi BK203.out 4).trans rfl; have hfz8_0 := ze BK203.out 0; have hfz8_1 := ze BK203.out 1; have hfz8_2 := ze BK203.out 2; have hfz8_3 := ze BK203.out 3; have hfz8_4 := ze BK203.out 4) | (go_at_call 69; (with_reducible refine (shamrockref24_Tapes.calls k a0_0 a0_1 a0_2 a0_3 a0_4 a1 _ _ l2 t204 _ ?side1 ?side2 A5.out).mono ?_); (case side1 => repeat (first | exact (Kd.C_below HR2.out HB.out) | (with_reducible refine Kd.C_alloc ?_ _) | (with_reducible refine Kd.C_drewN ?_ _) | (with_reducible refine Kd.C_drew ?_))); (case side2 => exact HC2.out); rintro e w9 ⟨v205, rfl, ho0, hb⟩; have n0_ := za.mk (Kd.R_lower ho0 (zr (by repeat (first | (with_reducible first | exact HB.out | apply zc | apply zb | apply zg | refine zn ?_ GE203.out) | exact HB.out)))); have n1_ := za.mk (zl (g := gb203) (o := .cells #[.int .i64 a0_0, .int .i64 a0_1, .int .i64 a0_2, .int .i64 a0_3, .int .i64 a0_4] 48 (0, 0)) (by (with_reducible repeat (first | refine zC ?_ _ | refine zL ?_ | refine zt ?_ _)); exact BK203.out) hb); have n2_ := za.mk (zu (by repeat (first | (with_reducible first | exact HB.out | apply zc | apply zb | apply zg | refine zn ?_ GE203.out) | exact HB.out)) hb); clear BK203; clear HB; have HO206 := n0_; have BK203 := n1_; have HB := n2_; clear n0_ n1_ n2_; (try clear hb); (try clear hb2); (try clear hk); (try clear hi); (try clear ho0))); go_upto_region 2 with (first | ((with_reducible refine zT (N := 4) rfl ?_); (try (refine Zu (by rfl) ?_; dsimp only)); refine zP ?hg (N := 4) ?hd (cs := #[.int .i64 a0_0, .int .i64 a0_1, .int .i64 a0_2, .int .i64 a0_3, .int .i64 a0_4]) (t := 48) ?hr ?_; (case hd => rfl); (case hg => rfl); (case hr => first | (go_simp; done) | (go_simp; rfl)); intro gb203 hg w7 hbox hb; have n0_ := za.mk (zu (by repeat (first | (with_reducible first | exact HB.out | apply zc | apply zb | apply zg) | exact HB.out)) hb); have n1_ := za.mk (hbox); have n2_ := za.mk ((by rw [hg]; exact (zr (by repeat (first | (with_reducible first | exact HB.out | apply zc | apply zb | apply zg) | exact HB.out))) : w.heap.size ≤ gb203)); have n3_ := za.mk ((by rw [hg]; exact (zr (by repeat (first | (with_reducible first | exact HB.out | apply zc | apply zb | apply zg) | exact HB.out))) : w.heap.size ≤ gb203)); clear HB; have HB := n0_; have BK203 := n1_; have GW203 := n2_; have GE203 := n3_; clear n0_ n1_ n2_ n3_; clear hb hbox hg; have hcz8_0 : w7.cell? ⟨gb203, 0, none⟩ = some (.int .i64 a0_0) := (zi BK203.out 0).trans rfl; have hcz8_1 : w7.cell? ⟨gb203, 1, none⟩ = some (.int .i64 a0_1) := (zi BK203.out 1).trans rfl; have hcz8_2 : w7.cell? ⟨gb203, 2, none⟩ = some (.int .i64 a0_2) := (zi BK203.out 2).trans rfl; have hcz8_3 : w7.cell? ⟨gb203, 3, none⟩ = some (.int .i64 a0_3) := (zi BK203.out 3).trans rfl; have hcz8_4 : w7.cell? ⟨gb203, 4, none⟩ = some (.int .i64 a0_4) := (zi BK203.out 4).trans rfl; have hfz8_0 := ze BK203.out 0; have hfz8_1 := ze BK203.out 1; have hfz8_2 := ze BK203.out 2; have hfz8_3 := ze BK203.out 3; have hfz8_4 := ze BK203.out 4) | (go_at_call 69; (with_reducible refine (shamrockref24_Tapes.calls k a0_0 a0_1 a0_2 a0_3 a0_4 a1 _ _ l2 t204 _ ?side1 ?side2 A5.out).mono ?_); (case side1 => repeat (first | exact (Kd.C_below HR2.out HB.out) | (with_reducible refine Kd.C_alloc ?_ _) | (with_reducible refine Kd.C_drewN ?_ _) | (with_reducible refine Kd.C_drew ?_))); (case side2 => exact HC2.out); rintro e w9 ⟨v205, rfl, ho0, hb⟩; have n0_ := za.mk (Kd.R_lower ho0 (zr (by repeat (first | (with_reducible first | exact HB.out | apply zc | apply zb | apply zg | refine zn ?_ GE203.out) | exact HB.out)))); have n1_ := za.mk (zl (g := gb203) (o := .cells #[.int .i64 a0_0, .int .i64 a0_1, .int .i64 a0_2, .int .i64 a0_3, .int .i64 a0_4] 48 (0, 0)) (by (with_reducible repeat (first | refine zC ?_ _ | refine zL ?_ | refine zt ?_ _)); exact BK203.out) hb); have n2_ := za.mk (zu (by repeat (first | (with_reducible first | exact HB.out | apply zc | apply zb | apply zg | refine zn ?_ GE203.out) | exact HB.out)) hb); clear BK203; clear HB; have HO206 := n0_; have BK203 := n1_; have HB := n2_; clear n0_ n1_ n2_; (try clear hb); (try clear hb2); (try clear hk); (try clear hi); (try clear ho0))))
 (try simp only [Act.put, List.setIfInBounds_toArray, List.set_cons_zero, List.set_cons_succ])
 go_cut [24] (fun v24 wc => ∃ (kq : Nat) (x24_5 : Bool), v24 = .bool x24_5 ∧ za (shamrockref24_Right.j0 kq l3 t204 x24_5 = some r) ∧ za (kq ≤ k) ∧ za (Kd.R (Kd.int .i64) 3 wc w.heap.size (fun _ => True) v205 t204) ∧ za (wc.heap[gb203]? = some (.cells #[.int .i64 a0_0, .int .i64 a0_1, .int .i64 a0_2, .int .i64 a0_3, .int .i64 a0_4] 48 (0, 0))) ∧ za (Below w.heap.size w wc))
 case first =>
  have H := HC6.out
  clear HC6
  by_cases c10 : (t204.length : Int) = 0
  ·rw [if_pos c10] at H
   have c10b0 : ((t204.length : Int) == 0) = true := beq_iff_eq.mpr c10
   have c10b1 : ((t204.length : Int) != 0) = false := bne_eq_false_iff_eq.mpr c10
   clear c10
   (first | rw [c10b0] | (simp only [yY, jG]; rw [c10b0]) | skip)
   have H' := za.mk H
   clear H
   obtain ⟨Ao11, co11, eo11⟩ := Kd.R_slice HO206.out
   subst eo11
   go_wp2
   repeat (go_quiet (fail); try go_wp2)
   go_meet
   case rel => exact ⟨_, (true), (by first | rfl | (simp; done) | (simp [*]; done)), H', ⟨by first | omega | exact Nat.le_refl _⟩, ⟨by (with_reducible repeat (first | apply Kd.R_alloc | apply Kd.R_drewN | apply Kd.R_drew)); exact HO206.out⟩, ⟨by (with_reducible repeat (first | refine zC ?_ _ | refine zL ?_ | refine zt ?_ _)); exact BK203.out⟩, ⟨by repeat (first | (with_reducible first | exact HB.out | apply zc | apply zb | apply zg | refine zn ?_ GE203.out) | exact HB.out)⟩⟩
  rw [if_neg c10] at H
  have c10b0 : ((t204.length : Int) == 0) = false := beq_eq_false_iff_ne.mpr c10
  have c10b1 : ((t204.length : Int) != 0) = true := bne_iff_ne.mpr c10
  have c10b2 : ¬ (t204 = []) := fun h_ => c10 (by rw [h_]; rfl)
  (first | rw [c10b0] | (simp only [yY, jG]; rw [c10b0]) | skip)
  have H' := za.mk H
  clear H
  obtain ⟨Ao12, co12, eo12⟩ := Kd.R_slice HO206.out
  subst eo12
  go_wp2
  repeat (go_quiet (fail); try go_wp2)
  go_meet
  case rel => exact ⟨_, (((l3.length : Int) != (t204.length : Int))), (by first | rfl | (simp; done) | (simp [*]; done)), H', ⟨by first | omega | exact Nat.le_refl _⟩, ⟨by (with_reducible repeat (first | apply Kd.R_alloc | apply Kd.R_drewN | apply Kd.R_drew)); exact HO206.out⟩, ⟨by (with_reducible repeat (first | refine zC ?_ _ | refine zL ?_ | refine zt ?_ _)); exact BK203.out⟩, ⟨by repeat (first | (with_reducible first | exact HB.out | apply zc | apply zb | apply zg | refine zn ?_ GE203.out) | exact HB.out)⟩⟩
 clear HC6
 try clear c1
 try clear c2
 try clear p2
 try clear c3
 try clear c7
 try clear c10
 try clear c10b0
 try clear c10b1
 try clear c10b2
 try clear hcz8_0
 try clear hcz8_1
 try clear hcz8_2
 try clear hcz8_3
 try clear hcz8_4
 try clear hfz8_0
 try clear hfz8_1
 try clear hfz8_2
 try clear hfz8_3
 try clear hfz8_4
 obtain ⟨kq, x24_5, rfl, HA, HJ5, HO_9, BK203, HB⟩ := hcut
 cases kq with
 | zero => exact absurd HA.out (by simp [shamrockref24_Right.j0])
 | succ kj5 =>
   have H := HA.out
   clear HA
   simp only [shamrockref24_Right.j0] at H
   by_cases c13 : x24_5 = true
   ·subst c13
    have H1 : (some false) = some r := by rw [if_pos rfl] at H; exact H
    clear H
    have H := H1
    clear H1
    obtain rfl := Option.some.inj H
    go_wp2
    repeat (go_quiet (fail); try go_wp2)
    go_ret
    exact ⟨by first | rfl | (simp [errW_none, errW_some] <;> rfl) | (simp [*, errW_none, errW_some] <;> rfl), by repeat (first | (with_reducible first | exact HB.out | apply zc | apply zb | apply zg | refine zn ?_ GE203.out) | exact HB.out)⟩
   replace c13 := Bool.eq_false_iff.mpr c13
   subst c13
   have H1 : (shamrockref24_Right.l0 kj5 l3 t204 0) = some r := by rw [if_neg (show ¬ (false = true) by decide)] at H; exact H
   clear H
   have H := H1
   clear H1
   have H' := za.mk H
   clear H
   go_wp2
   repeat (go_quiet (fail); try go_wp2)
   go_loopg [10] kj5 (fun kq v10 w' => ∃ (x10_2 : Int), v10 = .int .i64 x10_2 ∧ za (shamrockref24_Right.l0 kq l3 t204 x10_2 = some r) ∧ za (kq ≤ kj5) ∧ za (Kd.R (Kd.int .i64) 3 w' w.heap.size (fun _ => True) v205 t204) ∧ za (w'.heap[gb203]? = some (.cells #[.int .i64 a0_0, .int .i64 a0_1, .int .i64 a0_2, .int .i64 a0_3, .int .i64 a0_4] 48 (0, 0))) ∧ za (Below w.heap.size w w'))
   case atStart => exact ⟨(0), (by first | rfl | (simp; done) | (simp [*]; done)), H', ⟨Nat.le_refl _⟩, ⟨by (with_reducible repeat (first | apply Kd.R_alloc | apply Kd.R_drewN | apply Kd.R_drew)); exact HO_9.out⟩, ⟨by (with_reducible repeat (first | refine zC ?_ _ | refine zL ?_ | refine zt ?_ _)); exact BK203.out⟩, ⟨by repeat (first | (with_reducible first | exact HB.out | apply zc | apply zb | apply zg | refine zn ?_ GE203.out) | exact HB.out)⟩⟩
   clear H'
   try clear c1
   try clear c2
   try clear p2
   try clear c3
   try clear c7
   try clear c10
   try clear c10b0
   try clear c10b1
   try clear c10b2
   try clear c13
   try clear hcz8_0
   try clear hcz8_1
   try clear hcz8_2
   try clear hcz8_3
   try clear hcz8_4
   try clear hfz8_0
   try clear hfz8_1
   try clear hfz8_2
   try clear hfz8_3
   try clear hfz8_4
   try clear p2
   obtain ⟨x10_2, rfl, HA, HK2, HO_9, BK203, HB⟩ := hrel
   cases gk with
   | zero => exact absurd HA.out (by simp [shamrockref24_Right.l0])
   | succ k2 =>
     have H := HA.out
     clear HA
     simp only [shamrockref24_Right.l0] at H
     by_cases c14 : x10_2 < (t204.length : Int)
     ·rw [if_pos c14] at H
      have c14b0 : decide (x10_2 < (t204.length : Int)) = true := decide_eq_true c14
      clear c14
      by_cases c15 : 0 ≤ x10_2
      ·rw [if_pos c15] at H
       have c15b0 : decide (0 ≤ x10_2) = true := decide_eq_true c15
       clear c15
       by_cases c16 : x10_2 < (l3.length : Int)
       ·rw [if_pos c16] at H
        have c16b0 : decide (x10_2 < (l3.length : Int)) = true := decide_eq_true c16
        clear c16
        by_cases c17 : ((zaf l3 x10_2).length : Int) = (rd t204 x10_2)
        ·rw [if_pos c17] at H
         have c17b0 : (((zaf l3 x10_2).length : Int) == (rd t204 x10_2)) = true := beq_iff_eq.mpr c17
         have c17b1 : (((zaf l3 x10_2).length : Int) != (rd t204 x10_2)) = false := bne_eq_false_iff_eq.mpr c17
         clear c17
         have H' := za.mk H
         clear H
         obtain ⟨Ao18, co18, eo18⟩ := Kd.R_slice HO_9.out
         subst eo18
         have p207 : 0 ≤ (x10_2 : Int) := of_decide_eq_true (by first | (with_reducible assumption) | assumption)
         have q207 : x10_2 < (l3.length : Int) := of_decide_eq_true (by first | (with_reducible assumption) | assumption)
         obtain ⟨ad207, A207_0, c207_0, e207, hx207_0, hl207_0, hi207_0⟩ := zox HR3.out x10_2 p207 q207
         cases e207
         replace hx207_0 := (HB.out.cell (World.block_lt_of_cell? w _ hx207_0)).trans hx207_0
         have HR207_0 := za.mk hi207_0
         have HC207_0 := za.mk hl207_0
         clear hi207_0 hl207_0
         replace p207 := eq_true p207
         replace q207 := eq_true q207
         have p208 : 0 ≤ (x10_2 : Int) := of_decide_eq_true (by first | (with_reducible assumption) | assumption)
         have q208 : x10_2 < (t204.length : Int) := of_decide_eq_true (by first | (with_reducible assumption) | assumption)
         obtain ⟨ad208, e208, hx208_0⟩ := Kd.at_int (Kd.R_reads' HO_9.out).2.2 x10_2 p208 q208
         cases e208
         replace p208 := eq_true p208
         replace q208 := eq_true q208
         go_wp2
         repeat (go_quiet (fail); try go_wp2)
         go_roundg k2
         case measure => have := HJ5.out; have := HK2.out; omega
         case rel => exact ⟨(wrap64 (x10_2 + 1)), (by first | rfl | (simp; done) | (simp [*]; done)), H', ⟨by have := HJ5.out; have := HK2.out; omega⟩, ⟨by (with_reducible repeat (first | apply Kd.R_alloc | apply Kd.R_drewN | apply Kd.R_drew)); exact HO_9.out⟩, ⟨by (with_reducible repeat (first | refine zC ?_ _ | refine zL ?_ | refine zt ?_ _)); exact BK203.out⟩, ⟨by repeat (first | (with_reducible first | exact HB.out | apply zc | apply zb | apply zg | refine zn ?_ GE203.out) | exact HB.out)⟩⟩
        rw [if_neg c17] at H
        have c17b0 : (((zaf l3 x10_2).length : Int) == (rd t204 x10_2)) = false := beq_eq_false_iff_ne.mpr c17
        have c17b1 : (((zaf l3 x10_2).length : Int) != (rd t204 x10_2)) = true := bne_iff_ne.mpr c17
        obtain rfl := Option.some.inj H
        obtain ⟨Ao19, co19, eo19⟩ := Kd.R_slice HO_9.out
        subst eo19
        have p207 : 0 ≤ (x10_2 : Int) := of_decide_eq_true (by first | (with_reducible assumption) | assumption)
        have q207 : x10_2 < (l3.length : Int) := of_decide_eq_true (by first | (with_reducible assumption) | assumption)
        obtain ⟨ad207, A207_0, c207_0, e207, hx207_0, hl207_0, hi207_0⟩ := zox HR3.out x10_2 p207 q207
        cases e207
        replace hx207_0 := (HB.out.cell (World.block_lt_of_cell? w _ hx207_0)).trans hx207_0
        have HR207_0 := za.mk hi207_0
        have HC207_0 := za.mk hl207_0
        clear hi207_0 hl207_0
        replace p207 := eq_true p207
        replace q207 := eq_true q207
        have p208 : 0 ≤ (x10_2 : Int) := of_decide_eq_true (by first | (with_reducible assumption) | assumption)
        have q208 : x10_2 < (t204.length : Int) := of_decide_eq_true (by first | (with_reducible assumption) | assumption)
        obtain ⟨ad208, e208, hx208_0⟩ := Kd.at_int (Kd.R_reads' HO_9.out).2.2 x10_2 p208 q208
        cases e208
        replace p208 := eq_true p208
        replace q208 := eq_true q208
        go_wp2
        repeat (go_quiet (fail); try go_wp2)
        go_ret
        exact ⟨by first | rfl | (simp [errW_none, errW_some] <;> rfl) | (simp [*, errW_none, errW_some] <;> rfl), by repeat (first | (with_reducible first | exact HB.out | apply zc | apply zb | apply zg | refine zn ?_ GE203.out) | exact HB.out)⟩
       rw [if_neg c16] at H
       exact absurd H (by simp)
      rw [if_neg c15] at H
      exact absurd H (by simp)
     rw [if_neg c14] at H
     have c14b0 : decide (x10_2 < (t204.length : Int)) = false := decide_eq_false c14
     clear c14
     obtain rfl := Option.some.inj H
     obtain ⟨Ao20, co20, eo20⟩ := Kd.R_slice HO_9.out
     subst eo20
     go_wp2
     repeat (go_quiet (fail); try go_wp2)
     go_ret
     exact ⟨by first | rfl | (simp [errW_none, errW_some] <;> rfl) | (simp [*, errW_none, errW_some] <;> rfl), by repeat (first | (with_reducible first | exact HB.out | apply zc | apply zb | apply zg | refine zn ?_ GE203.out) | exact HB.out)⟩
end Go.Proofs.Ytpeiejkcoadhfaa.PViewEmpty
