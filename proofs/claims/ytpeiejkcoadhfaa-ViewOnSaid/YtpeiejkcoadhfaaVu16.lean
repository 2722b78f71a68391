/- What the view's laws take, Vu16: PDealPointsx0, PDealPointsx2. -/
import Derived.Test.YtpeiejkcoadhfaaVu01
import Derived.Test.YtpeiejkcoadhfaaVu02
import Derived.Test.YtpeiejkcoadhfaaVu03
import Derived.Test.YtpeiejkcoadhfaaVu06
import Derived.Test.YtpeiejkcoadhfaaVu07
import Derived.Test.YtpeiejkcoadhfaaVu08
import Derived.Test.YtpeiejkcoadhfaaProg
import Derived.Below
import Derived.Deep.Draws
import Derived.Deep.AppendLies
import Derived.Maps.AppendAt
import Derived.OwnWalk
import Derived.Laws.BytesArg
import Derived.Laws.MakeOwn
import Derived.Laws.OwnMore
import Derived.Deep.OwnRows
import Derived.Tactics
import Derived.Lib.ConvBytes
import Derived.Laws.Slices
import Derived.WalkKit
import Derived.KernelRfl
import Derived.RowKit3
import Derived.Deep.LoopGhost
import Derived.Deep.QuietTactic
import Derived.BigQuiet
import Derived.WideLaws
import Derived.Deep.DeepCutAuto
import Derived.Deep.CutBlock
import Derived.Deep.RegionHeld3
import Derived.Laws.Rows
import Derived.Lib.AppendStr
import Derived.ArgAppend
import Derived.Laws.IdiomCopy
import Derived.OrdersHeld
import Derived.Laws.BitsLemmas
import Derived.RowKit
set_option linter.all false
namespace Go.Proofs.Ytpeiejkcoadhfaa.PDealPoints
open Go.RowKit Go.Proofs.YtpeiejkcoadhfaaW.PrintWords Go.Proofs.YtpeiejkcoadhfaaW.PrintLast Go.Proofs.YtpeiejkcoadhfaaW.PrintMore
attribute [local go_sem] jt jk Zd jM yW jb jv jA
set_option linter.unusedVariables false
set_option linter.unusedSimpArgs false
theorem yJ : (Try.prog.info? 5).map (fun i => (i.zero, i.size, i.bytes)) = some (some (.int .u8 0), 1, 1) := by kernel_rfl
end Go.Proofs.Ytpeiejkcoadhfaa.PDealPoints
namespace Go.Proofs.Ytpeiejkcoadhfaa.PDealPoints
open Go.RowKit Go.Proofs.YtpeiejkcoadhfaaW.PrintWords Go.Proofs.YtpeiejkcoadhfaaW.PrintLast Go.Proofs.YtpeiejkcoadhfaaW.PrintMore
attribute [local go_sem] jt jk Zd jM yW jb jv jA
set_option linter.unusedVariables false
set_option linter.unusedSimpArgs false
def shamrockref10_Secrets.l0 : Nat → List Int → Int → Int → Int → Int → Int → Int → Option (List Int)
 | 0, _, _, _, _, _, _, _ => none
 | k + 1, x3, x4, x122000, x122001, x122002, x122003, x122004 => if x4 < x122002 then (if x3.length < 140737488355328 then (shamrockref10_Secrets.l0 k (x3 ++ [(wrap64 ((wrap64 (x122000 + 1)) + x4)) % 256]) (wrap64 (x4 + 1)) x122000 x122001 x122002 x122003 x122004) else (none)) else (some x3)
def shamrockref10_Secrets.f (k : Nat) (a0_0 : Int) (a0_1 : Int) (a0_2 : Int) (a0_3 : Int) (a0_4 : Int) : Option (List Int) := shamrockref10_Secrets.l0 k ([] : List Int) 0 a0_0 a0_1 a0_2 a0_3 a0_4
set_option maxHeartbeats 8000000 in
set_option maxRecDepth 100000 in
theorem shamrockref10_Secrets.calls (k : Nat) (a0_0 : Int) (a0_1 : Int) (a0_2 : Int) (a0_3 : Int) (a0_4 : Int) (r : List Int) (w : World) (h : shamrockref10_Secrets.f k a0_0 a0_1 a0_2 a0_3 a0_4 = some r) :
 Calls Try.prog 48 #[.agg #[.int .i64 a0_0, .int .i64 a0_1, .int .i64 a0_2, .int .i64 a0_3, .int .i64 a0_4]] w fun e w' => ∃ v0_ : Value, e = .returned (v0_) ∧ Kd.R (Kd.int .u8) 5 w' w.heap.size (fun _ => True) v0_ r ∧ Below w.heap.size w w' := by
 have hu48 := Try.underlying48
 have HB := za.mk (Below.refl w.heap.size w)
 have H : (shamrockref10_Secrets.l0 k ([] : List Int) 0 a0_0 a0_1 a0_2 a0_3 a0_4) = some r := h
 clear h
 have H' := za.mk H
 clear H
 go_enter Try.func48, Try.ntmps48
 go_wp2_with (first | ((with_reducible refine zT (N := 1) rfl ?_); refine zP ?hg (N := 1) ?hd (cs := #[.int .i64 a0_0, .int .i64 a0_1, .int .i64 a0_2, .int .i64 a0_3, .int .i64 a0_4]) (t := 48) ?hr ?_; (case hd => rfl); (case hg => rfl); (case hr => first | (go_simp; done) | (go_simp; rfl)); intro gb121 hg w2 hbox hb; have n0_ := za.mk (zu (by repeat (first | (with_reducible first | exact HB.out | apply zc | apply zb | apply zg) | exact HB.out)) hb); have n1_ := za.mk (hbox); have n2_ := za.mk ((by rw [hg]; exact (zr (by repeat (first | (with_reducible first | exact HB.out | apply zc | apply zb | apply zg) | exact HB.out))) : w.heap.size ≤ gb121)); have n3_ := za.mk ((by rw [hg]; exact (zr (by repeat (first | (with_reducible first | exact HB.out | apply zc | apply zb | apply zg) | exact HB.out))) : w.heap.size ≤ gb121)); clear HB; have HB := n0_; have BK121 := n1_; have GW121 := n2_; have GE121 := n3_; clear n0_ n1_ n2_ n3_; clear hb hbox hg))
 go_loopg [3, 4] k (fun kq v3 v4 w' => ∃ (x3_1 : List Int) (x4_1 : Int), v4 = .int .i64 x4_1 ∧ za (shamrockref10_Secrets.l0 kq x3_1 x4_1 a0_0 a0_1 a0_2 a0_3 a0_4 = some r) ∧ za (kq ≤ k) ∧ za (Kd.R (Kd.int .u8) 5 w' w.heap.size (fun _ => True) v3 x3_1) ∧ za (w'.heap[gb121]? = some (.cells #[.int .i64 a0_0, .int .i64 a0_1, .int .i64 a0_2, .int .i64 a0_3, .int .i64 a0_4] 48 (0, 0))) ∧ za (Below w.heap.size w w'))
 case atStart => exact ⟨(([] : List Int)), (0), (by first | rfl | (simp; done) | (simp [*]; done)), H', ⟨Nat.le_refl _⟩, ⟨by first | exact Kd.R_nil _ _ _ _ _ | exact Kd.N_nil _ _ _ _ _ | exact Kd.V_nil _ _ _ _ _ | exact Kd.Q_nil _ _ _ _ _ | exact Kd.S_nil _ _ _ _ _⟩, ⟨by (with_reducible repeat (first | refine zC ?_ _ | refine zL ?_ | refine zt ?_ _)); exact BK121.out⟩, ⟨by repeat (first | (with_reducible first | exact HB.out | apply zc | apply zb | apply zg | refine zn ?_ GE121.out) | exact HB.out)⟩⟩
 clear H'
 try clear p2
 obtain ⟨x3_1, x4_1, rfl, HA, HK1, HO_3, BK121, HB⟩ := hrel
 cases gk with
 | zero => exact absurd HA.out (by simp [shamrockref10_Secrets.l0])
 | succ k1 =>
   have H := HA.out
   clear HA
   simp only [shamrockref10_Secrets.l0] at H
   by_cases c3 : x4_1 < a0_2
   ·rw [if_pos c3] at H
    have c3b0 : decide (x4_1 < a0_2) = true := decide_eq_true c3
    clear c3
    by_cases c4 : x3_1.length < 140737488355328
    ·rw [if_pos c4] at H
     have LMc4 := za.mk c4
     clear c4
     obtain ⟨y122, hy122⟩ : ∃ y_ : List Int, y_ = (x3_1 ++ [(wrap64 ((wrap64 (a0_0 + 1)) + x4_1)) % 256]) := ⟨_, rfl⟩
     replace H : (shamrockref10_Secrets.l0 k1 y122 (wrap64 (x4_1 + 1)) a0_0 a0_1 a0_2 a0_3 a0_4) = some r := by first | (rw [hy122]; with_reducible exact H) | (have H2_ := (Option.bind_some _ _).symm.trans H; rw [hy122]; with_reducible exact H2_) | (have H2_ := (Option.bind_some _ _).symm.trans H; with_reducible exact H2_) | with_reducible exact H | (rw [hy122]; exact H) | exact H
     have Ny122 := za.mk hy122
     clear hy122
     have H' := za.mk H
     clear H
     have hcz5_0 : wr.cell? ⟨gb121, 0, none⟩ = some (.int .i64 a0_0) := (zi BK121.out 0).trans rfl
     have hcz5_1 : wr.cell? ⟨gb121, 1, none⟩ = some (.int .i64 a0_1) := (zi BK121.out 1).trans rfl
     have hcz5_2 : wr.cell? ⟨gb121, 2, none⟩ = some (.int .i64 a0_2) := (zi BK121.out 2).trans rfl
     have hcz5_3 : wr.cell? ⟨gb121, 3, none⟩ = some (.int .i64 a0_3) := (zi BK121.out 3).trans rfl
     have hcz5_4 : wr.cell? ⟨gb121, 4, none⟩ = some (.int .i64 a0_4) := (zi BK121.out 4).trans rfl
     have hfz5_0 := ze BK121.out 0
     have hfz5_1 := ze BK121.out 1
     have hfz5_2 := ze BK121.out 2
     have hfz5_3 := ze BK121.out 3
     have hfz5_4 := ze BK121.out 4
     go_wp2_with (first | ((with_reducible refine JK (b := .append) (xs := #[.tmp 11, .tmp 18]) rfl ?_); at_builtin; refine Kd.R_append (Kd.int .u8) (w0 := w) w.heap.size rfl (.tmp 11) (.tmp 18) 36 5 (.int .u8 0) 1 rfl Try.underlying36 yJ rfl (by decide) (by omega) u3 x3_1 ((wrap64 ((wrap64 (a0_0 + 1)) + x4_1)) % 256) [.int .u8 ((wrap64 ((wrap64 (a0_0 + 1)) + x4_1)) % 256)] (fun _ => True) (fun _ => False) rfl rfl ?aP (fun _ hk => hk.elim) ?aF ?aO ?aB ?aS ?aL ?_; (case aP => exact rfl); (case aB => exact (by repeat (first | (with_reducible first | exact HB.out | apply zc | apply zb | apply zg | refine zn ?_ GE121.out) | exact HB.out))); (case aF => exact (fun _ _ => trivial)); (case aO => exact (by (with_reducible repeat (first | apply Kd.R_alloc | apply Kd.R_drewN | apply Kd.R_drew)); exact HO_3.out)); (case aS => exact (zr (by repeat (first | (with_reducible first | exact HB.out | apply zc | apply zb | apply zg | refine zn ?_ GE121.out) | exact HB.out)))); (case aL => have := LMc4.out; omega); intro v123 w6 ho hb hg hat; rw [← Ny122.out] at ho; have n0_ := za.mk (zcn (g := gb121) (o := .cells #[.int .i64 a0_0, .int .i64 a0_1, .int .i64 a0_2, .int .i64 a0_3, .int .i64 a0_4] 48 (0, 0)) (by (with_reducible repeat (first | refine zC ?_ _ | refine zL ?_ | refine zt ?_ _)); exact BK121.out) hg (Kd.R_ne HO_3.out BK121.out (by decide))); have n1_ := za.mk (hb); have n2_ := za.mk (ho); clear BK121; clear HB; clear HO_3; have BK121 := n0_; have HB := n1_; have HO124 := n2_; clear n0_ n1_ n2_; clear ho hb hg hat))
     go_roundg k1
     case measure => have := HK1.out; omega
     case rel => exact ⟨(y122), (wrap64 (x4_1 + 1)), (by first | rfl | (simp; done) | (simp [*]; done)), H', ⟨by have := HK1.out; omega⟩, ⟨by (with_reducible repeat (first | apply Kd.R_alloc | apply Kd.R_drewN | apply Kd.R_drew)); exact HO124.out⟩, ⟨by (with_reducible repeat (first | refine zC ?_ _ | refine zL ?_ | refine zt ?_ _)); exact BK121.out⟩, ⟨by repeat (first | (with_reducible first | exact HB.out | apply zc | apply zb | apply zg | refine zn ?_ GE121.out) | exact HB.out)⟩⟩
    rw [if_neg c4] at H
    exact absurd H (by simp)
   rw [if_neg c3] at H
   have c3b0 : decide (x4_1 < a0_2) = false := decide_eq_false c3
   clear c3
   obtain rfl := Option.some.inj H
   have hcz7_0 : wr.cell? ⟨gb121, 0, none⟩ = some (.int .i64 a0_0) := (zi BK121.out 0).trans rfl
   have hcz7_1 : wr.cell? ⟨gb121, 1, none⟩ = some (.int .i64 a0_1) := (zi BK121.out 1).trans rfl
   have hcz7_2 : wr.cell? ⟨gb121, 2, none⟩ = some (.int .i64 a0_2) := (zi BK121.out 2).trans rfl
   have hcz7_3 : wr.cell? ⟨gb121, 3, none⟩ = some (.int .i64 a0_3) := (zi BK121.out 3).trans rfl
   have hcz7_4 : wr.cell? ⟨gb121, 4, none⟩ = some (.int .i64 a0_4) := (zi BK121.out 4).trans rfl
   have hfz7_0 := ze BK121.out 0
   have hfz7_1 := ze BK121.out 1
   have hfz7_2 := ze BK121.out 2
   have hfz7_3 := ze BK121.out 3
   have hfz7_4 := ze BK121.out 4
   go_wp2
   go_ret
   exact ⟨_, by first | rfl | (simp [errW_none, errW_some] <;> rfl) | (simp [*, errW_none, errW_some] <;> rfl), by (with_reducible repeat (first | apply Kd.R_alloc | apply Kd.R_drewN | apply Kd.R_drew)); exact HO_3.out, by repeat (first | (with_reducible first | exact HB.out | apply zc | apply zb | apply zg | refine zn ?_ GE121.out) | exact HB.out)⟩
def shamrockref10_Each.j0 : Nat → Int → Bool → Int → Int → Int → Int → Int → Option (Int)
 | 0, _, _, _, _, _, _, _ => none
 | k + 1, x1, x10, x126000, x126001, x126002, x126003, x126004 => if x10 = true then (some x126001) else (if x1 = 3 then (some (wrap64 ((wrap64 (x126001 + x126002)) - 1))) else (if x1 = 4 then (some (wrap64 (x126001 + x126002))) else (some 0)))
def shamrockref10_Each.f (k : Nat) (a0_0 : Int) (a0_1 : Int) (a0_2 : Int) (a0_3 : Int) (a0_4 : Int) (a1 : Int) : Option (Int) := if a1 = 1 then (shamrockref10_Each.j0 k a1 true a0_0 a0_1 a0_2 a0_3 a0_4) else (shamrockref10_Each.j0 k a1 (a1 == 2) a0_0 a0_1 a0_2 a0_3 a0_4)
set_option maxHeartbeats 8000000 in
set_option maxRecDepth 100000 in
theorem shamrockref10_Each.calls (k : Nat) (a0_0 : Int) (a0_1 : Int) (a0_2 : Int) (a0_3 : Int) (a0_4 : Int) (a1 : Int) (r : Int) (w : World) (h : shamrockref10_Each.f k a0_0 a0_1 a0_2 a0_3 a0_4 a1 = some r) :
 Calls Try.prog 50 #[.agg #[.int .i64 a0_0, .int .i64 a0_1, .int .i64 a0_2, .int .i64 a0_3, .int .i64 a0_4], .int .i64 a1] w fun e w' => e = .returned (.int .i64 r) ∧ Below w.heap.size w w' := by
 have hu48 := Try.underlying48
 have HB := za.mk (Below.refl w.heap.size w)
 have H : (if a1 = 1 then (shamrockref10_Each.j0 k a1 true a0_0 a0_1 a0_2 a0_3 a0_4) else (shamrockref10_Each.j0 k a1 (a1 == 2) a0_0 a0_1 a0_2 a0_3 a0_4)) = some r := h
 clear h
 have HC3 := za.mk H
 clear H
 go_enter Try.func50, Try.ntmps50
 go_upto_region 1 with (first | ((with_reducible refine zT (N := 2) rfl ?_); refine zP ?hg (N := 2) ?hd (cs := #[.int .i64 a0_0, .int .i64 a0_1, .int .i64 a0_2, .int .i64 a0_3, .int .i64 a0_4]) (t := 48) ?hr ?_; (case hd => rfl); (case hg => rfl); (case hr => first | (go_simp; done) | (go_simp; rfl)); intro gb125 hg w4 hbox hb; have n0_ := za.mk (zu (by repeat (first | (with_reducible first | exact HB.out | apply zc | apply zb | apply zg) | exact HB.out)) hb); have n1_ := za.mk (hbox); have n2_ := za.mk ((by rw [hg]; exact (zr (by repeat (first | (with_reducible first | exact HB.out | apply zc | apply zb | apply zg) | exact HB.out))) : w.heap.size ≤ gb125)); have n3_ := za.mk ((by rw [hg]; exact (zr (by repeat (first | (with_reducible first | exact HB.out | apply zc | apply zb | apply zg) | exact HB.out))) : w.heap.size ≤ gb125)); clear HB; have HB := n0_; have BK125 := n1_; have GW125 := n2_; have GE125 := n3_; clear n0_ n1_ n2_ n3_; clear hb hbox hg))
 (try simp only [Act.put, List.setIfInBounds_toArray, List.set_cons_zero, List.set_cons_succ])
 go_cut [10] (fun v10 wc => ∃ (kq : Nat) (x10_2 : Bool), v10 = .bool x10_2 ∧ za (shamrockref10_Each.j0 kq a1 x10_2 a0_0 a0_1 a0_2 a0_3 a0_4 = some r) ∧ za (kq ≤ k) ∧ za (wc.heap[gb125]? = some (.cells #[.int .i64 a0_0, .int .i64 a0_1, .int .i64 a0_2, .int .i64 a0_3, .int .i64 a0_4] 48 (0, 0))) ∧ za (Below w.heap.size w wc))
 case first =>
  have H := HC3.out
  clear HC3
  by_cases c5 : a1 = 1
  ·rw [if_pos c5] at H
   have c5b0 : (a1 == 1) = true := beq_iff_eq.mpr c5
   have c5b1 : (a1 != 1) = false := bne_eq_false_iff_eq.mpr c5
   clear c5
   (first | rw [c5b0] | (simp only [yY, jG]; rw [c5b0]) | skip)
   have H' := za.mk H
   clear H
   go_wp2
   go_meet
   case rel => exact ⟨_, (true), (by first | rfl | (simp; done) | (simp [*]; done)), H', ⟨by first | omega | exact Nat.le_refl _⟩, ⟨by (with_reducible repeat (first | refine zC ?_ _ | refine zL ?_ | refine zt ?_ _)); exact BK125.out⟩, ⟨by repeat (first | (with_reducible first | exact HB.out | apply zc | apply zb | apply zg | refine zn ?_ GE125.out) | exact HB.out)⟩⟩
  rw [if_neg c5] at H
  have c5b0 : (a1 == 1) = false := beq_eq_false_iff_ne.mpr c5
  have c5b1 : (a1 != 1) = true := bne_iff_ne.mpr c5
  (first | rw [c5b0] | (simp only [yY, jG]; rw [c5b0]) | skip)
  have H' := za.mk H
  clear H
  go_wp2
  go_meet
  case rel => exact ⟨_, ((a1 == 2)), (by first | rfl | (simp; done) | (simp [*]; done)), H', ⟨by first | omega | exact Nat.le_refl _⟩, ⟨by (with_reducible repeat (first | refine zC ?_ _ | refine zL ?_ | refine zt ?_ _)); exact BK125.out⟩, ⟨by repeat (first | (with_reducible first | exact HB.out | apply zc | apply zb | apply zg | refine zn ?_ GE125.out) | exact HB.out)⟩⟩
 clear HC3
 try clear p2
 try clear c5
 try clear c5b0
 try clear c5b1
 obtain ⟨kq, x10_2, rfl, HA, HJ2, BK125, HB⟩ := hcut
 cases kq with
 | zero => exact absurd HA.out (by simp [shamrockref10_Each.j0])
 | succ kj2 =>
   have H := HA.out
   clear HA
   simp only [shamrockref10_Each.j0] at H
   by_cases c6 : x10_2 = true
   ·subst c6
    have H1 : (some a0_1) = some r := by rw [if_pos rfl] at H; exact H
    clear H
    have H := H1
    clear H1
    obtain rfl := Option.some.inj H
    have hcz7_0 : wc.cell? ⟨gb125, 0, none⟩ = some (.int .i64 a0_0) := (zi BK125.out 0).trans rfl
    have hcz7_1 : wc.cell? ⟨gb125, 1, none⟩ = some (.int .i64 a0_1) := (zi BK125.out 1).trans rfl
    have hcz7_2 : wc.cell? ⟨gb125, 2, none⟩ = some (.int .i64 a0_2) := (zi BK125.out 2).trans rfl
    have hcz7_3 : wc.cell? ⟨gb125, 3, none⟩ = some (.int .i64 a0_3) := (zi BK125.out 3).trans rfl
    have hcz7_4 : wc.cell? ⟨gb125, 4, none⟩ = some (.int .i64 a0_4) := (zi BK125.out 4).trans rfl
    have hfz7_0 := ze BK125.out 0
    have hfz7_1 := ze BK125.out 1
    have hfz7_2 := ze BK125.out 2
    have hfz7_3 := ze BK125.out 3
    have hfz7_4 := ze BK125.out 4
    go_wp2
    go_ret
    exact ⟨by first | rfl | (simp [errW_none, errW_some] <;> rfl) | (simp [*, errW_none, errW_some] <;> rfl), by repeat (first | (with_reducible first | exact HB.out | apply zc | apply zb | apply zg | refine zn ?_ GE125.out) | exact HB.out)⟩
   replace c6 := Bool.eq_false_iff.mpr c6
   subst c6
   have H1 : (if a1 = 3 then (some (wrap64 ((wrap64 (a0_1 + a0_2)) - 1))) else (if a1 = 4 then (some (wrap64 (a0_1 + a0_2))) else (some 0))) = some r := by rw [if_neg (show ¬ (false = true) by decide)] at H; exact H
   clear H
   have H := H1
   clear H1
   by_cases c8 : a1 = 3
   ·rw [if_pos c8] at H
    have c8b0 : (a1 == 3) = true := beq_iff_eq.mpr c8
    have c8b1 : (a1 != 3) = false := bne_eq_false_iff_eq.mpr c8
    clear c8
    obtain rfl := Option.some.inj H
    have hcz9_0 : wc.cell? ⟨gb125, 0, none⟩ = some (.int .i64 a0_0) := (zi BK125.out 0).trans rfl
    have hcz9_1 : wc.cell? ⟨gb125, 1, none⟩ = some (.int .i64 a0_1) := (zi BK125.out 1).trans rfl
    have hcz9_2 : wc.cell? ⟨gb125, 2, none⟩ = some (.int .i64 a0_2) := (zi BK125.out 2).trans rfl
    have hcz9_3 : wc.cell? ⟨gb125, 3, none⟩ = some (.int .i64 a0_3) := (zi BK125.out 3).trans rfl
    have hcz9_4 : wc.cell? ⟨gb125, 4, none⟩ = some (.int .i64 a0_4) := (zi BK125.out 4).trans rfl
    have hfz9_0 := ze BK125.out 0
    have hfz9_1 := ze BK125.out 1
    have hfz9_2 := ze BK125.out 2
    have hfz9_3 := ze BK125.out 3
    have hfz9_4 := ze BK125.out 4
    go_wp2
    go_ret
    exact ⟨by first | rfl | (simp [errW_none, errW_some] <;> rfl) | (simp [*, errW_none, errW_some] <;> rfl), by repeat (first | (with_reducible first | exact HB.out | apply zc | apply zb | apply zg | refine zn ?_ GE125.out) | exact HB.out)⟩
   rw [if_neg c8] at H
   have c8b0 : (a1 == 3) = false := beq_eq_false_iff_ne.mpr c8
   have c8b1 : (a1 != 3) = true := bne_iff_ne.mpr c8
   by_cases c10 : a1 = 4
   ·rw [if_pos c10] at H
    have c10b0 : (a1 == 4) = true := beq_iff_eq.mpr c10
    have c10b1 : (a1 != 4) = false := bne_eq_false_iff_eq.mpr c10
    clear c10
    obtain rfl := Option.some.inj H
    have hcz11_0 : wc.cell? ⟨gb125, 0, none⟩ = some (.int .i64 a0_0) := (zi BK125.out 0).trans rfl
    have hcz11_1 : wc.cell? ⟨gb125, 1, none⟩ = some (.int .i64 a0_1) := (zi BK125.out 1).trans rfl
    have hcz11_2 : wc.cell? ⟨gb125, 2, none⟩ = some (.int .i64 a0_2) := (zi BK125.out 2).trans rfl
    have hcz11_3 : wc.cell? ⟨gb125, 3, none⟩ = some (.int .i64 a0_3) := (zi BK125.out 3).trans rfl
    have hcz11_4 : wc.cell? ⟨gb125, 4, none⟩ = some (.int .i64 a0_4) := (zi BK125.out 4).trans rfl
    have hfz11_0 := ze BK125.out 0
    have hfz11_1 := ze BK125.out 1
    have hfz11_2 := ze BK125.out 2
    have hfz11_3 := ze BK125.out 3
    have hfz11_4 := ze BK125.out 4
    go_wp2
    go_ret
    exact ⟨by first | rfl | (simp [errW_none, errW_some] <;> rfl) | (simp [*, errW_none, errW_some] <;> rfl), by repeat (first | (with_reducible first | exact HB.out | apply zc | apply zb | apply zg | refine zn ?_ GE125.out) | exact HB.out)⟩
   rw [if_neg c10] at H
   have c10b0 : (a1 == 4) = false := beq_eq_false_iff_ne.mpr c10
   have c10b1 : (a1 != 4) = true := bne_iff_ne.mpr c10
   obtain rfl := Option.some.inj H
   go_wp2
   go_ret
   exact ⟨by first | rfl | (simp [errW_none, errW_some] <;> rfl) | (simp [*, errW_none, errW_some] <;> rfl), by repeat (first | (with_reducible first | exact HB.out | apply zc | apply zb | apply zg | refine zn ?_ GE125.out) | exact HB.out)⟩
end Go.Proofs.Ytpeiejkcoadhfaa.PDealPoints
