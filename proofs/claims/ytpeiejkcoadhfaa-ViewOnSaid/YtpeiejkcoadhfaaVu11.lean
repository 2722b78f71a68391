/- What the view's laws take, Vu11: PDealSecretx0, PDealSecretx1. -/
import Derived.Test.YtpeiejkcoadhfaaVu01
import Derived.Test.YtpeiejkcoadhfaaVu02
import Derived.Test.YtpeiejkcoadhfaaVu03
import Derived.Test.YtpeiejkcoadhfaaVu06
import Derived.Test.YtpeiejkcoadhfaaVu07
import Derived.Test.YtpeiejkcoadhfaaVu08
import Derived.Test.YtpeiejkcoadhfaaProg
import Derived.Below
import Derived.Deep.Draws
import Derived.Deep.AppendLies
import Derived.Maps.AppendAt
import Derived.OwnWalk
import Derived.Laws.BytesArg
import Derived.Laws.MakeOwn
import Derived.Laws.OwnMore
import Derived.Deep.OwnRows
import Derived.Tactics
import Derived.Lib.ConvBytes
import Derived.Laws.Slices
import Derived.WalkKit
import Derived.KernelRfl
import Derived.RowKit3
import Derived.Deep.LoopGhost
import Derived.Deep.QuietTactic
import Derived.BigQuiet
import Derived.WideLaws
import Derived.Deep.DeepCutAuto
import Derived.Deep.CutBlock
import Derived.Deep.RegionHeld3
import Derived.Laws.Rows
import Derived.Lib.AppendStr
import Derived.ArgAppend
import Derived.Laws.IdiomCopy
import Derived.OrdersHeld
import Derived.Laws.BitsLemmas
import Derived.RowKit
set_option linter.all false
namespace Go.Proofs.Ytpeiejkcoadhfaa.PDealSecret
open Go.RowKit Go.Proofs.YtpeiejkcoadhfaaW.PrintWords Go.Proofs.YtpeiejkcoadhfaaW.PrintLast Go.Proofs.YtpeiejkcoadhfaaW.PrintMore
attribute [local go_sem] jt jk Zd jM yW jb jv jA
set_option linter.unusedVariables false
set_option linter.unusedSimpArgs false
theorem yJ : (Try.prog.info? 5).map (fun i => (i.zero, i.size, i.bytes)) = some (some (.int .u8 0), 1, 1) := by kernel_rfl
theorem zgh : (Try.prog.info? 36).map (fun i => (i.zero, i.size, i.bytes)) = some (some (.slice none 0 0), 1, 24) := by kernel_rfl
end Go.Proofs.Ytpeiejkcoadhfaa.PDealSecret
namespace Go.Proofs.Ytpeiejkcoadhfaa.PDealSecret
open Go.RowKit Go.Proofs.YtpeiejkcoadhfaaW.PrintWords Go.Proofs.YtpeiejkcoadhfaaW.PrintLast Go.Proofs.YtpeiejkcoadhfaaW.PrintMore
attribute [local go_sem] jt jk Zd jM yW jb jv jA
set_option linter.unusedVariables false
set_option linter.unusedSimpArgs false
mutual
def shamrockref06_Split.l0 : Nat → List Int → Int → List (List Int) → Int → Option ((List (List Int)))
 | 0, _, _, _, _ => none
 | k + 1, x0, x1, x5, x6 => if x6 < (x0.length : Int) then (if 0 ≤ x1 then (if (x1 : Int).toNat ≤ 281474976710656 then (shamrockref06_Split.l1 k x0 x1 x5 x6 (List.replicate (x1 : Int).toNat 0) 0) else (none)) else (none)) else (some x5)
def shamrockref06_Split.l1 : Nat → List Int → Int → List (List Int) → Int → List Int → Int → Option ((List (List Int)))
 | 0, _, _, _, _, _, _ => none
 | k + 1, x0, x1, x5, x6, x7, x8 => if x8 < x1 then (if (wrap64 (x6 + x8)) < (x0.length : Int) then (if 0 ≤ (wrap64 (x6 + x8)) then (if 0 ≤ x8 then (if x8 < (x7.length : Int) then (shamrockref06_Split.l1 k x0 x1 x5 x6 (x7.set (x8 : Int).toNat (rd x0 (wrap64 (x6 + x8)))) (wrap64 (x8 + 1))) else (none)) else (none)) else (none)) else (if x5.length < 5864062014805 then (shamrockref06_Split.l0 k x0 x1 (x5 ++ [x7]) (wrap64 (x6 + x1))) else (none))) else (if x5.length < 5864062014805 then (shamrockref06_Split.l0 k x0 x1 (x5 ++ [x7]) (wrap64 (x6 + x1))) else (none))
end
def shamrockref06_Split.f (k : Nat) (l0 : List Int) (a1 : Int) : Option ((List (List Int))) := shamrockref06_Split.l0 k l0 a1 ([] : List (List Int)) 0
set_option maxHeartbeats 8000000 in
set_option maxRecDepth 100000 in
theorem shamrockref06_Split.calls (k : Nat) (A0 : Option Addr) (c0 : Nat) (l0 : List Int) (a1 : Int) (r : List (List Int)) (w : World) (hr0 : Kd.C (Kd.int .u8) w A0 l0.length l0) (hc0 : l0.length ≤ c0) (h : shamrockref06_Split.f k l0 a1 = some r) :
 Calls Try.prog 41 #[.slice A0 l0.length c0, .int .i64 a1] w fun e w' => ∃ v0_ : Value, e = .returned (v0_) ∧ Kd.S (Kd.slice 5 (Kd.int .u8)) 36 w' w.heap.size (fun _ => True) v0_ r ∧ Below w.heap.size w w' := by
 have HR0 := za.mk hr0
 have HC0 := za.mk hc0
 clear hr0 hc0
 have HB := za.mk (Below.refl w.heap.size w)
 have H : (shamrockref06_Split.l0 k l0 a1 ([] : List (List Int)) 0) = some r := h
 clear h
 have H' := za.mk H
 clear H
 go_enter Try.func41, Try.ntmps41
 go_wp2
 go_loopg [5, 6] k (fun kq v5 v6 w' => ∃ (x5_1 : List (List Int)) (x6_1 : Int), v6 = .int .i64 x6_1 ∧ za (shamrockref06_Split.l0 kq l0 a1 x5_1 x6_1 = some r) ∧ za (kq ≤ k) ∧ za (Kd.S (Kd.slice 5 (Kd.int .u8)) 36 w' w.heap.size (fun _ => True) v5 x5_1) ∧ za (Below w.heap.size w w'))
 case atStart => exact ⟨(([] : List (List Int))), (0), (by first | rfl | (simp; done) | (simp [*]; done)), H', ⟨Nat.le_refl _⟩, ⟨by first | exact Kd.S_nil _ _ _ _ _ | exact Kd.N_nil _ _ _ _ _ | exact Kd.V_nil _ _ _ _ _ | exact Kd.Q_nil _ _ _ _ _ | exact Kd.R_nil _ _ _ _ _⟩, ⟨by repeat (first | (with_reducible first | exact HB.out | apply zc | apply zb | apply zg) | exact HB.out)⟩⟩
 clear H'
 try clear p2
 obtain ⟨x5_1, x6_1, rfl, HA, HK1, HO_5, HB⟩ := hrel
 cases gk with
 | zero => exact absurd HA.out (by simp [shamrockref06_Split.l0])
 | succ k1 =>
   have H := HA.out
   clear HA
   simp only [shamrockref06_Split.l0] at H
   by_cases c3 : x6_1 < (l0.length : Int)
   ·rw [if_pos c3] at H
    have c3b0 : decide (x6_1 < (l0.length : Int)) = true := decide_eq_true c3
    clear c3
    by_cases c4 : 0 ≤ a1
    ·rw [if_pos c4] at H
     have c4b0 := eq_true c4
     have c4b1 : decide (0 ≤ a1) = true := decide_eq_true c4
     clear c4
     by_cases c5 : (a1 : Int).toNat ≤ 281474976710656
     ·rw [if_pos c5] at H
      have c5b0 := eq_true c5
      have c5b1 : decide ((a1 : Int).toNat ≤ 281474976710656) = true := decide_eq_true c5
      clear c5
      obtain ⟨y101, hy101⟩ : ∃ y_ : List Int, y_ = (List.replicate (a1 : Int).toNat 0) := ⟨_, rfl⟩
      replace H : (shamrockref06_Split.l1 k1 l0 a1 x5_1 x6_1 y101 0) = some r := by first | (rw [hy101]; with_reducible exact H) | (have H2_ := (Option.bind_some _ _).symm.trans H; rw [hy101]; with_reducible exact H2_) | (have H2_ := (Option.bind_some _ _).symm.trans H; with_reducible exact H2_) | with_reducible exact H | (rw [hy101]; exact H) | exact H
      have Ny101 := za.mk hy101
      clear hy101
      have H' := za.mk H
      clear H
      go_wp2_with (first | ((with_reducible refine zT (N := 17) rfl ?_); (try (refine Zu (by rfl) ?_; dsimp only)); refine Kd.R_make (Kd.int .u8) _ 5 rfl (N := 17) rfl 36 _ _ rfl a1 rfl rfl Try.underlying36 (.int .u8 0) 1 yJ rfl (by decide) (by omega) 0 (ok := fun _ => True) (okp := fun _ => True) rfl (fun _ hk => hk) trivial (of_decide_eq_true (by first | (with_reducible assumption) | assumption)) (Nat.le_trans (Nat.mul_le_mul_right _ (of_decide_eq_true (by first | (with_reducible assumption) | assumption) : a1.toNat ≤ 281474976710656)) (by omega)) (Below.refl _ _) (Nat.le_refl _) ?_; intro v102 w6 ho7 hb hg_ hnew_; clear hg_ hnew_; (first | rw [← Ny101.out] at ho7 | (simp only [Int.reduceToNat] at ho7; rw [← Ny101.out] at ho7)); have n0_ := za.mk (Kd.S_elder' (by (with_reducible repeat (first | apply Kd.S_alloc | apply Kd.S_drewN | apply Kd.S_drew)); exact HO_5.out) (Kd.R_base ho7) hb); have n1_ := za.mk (Kd.R_lower ho7 (zr (by repeat (first | (with_reducible first | exact HB.out | apply zc | apply zb | apply zg) | exact HB.out)))); have n2_ := za.mk (zu (by repeat (first | (with_reducible first | exact HB.out | apply zc | apply zb | apply zg) | exact HB.out)) hb); clear HO_5; clear HB; have HO_5 := n0_; have HO103 := n1_; have HB := n2_; clear n0_ n1_ n2_; clear hb ho7))
      go_loopg [8] k1 (fun kq v8 w' => ∃ (x7_2 : List Int) (x8_2 : Int), v8 = .int .i64 x8_2 ∧ za (shamrockref06_Split.l1 kq l0 a1 x5_1 x6_1 x7_2 x8_2 = some r) ∧ za (kq ≤ k1) ∧ za (Kd.S (Kd.slice 5 (Kd.int .u8)) 36 w' w.heap.size (fun k_ => some k_ ≠ (v102 : Value).ownBlock) u5 x5_1) ∧ za (Kd.R (Kd.int .u8) 5 w' w.heap.size (fun _ => True) v102 x7_2) ∧ za (Below w.heap.size w w'))
      case atStart => exact ⟨(y101), (0), (by first | rfl | (simp; done) | (simp [*]; done)), H', ⟨Nat.le_refl _⟩, ⟨by (with_reducible repeat (first | apply Kd.S_alloc | apply Kd.S_drewN | apply Kd.S_drew)); exact Kd.S_mono HO_5.out (fun _ hk => hk.2)⟩, ⟨by (with_reducible repeat (first | apply Kd.R_alloc | apply Kd.R_drewN | apply Kd.R_drew)); exact HO103.out⟩, ⟨by repeat (first | (with_reducible first | exact HB.out | apply zc | apply zb | apply zg) | exact HB.out)⟩⟩
      clear H'
      try clear p2
      try clear c3
      try clear c3b0
      try clear c4
      try clear c4b0
      try clear c4b1
      try clear c5
      try clear c5b0
      try clear c5b1
      try clear p2
      obtain ⟨x7_2, x8_2, rfl, HA, HK2, HO_5, HO_7, HB⟩ := hrel
      cases gk with
      | zero => exact absurd HA.out (by simp [shamrockref06_Split.l1])
      | succ k2 =>
        have H := HA.out
        clear HA
        simp only [shamrockref06_Split.l1] at H
        by_cases c8 : x8_2 < a1
        ·rw [if_pos c8] at H
         have c8b0 : decide (x8_2 < a1) = true := decide_eq_true c8
         clear c8
         by_cases c9 : (wrap64 (x6_1 + x8_2)) < (l0.length : Int)
         ·rw [if_pos c9] at H
          have c9b0 : decide ((wrap64 (x6_1 + x8_2)) < (l0.length : Int)) = true := decide_eq_true c9
          clear c9
          obtain ⟨ji10, hji10⟩ : ∃ j_ : Int, (wrap64 (x6_1 + x8_2)) = j_ := ⟨_, rfl⟩
          replace H : (if 0 ≤ (ji10) then (if 0 ≤ x8_2 then (if x8_2 < (x7_2.length : Int) then (shamrockref06_Split.l1 k2 l0 a1 x5_1 x6_1 (x7_2.set (x8_2 : Int).toNat (rd l0 (ji10))) (wrap64 (x8_2 + 1))) else (none)) else (none)) else (none)) = some r := by first | (rw [hji10] at H; exact H) | (simp only [hji10] at H ⊢; exact H)
          (try rw [hji10] at c9b0)
          have hji10w : (IntKind.i64.wrap (x6_1 + x8_2)) = ji10 := (yY _).trans hji10
          by_cases c11 : 0 ≤ (ji10)
          ·rw [if_pos c11] at H
           have c11b0 : decide (0 ≤ (ji10)) = true := decide_eq_true c11
           clear c11
           by_cases c12 : 0 ≤ x8_2
           ·rw [if_pos c12] at H
            have c12b0 : decide (0 ≤ x8_2) = true := decide_eq_true c12
            clear c12
            by_cases c13 : x8_2 < (x7_2.length : Int)
            ·rw [if_pos c13] at H
             have c13b0 : decide (x8_2 < (x7_2.length : Int)) = true := decide_eq_true c13
             clear c13
             obtain ⟨y105, hy105⟩ : ∃ y_ : List Int, y_ = (x7_2.set (x8_2 : Int).toNat (rd l0 (ji10))) := ⟨_, rfl⟩
             replace H : (shamrockref06_Split.l1 k2 l0 a1 x5_1 x6_1 y105 (wrap64 (x8_2 + 1))) = some r := by first | (rw [hy105]; with_reducible exact H) | (have H2_ := (Option.bind_some _ _).symm.trans H; rw [hy105]; with_reducible exact H2_) | (have H2_ := (Option.bind_some _ _).symm.trans H; with_reducible exact H2_) | with_reducible exact H | (rw [hy105]; exact H) | exact H
             have Ny105 := za.mk hy105
             clear hy105
             have H' := za.mk H
             clear H
             have p104 : 0 ≤ ((ji10) : Int) := of_decide_eq_true (by first | (with_reducible assumption) | assumption)
             have q104 : (ji10) < (l0.length : Int) := of_decide_eq_true (by first | (with_reducible assumption) | assumption)
             obtain ⟨ad104, e104, hx104_0⟩ := Kd.at_int HR0.out (ji10) p104 q104
             cases e104
             replace hx104_0 := (HB.out.cell (World.block_lt_of_cell? w _ hx104_0)).trans hx104_0
             replace p104 := eq_true p104
             replace q104 := eq_true q104
             have p14 : 0 ≤ (x8_2 : Int) := of_decide_eq_true (by first | (with_reducible assumption) | assumption)
             have q14 : (x8_2 : Int) < ((x7_2.length : Int) : Int) := of_decide_eq_true (by first | (with_reducible assumption) | assumption)
             obtain ⟨go14, co14, eo14, gb14, gl14, cl14, HG14⟩ := Kd.R_form HO_7.out (by omega)
             (first | cases eo14 | (injection eo14 with ea_ en_ ec_; (first | subst ea_ | (injection ea_ with ea_; subst ea_)); subst ec_; clear en_))
             have GB14 := za.mk gb14
             have GG14 := za.mk HG14
             clear gb14 gl14 HG14
             obtain ⟨hx14_0, hf14_0⟩ := Kd.R_celln 0 HO_7.out (x8_2 : Int) p14 q14
             replace p14 := eq_true p14
             replace q14 := eq_true q14
             have HP15 := Kd.R_putg HO_7.out (x8_2 : Int) (rd l0 (ji10))
             go_wp2_with (first | ((with_reducible refine zhU (t := 5) (p := 39) rfl ?_); refine zhf (t := 5) (p := 39) (v := ?vo_w16) (w1 := (wr.setCell ⟨go14, (x8_2 : Int).toNat, none⟩ (.int .u8 (rd l0 (ji10))))) ?hg ?ho ?hn ?hr ?_; (case ho => rfl); (case hg => rfl); (case hn => rfl); (case hr => first | (go_simp; done) | (go_simp; rfl)); intro w16 hw; have hg : wr.grownBy w16 (some go14) := (by rw [hw]; exact HP15.2); have hp_ : Kd.R (Kd.int .u8) 5 w16 w.heap.size (fun _ => True) (.slice (some ⟨go14, 0, none⟩) x7_2.length co14) y105 := (by rw [hw, Ny105.out]; exact HP15.1); clear HP15; have n0_ := za.mk (Kd.S_after (v := (.slice (some ⟨go14, 0, none⟩) x7_2.length co14)) (v1 := (.slice (some ⟨go14, 0, none⟩) x7_2.length co14)) (ok := (fun _ => True)) (by (with_reducible repeat (first | apply Kd.S_alloc | apply Kd.S_drewN | apply Kd.S_drew)); exact Kd.S_mono HO_5.out (fun _ hk => ⟨trivial, hk⟩)) hg (.inl rfl)); have n1_ := za.mk (hp_); have n2_ := za.mk ((by rw [hw]; exact zn (HB.out) GB14.out : Below w.heap.size w w16)); clear HO_5; clear HO_7; clear HB; have HO_5 := n0_; have HO_7 := n1_; have HB := n2_; clear n0_ n1_ n2_; clear hg hw hp_))
             go_roundg k2
             case measure => have := HK1.out; have := HK2.out; omega
             case rel => exact ⟨(y105), (wrap64 (x8_2 + 1)), (by first | rfl | (simp; done) | (simp [*]; done)), H', ⟨by have := HK1.out; have := HK2.out; omega⟩, ⟨by (with_reducible repeat (first | apply Kd.S_alloc | apply Kd.S_drewN | apply Kd.S_drew)); exact Kd.S_mono HO_5.out (fun _ hk => hk.2)⟩, ⟨by (with_reducible repeat (first | apply Kd.R_alloc | apply Kd.R_drewN | apply Kd.R_drew)); exact HO_7.out⟩, ⟨by repeat (first | (with_reducible first | exact HB.out | apply zc | apply zb | apply zg) | exact HB.out)⟩⟩
            rw [if_neg c13] at H
            exact absurd H (by simp)
           rw [if_neg c12] at H
           exact absurd H (by simp)
          rw [if_neg c11] at H
          exact absurd H (by simp)
         rw [if_neg c9] at H
         have c9b0 : decide ((wrap64 (x6_1 + x8_2)) < (l0.length : Int)) = false := decide_eq_false c9
         clear c9
         by_cases c17 : x5_1.length < 5864062014805
         ·rw [if_pos c17] at H
          have LMc17 := za.mk c17
          clear c17
          obtain ⟨y106, hy106⟩ : ∃ y_ : List (List Int), y_ = (x5_1 ++ [x7_2]) := ⟨_, rfl⟩
          replace H : (shamrockref06_Split.l0 k2 l0 a1 y106 (wrap64 (x6_1 + a1))) = some r := by first | (rw [hy106]; with_reducible exact H) | (have H2_ := (Option.bind_some _ _).symm.trans H; rw [hy106]; with_reducible exact H2_) | (have H2_ := (Option.bind_some _ _).symm.trans H; with_reducible exact H2_) | with_reducible exact H | (rw [hy106]; exact H) | exact H
          have Ny106 := za.mk hy106
          clear hy106
          have H' := za.mk H
          clear H
          obtain ⟨Ao19, co19, eo19⟩ := Kd.R_slice HO_7.out
          subst eo19
          go_wp2_with (first | ((with_reducible refine JK (b := .append) (xs := #[.tmp 40, .tmp 42]) rfl ?_); (try (refine Zu (by rfl) ?_; dsimp only)); at_builtin; refine Kd.S_append (Kd.slice 5 (Kd.int .u8)) (w0 := w) w.heap.size rfl (.tmp 40) (.tmp 42) 37 36 (.slice none 0 0) 24 rfl Try.underlying37 zgh rfl (by decide) (by omega) u5 x5_1 x7_2 [.slice Ao19 x7_2.length co19] (fun _ => True) (fun k_ => some k_ = (.slice Ao19 x7_2.length co19 : Value).ownBlock) rfl rfl ?aP (fun k_ hk_ => ((Kd.R_mono (ok' := fun k_ => ((fun _ => True)) k_ ∧ some k_ ≠ (u5 : Value).ownBlock) (Kd.R_apart' (HO_7.out) (Kd.S_typed HO_5.out) (by decide)) (fun k_ hk => ⟨trivial, hk.2⟩))).1 k_ hk_.symm) ?aF ?aO ?aB ?aS ?aL ?_; (case aP => exact Kd.M_row (Kd.R_mono (Kd.R_tight rfl (Kd.R_mono (ok' := fun k_ => ((fun _ => True)) k_ ∧ some k_ ≠ (u5 : Value).ownBlock) (Kd.R_apart' (HO_7.out) (Kd.S_typed HO_5.out) (by decide)) (fun k_ hk => ⟨trivial, hk.2⟩))) (fun _ h_ => h_))); (case aB => exact (by repeat (first | (with_reducible first | exact HB.out | apply zc | apply zb | apply zg) | exact HB.out))); (case aF => exact (fun _ _ => trivial)); (case aO => exact (by (with_reducible repeat (first | apply Kd.S_alloc | apply Kd.S_drewN | apply Kd.S_drew)); exact Kd.S_mono HO_5.out (fun k_ hk => ⟨trivial, fun e_ => hk e_⟩))); (case aS => exact (zr (by repeat (first | (with_reducible first | exact HB.out | apply zc | apply zb | apply zg) | exact HB.out)))); (case aL => have := LMc17.out; omega); intro v107 w18 ho hb hg hat; rw [← Ny106.out] at ho; have n0_ := za.mk (hb); have n1_ := za.mk (ho); clear HB; clear HO_5; clear HO_7; have HB := n0_; have HO108 := n1_; clear n0_ n1_; clear ho hb hg hat))
          go_roundg k2
          case measure => have := HK1.out; have := HK2.out; omega
          case rel => exact ⟨(y106), (wrap64 (x6_1 + a1)), (by first | rfl | (simp; done) | (simp [*]; done)), H', ⟨by have := HK1.out; have := HK2.out; omega⟩, ⟨by (with_reducible repeat (first | apply Kd.S_alloc | apply Kd.S_drewN | apply Kd.S_drew)); exact HO108.out⟩, ⟨by repeat (first | (with_reducible first | exact HB.out | apply zc | apply zb | apply zg) | exact HB.out)⟩⟩
         rw [if_neg c17] at H
         exact absurd H (by simp)
        rw [if_neg c8] at H
        have c8b0 : decide (x8_2 < a1) = false := decide_eq_false c8
        clear c8
        by_cases c20 : x5_1.length < 5864062014805
        ·rw [if_pos c20] at H
         have LMc20 := za.mk c20
         clear c20
         obtain ⟨y109, hy109⟩ : ∃ y_ : List (List Int), y_ = (x5_1 ++ [x7_2]) := ⟨_, rfl⟩
         replace H : (shamrockref06_Split.l0 k2 l0 a1 y109 (wrap64 (x6_1 + a1))) = some r := by first | (rw [hy109]; with_reducible exact H) | (have H2_ := (Option.bind_some _ _).symm.trans H; rw [hy109]; with_reducible exact H2_) | (have H2_ := (Option.bind_some _ _).symm.trans H; with_reducible exact H2_) | with_reducible exact H | (rw [hy109]; exact H) | exact H
         have Ny109 := za.mk hy109
         clear hy109
         have H' := za.mk H
         clear H
         obtain ⟨Ao22, co22, eo22⟩ := Kd.R_slice HO_7.out
         subst eo22
         go_wp2_with (first | ((with_reducible refine JK (b := .append) (xs := #[.tmp 40, .tmp 42]) rfl ?_); (try (refine Zu (by rfl) ?_; dsimp only)); at_builtin; refine Kd.S_append (Kd.slice 5 (Kd.int .u8)) (w0 := w) w.heap.size rfl (.tmp 40) (.tmp 42) 37 36 (.slice none 0 0) 24 rfl Try.underlying37 zgh rfl (by decide) (by omega) u5 x5_1 x7_2 [.slice Ao22 x7_2.length co22] (fun _ => True) (fun k_ => some k_ = (.slice Ao22 x7_2.length co22 : Value).ownBlock) rfl rfl ?aP (fun k_ hk_ => ((Kd.R_mono (ok' := fun k_ => ((fun _ => True)) k_ ∧ some k_ ≠ (u5 : Value).ownBlock) (Kd.R_apart' (HO_7.out) (Kd.S_typed HO_5.out) (by decide)) (fun k_ hk => ⟨trivial, hk.2⟩))).1 k_ hk_.symm) ?aF ?aO ?aB ?aS ?aL ?_; (case aP => exact Kd.M_row (Kd.R_mono (Kd.R_tight rfl (Kd.R_mono (ok' := fun k_ => ((fun _ => True)) k_ ∧ some k_ ≠ (u5 : Value).ownBlock) (Kd.R_apart' (HO_7.out) (Kd.S_typed HO_5.out) (by decide)) (fun k_ hk => ⟨trivial, hk.2⟩))) (fun _ h_ => h_))); (case aB => exact (by repeat (first | (with_reducible first | exact HB.out | apply zc | apply zb | apply zg) | exact HB.out))); (case aF => exact (fun _ _ => trivial)); (case aO => exact (by (with_reducible repeat (first | apply Kd.S_alloc | apply Kd.S_drewN | apply Kd.S_drew)); exact Kd.S_mono HO_5.out (fun k_ hk => ⟨trivial, fun e_ => hk e_⟩))); (case aS => exact (zr (by repeat (first | (with_reducible first | exact HB.out | apply zc | apply zb | apply zg) | exact HB.out)))); (case aL => have := LMc20.out; omega); intro v110 w21 ho hb hg hat; rw [← Ny109.out] at ho; have n0_ := za.mk (hb); have n1_ := za.mk (ho); clear HB; clear HO_5; clear HO_7; have HB := n0_; have HO111 := n1_; clear n0_ n1_; clear ho hb hg hat))
         go_roundg k2
         case measure => have := HK1.out; have := HK2.out; omega
         case rel => exact ⟨(y109), (wrap64 (x6_1 + a1)), (by first | rfl | (simp; done) | (simp [*]; done)), H', ⟨by have := HK1.out; have := HK2.out; omega⟩, ⟨by (with_reducible repeat (first | apply Kd.S_alloc | apply Kd.S_drewN | apply Kd.S_drew)); exact HO111.out⟩, ⟨by repeat (first | (with_reducible first | exact HB.out | apply zc | apply zb | apply zg) | exact HB.out)⟩⟩
        rw [if_neg c20] at H
        exact absurd H (by simp)
     rw [if_neg c5] at H
     exact absurd H (by simp)
    rw [if_neg c4] at H
    exact absurd H (by simp)
   rw [if_neg c3] at H
   have c3b0 : decide (x6_1 < (l0.length : Int)) = false := decide_eq_false c3
   clear c3
   obtain rfl := Option.some.inj H
   go_wp2
   go_ret
   exact ⟨_, by first | rfl | (simp [errW_none, errW_some] <;> rfl) | (simp [*, errW_none, errW_some] <;> rfl), by (with_reducible repeat (first | apply Kd.S_alloc | apply Kd.S_drewN | apply Kd.S_drew)); exact HO_5.out, by repeat (first | (with_reducible first | exact HB.out | apply zc | apply zb | apply zg) | exact HB.out)⟩
def poly_Degree.l0 : Nat → List Int → Int → Option (Int)
 | 0, _, _ => none
 | k + 1, x0, x3 => if x3 ≥ 0 then (if 0 ≤ x3 then (if x3 < (x0.length : Int) then (if (rd x0 x3) = 0 then (poly_Degree.l0 k x0 (wrap64 (x3 - 1))) else (some x3)) else (none)) else (none)) else (some x3)
def poly_Degree.f (k : Nat) (l0 : List Int) : Option (Int) := poly_Degree.l0 k l0 (wrap64 ((l0.length : Int) - 1))
set_option maxHeartbeats 8000000 in
set_option maxRecDepth 100000 in
theorem poly_Degree.calls (k : Nat) (A0 : Option Addr) (c0 : Nat) (l0 : List Int) (r : Int) (w : World) (hr0 : Kd.C (Kd.int .u8) w A0 l0.length l0) (hc0 : l0.length ≤ c0) (h : poly_Degree.f k l0 = some r) :
 Calls Try.prog 134 #[.slice A0 l0.length c0] w fun e w' => e = .returned (.int .i64 r) ∧ zq w w' := by
 have HR0 := za.mk hr0
 have HC0 := za.mk hc0
 clear hr0 hc0
 have H : (poly_Degree.l0 k l0 (wrap64 ((l0.length : Int) - 1))) = some r := h
 clear h
 have H' := za.mk H
 clear H
 go_enter Try.func134, Try.ntmps134
 go_wp2
 go_loopg [3] k (fun kq v3 w' => ∃ (x3_1 : Int), v3 = .int .i64 x3_1 ∧ za (poly_Degree.l0 kq l0 x3_1 = some r) ∧ za (kq ≤ k) ∧ zq w w')
 case atStart => exact ⟨(wrap64 ((l0.length : Int) - 1)), (by first | rfl | (simp; done) | (simp [*]; done)), H', ⟨Nat.le_refl _⟩, by repeat (first | exact zq.refl _ | apply zq.step)⟩
 clear H'
 try clear c1
 obtain ⟨x3_1, rfl, HA, HK1, ⟨m1, rfl⟩⟩ := hrel
 cases gk with
 | zero => exact absurd HA.out (by simp [poly_Degree.l0])
 | succ k1 =>
   have H := HA.out
   clear HA
   simp only [poly_Degree.l0] at H
   by_cases c2 : x3_1 ≥ 0
   ·rw [if_pos c2] at H
    have c2b0 : decide (0 ≤ x3_1) = true := decide_eq_true c2
    clear c2
    by_cases c3 : 0 ≤ x3_1
    ·rw [if_pos c3] at H
     have c3b0 : decide (0 ≤ x3_1) = true := decide_eq_true c3
     clear c3
     by_cases c4 : x3_1 < (l0.length : Int)
     ·rw [if_pos c4] at H
      have c4b0 : decide (x3_1 < (l0.length : Int)) = true := decide_eq_true c4
      clear c4
      by_cases c5 : (rd l0 x3_1) = 0
      ·rw [if_pos c5] at H
       have c5b0 : ((rd l0 x3_1) == 0) = true := beq_iff_eq.mpr c5
       have c5b1 : ((rd l0 x3_1) != 0) = false := bne_eq_false_iff_eq.mpr c5
       clear c5
       have H' := za.mk H
       clear H
       have p117 : 0 ≤ (x3_1 : Int) := of_decide_eq_true (by first | (with_reducible assumption) | assumption)
       have q117 : x3_1 < (l0.length : Int) := of_decide_eq_true (by first | (with_reducible assumption) | assumption)
       obtain ⟨ad117, e117, hx117_0⟩ := Kd.at_int HR0.out x3_1 p117 q117
       cases e117
       replace p117 := eq_true p117
       replace q117 := eq_true q117
       go_wp2
       go_roundg k1
       case measure => have := HK1.out; omega
       case rel => exact ⟨(wrap64 (x3_1 - 1)), (by first | rfl | (simp; done) | (simp [*]; done)), H', ⟨by have := HK1.out; omega⟩, by repeat (first | exact zq.refl _ | apply zq.step)⟩
      rw [if_neg c5] at H
      have c5b0 : ((rd l0 x3_1) == 0) = false := beq_eq_false_iff_ne.mpr c5
      have c5b1 : ((rd l0 x3_1) != 0) = true := bne_iff_ne.mpr c5
      obtain rfl := Option.some.inj H
      have p117 : 0 ≤ (x3_1 : Int) := of_decide_eq_true (by first | (with_reducible assumption) | assumption)
      have q117 : x3_1 < (l0.length : Int) := of_decide_eq_true (by first | (with_reducible assumption) | assumption)
      obtain ⟨ad117, e117, hx117_0⟩ := Kd.at_int HR0.out x3_1 p117 q117
      cases e117
      replace p117 := eq_true p117
      replace q117 := eq_true q117
      go_wp2
      go_ret
      exact ⟨by first | rfl | (simp; done) | (simp [*]; done), by repeat (first | exact zq.refl _ | apply zq.step)⟩
     rw [if_neg c4] at H
     exact absurd H (by simp)
    rw [if_neg c3] at H
    exact absurd H (by simp)
   rw [if_neg c2] at H
   have c2b0 : decide (0 ≤ x3_1) = false := decide_eq_false c2
   clear c2
   obtain rfl := Option.some.inj H
   go_wp2
   go_ret
   exact ⟨by first | rfl | (simp; done) | (simp [*]; done), by repeat (first | exact zq.refl _ | apply zq.step)⟩
end Go.Proofs.Ytpeiejkcoadhfaa.PDealSecret
