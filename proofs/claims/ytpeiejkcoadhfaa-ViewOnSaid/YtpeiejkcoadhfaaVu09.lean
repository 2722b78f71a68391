/- What the view's laws take, Vu09: PGfPowsx0, PGfPowsx1. -/
import Derived.Test.YtpeiejkcoadhfaaVu01
import Derived.Test.YtpeiejkcoadhfaaVu02
import Derived.Test.YtpeiejkcoadhfaaVu03
import Derived.Test.YtpeiejkcoadhfaaVu06
import Derived.Test.YtpeiejkcoadhfaaVu07
import Derived.Test.YtpeiejkcoadhfaaVu08
import Derived.Test.YtpeiejkcoadhfaaProg
import Derived.Below
import Derived.Deep.Draws
import Derived.Deep.AppendLies
import Derived.Maps.AppendAt
import Derived.OwnWalk
import Derived.Laws.BytesArg
import Derived.Laws.MakeOwn
import Derived.Laws.OwnMore
import Derived.Deep.OwnRows
import Derived.Tactics
import Derived.Lib.ConvBytes
import Derived.Laws.Slices
import Derived.WalkKit
import Derived.KernelRfl
import Derived.RowKit3
import Derived.Deep.LoopGhost
import Derived.Deep.QuietTactic
import Derived.BigQuiet
import Derived.WideLaws
import Derived.Deep.DeepCutAuto
import Derived.Deep.CutBlock
import Derived.Deep.RegionHeld3
import Derived.Laws.Rows
import Derived.Lib.AppendStr
import Derived.ArgAppend
import Derived.Laws.IdiomCopy
import Derived.OrdersHeld
import Derived.Laws.BitsLemmas
import Derived.RowKit
set_option linter.all false
namespace Go.Proofs.Ytpeiejkcoadhfaa.PGfPows
open Go.RowKit Go.Proofs.YtpeiejkcoadhfaaW.PrintWords Go.Proofs.YtpeiejkcoadhfaaW.PrintLast Go.Proofs.YtpeiejkcoadhfaaW.PrintMore
attribute [local go_sem] jt jk Zd jM yW jb jv jA
set_option linter.unusedVariables false
set_option linter.unusedSimpArgs false
end Go.Proofs.Ytpeiejkcoadhfaa.PGfPows
namespace Go.Proofs.Ytpeiejkcoadhfaa.PGfPows
open Go.RowKit Go.Proofs.YtpeiejkcoadhfaaW.PrintWords Go.Proofs.YtpeiejkcoadhfaaW.PrintLast Go.Proofs.YtpeiejkcoadhfaaW.PrintMore
attribute [local go_sem] jt jk Zd jM yW jb jv jA
set_option linter.unusedVariables false
set_option linter.unusedSimpArgs false
mutual
def shamrockref01_Mul.l0 : Nat → Int → Int → Int → Int → Option (Int)
 | 0, _, _, _, _ => none
 | k + 1, x0, x1, x5, x6 => if x6 < 8 then (if 0 ≤ (IntKind.u64.wrap (x6)) then (if (Go.bits .and .i64 (shr .i64 (wrap64 (x1)) (IntKind.u64.wrap (x6))) 1) = 1 then (shamrockref01_Mul.l0 k x0 x1 (Go.bits .xor .i64 x5 (shl .i64 (wrap64 (x0)) (IntKind.u64.wrap (x6)))) (wrap64 (x6 + 1))) else (shamrockref01_Mul.l0 k x0 x1 x5 (wrap64 (x6 + 1)))) else (none)) else (shamrockref01_Mul.l1 k x5 14)
def shamrockref01_Mul.l1 : Nat → Int → Int → Option (Int)
 | 0, _, _ => none
 | k + 1, x5, x7 => if x7 ≥ 8 then (if 0 ≤ (IntKind.u64.wrap (x7)) then (if (Go.bits .and .i64 (shr .i64 x5 (IntKind.u64.wrap (x7))) 1) = 1 then (if 0 ≤ (IntKind.u64.wrap (wrap64 (x7 - 8))) then (shamrockref01_Mul.l1 k (Go.bits .xor .i64 x5 (shl .i64 283 (IntKind.u64.wrap (wrap64 (x7 - 8))))) (wrap64 (x7 - 1))) else (none)) else (shamrockref01_Mul.l1 k x5 (wrap64 (x7 - 1)))) else (none)) else (some ((x5) % 256))
end
def shamrockref01_Mul.f (k : Nat) (a0 : Int) (a1 : Int) : Option (Int) := shamrockref01_Mul.l0 k a0 a1 0 0
theorem shamrockref01_Mul.mono_l : ∀ k, (∀ y0 y1 y2 y3, LeO (shamrockref01_Mul.l0 k y0 y1 y2 y3) (shamrockref01_Mul.l0 (k + 1) y0 y1 y2 y3)) ∧ (∀ y0 y1, LeO (shamrockref01_Mul.l1 k y0 y1) (shamrockref01_Mul.l1 (k + 1) y0 y1))
 | 0 => ⟨fun _ _ _ _ r h => by simp [shamrockref01_Mul.l0] at h, fun _ _ r h => by simp [shamrockref01_Mul.l1] at h⟩
 | k + 1 => by
   obtain ⟨ih0, ih1⟩ := shamrockref01_Mul.mono_l k
   refine ⟨?_, ?_⟩
   ·intro y0 y1 y2 y3
    unfold shamrockref01_Mul.l0
    repeat' first
    | (with_reducible exact ih0 _ _ _ _)
    | (with_reducible exact ih1 _ _)
    | (with_reducible exact LeO.refl _)
    | (with_reducible exact LeO.none _)
    | (with_reducible refine LeO.ite ?_ ?_)
    | (with_reducible refine LeO.bind ?_ (fun _ => ?_))
    | exact ih0 _ _ _ _
    | exact ih1 _ _
    | exact LeO.none _
    | refine LeO.ite ?_ ?_
    | refine LeO.bind ?_ (fun _ => ?_)
   intro y0 y1
   unfold shamrockref01_Mul.l1
   repeat' first
   | (with_reducible exact ih0 _ _ _ _)
   | (with_reducible exact ih1 _ _)
   | (with_reducible exact LeO.refl _)
   | (with_reducible exact LeO.none _)
   | (with_reducible refine LeO.ite ?_ ?_)
   | (with_reducible refine LeO.bind ?_ (fun _ => ?_))
   | exact ih0 _ _ _ _
   | exact ih1 _ _
   | exact LeO.none _
   | refine LeO.ite ?_ ?_
   | refine LeO.bind ?_ (fun _ => ?_)
theorem shamrockref01_Mul.mono : ∀ a0 a1 k, LeO (shamrockref01_Mul.f k a0 a1) (shamrockref01_Mul.f (k + 1) a0 a1) := by
 intro a0 a1 k
 obtain ⟨ih0, ih1⟩ := shamrockref01_Mul.mono_l k
 unfold shamrockref01_Mul.f
 repeat' first
  | (with_reducible exact ih0 _ _ _ _)
  | (with_reducible exact ih1 _ _)
  | (with_reducible exact LeO.refl _)
  | (with_reducible exact LeO.none _)
  | (with_reducible refine LeO.ite ?_ ?_)
  | (with_reducible refine LeO.bind ?_ (fun _ => ?_))
  | exact ih0 _ _ _ _
  | exact ih1 _ _
  | exact LeO.none _
  | refine LeO.ite ?_ ?_
  | refine LeO.bind ?_ (fun _ => ?_)
set_option maxHeartbeats 8000000 in
set_option maxRecDepth 100000 in
theorem shamrockref01_Mul.calls (k : Nat) (a0 : Int) (a1 : Int) (r : Int) (w : World) (h : shamrockref01_Mul.f k a0 a1 = some r) :
 Calls Try.prog 34 #[.int .u8 a0, .int .u8 a1] w fun e w' => e = .returned (.int .u8 r) ∧ zq w w' := by
 have H : (shamrockref01_Mul.l0 k a0 a1 0 0) = some r := h
 clear h
 have H' := za.mk H
 clear H
 go_enter Try.func34, Try.ntmps34
 go_wp2
 go_loopg [5, 6] k (fun kq v5 v6 w' => ∃ (x5_1 : Int) (x6_1 : Int), v5 = .int .i64 x5_1 ∧ v6 = .int .i64 x6_1 ∧ za (shamrockref01_Mul.l0 kq a0 a1 x5_1 x6_1 = some r) ∧ za (kq ≤ k) ∧ zq w w')
 case atStart => exact ⟨(0), (0), (by first | rfl | (simp; done) | (simp [*]; done)), (by first | rfl | (simp; done) | (simp [*]; done)), H', ⟨Nat.le_refl _⟩, by repeat (first | exact zq.refl _ | apply zq.step)⟩
 clear H'
 try clear p2
 obtain ⟨x5_1, x6_1, rfl, rfl, HA, HK1, ⟨m1, rfl⟩⟩ := hrel
 cases gk with
 | zero => exact absurd HA.out (by simp [shamrockref01_Mul.l0])
 | succ k1 =>
   have H := HA.out
   clear HA
   simp only [shamrockref01_Mul.l0] at H
   by_cases c3 : x6_1 < 8
   ·rw [if_pos c3] at H
    have c3b0 : decide (x6_1 < 8) = true := decide_eq_true c3
    clear c3
    obtain ⟨ji4, hji4⟩ : ∃ j_ : Int, (IntKind.u64.wrap (x6_1)) = j_ := ⟨_, rfl⟩
    replace H : (if 0 ≤ (ji4) then (if (Go.bits .and .i64 (shr .i64 (wrap64 (a1)) (ji4)) 1) = 1 then (shamrockref01_Mul.l0 k1 a0 a1 (Go.bits .xor .i64 x5_1 (shl .i64 (wrap64 (a0)) (ji4))) (wrap64 (x6_1 + 1))) else (shamrockref01_Mul.l0 k1 a0 a1 x5_1 (wrap64 (x6_1 + 1)))) else (none)) = some r := by first | (rw [hji4] at H; exact H) | (simp only [hji4] at H ⊢; exact H)
    by_cases c5 : 0 ≤ (ji4)
    ·rw [if_pos c5] at H
     have c5b0 := eq_true c5
     have c5b1 : decide (0 ≤ (ji4)) = true := decide_eq_true c5
     clear c5
     obtain ⟨ji6, hji6⟩ : ∃ j_ : Int, (shr .i64 (wrap64 (a1)) (ji4)) = j_ := ⟨_, rfl⟩
     replace H : (if (Go.bits .and .i64 (ji6) 1) = 1 then (shamrockref01_Mul.l0 k1 a0 a1 (Go.bits .xor .i64 x5_1 (shl .i64 (wrap64 (a0)) (ji4))) (wrap64 (x6_1 + 1))) else (shamrockref01_Mul.l0 k1 a0 a1 x5_1 (wrap64 (x6_1 + 1)))) = some r := by first | (rw [hji6] at H; exact H) | (simp only [hji6] at H ⊢; exact H)
     have hji6_ : ((wrap64 (a1)) / 2 ^ min (ji4).toNat 64) = ji6 := hji6
     have hji6z : (ji4) ≤ 64 → ((wrap64 (a1)) / 2 ^ (ji4).toNat) = ji6 := zfh hji6
     by_cases c7 : (Go.bits .and .i64 (ji6) 1) = 1
     ·rw [if_pos c7] at H
      have c7b0 : ((Go.bits .and .i64 (ji6) 1) == 1) = true := beq_iff_eq.mpr c7
      have c7b1 : ((Go.bits .and .i64 (ji6) 1) != 1) = false := bne_eq_false_iff_eq.mpr c7
      clear c7
      have c8b0 := eq_true (of_decide_eq_true (by first | (with_reducible assumption) | assumption) : 0 ≤ (ji4))
      obtain ⟨ji9, hji9⟩ : ∃ j_ : Int, (shl .i64 (wrap64 (a0)) (ji4)) = j_ := ⟨_, rfl⟩
      replace H : (shamrockref01_Mul.l0 k1 a0 a1 (Go.bits .xor .i64 x5_1 (ji9)) (wrap64 (x6_1 + 1))) = some r := by first | (rw [hji9] at H; exact H) | (simp only [hji9] at H ⊢; exact H)
      have hji9_ : (IntKind.i64.wrap ((wrap64 (a0)) * 2 ^ min (ji4).toNat 64)) = ji9 := hji9
      have hji9z : (ji4) ≤ 64 → (IntKind.i64.wrap ((wrap64 (a0)) * 2 ^ (ji4).toNat)) = ji9 := zfC hji9
      have hji9y : (wrap64 ((wrap64 (a0)) * 2 ^ min (ji4).toNat 64)) = ji9 := (yY _).symm.trans hji9_
      have hji9x : (ji4) ≤ 64 → (wrap64 ((wrap64 (a0)) * 2 ^ (ji4).toNat)) = ji9 := fun h_ => (yY _).symm.trans (hji9z h_)
      have H' := za.mk H
      clear H
      go_wp2
      go_roundg k1
      case measure => have := HK1.out; omega
      case rel => exact ⟨(Go.bits .xor .i64 x5_1 (ji9)), (wrap64 (x6_1 + 1)), (by first | rfl | (simp; done) | (simp only [← hji9] <;> (first | rfl | simp)) | (simp [*]; done)), (by first | rfl | (simp; done) | (simp [*]; done)), H', ⟨by have := HK1.out; omega⟩, by repeat (first | exact zq.refl _ | apply zq.step)⟩
     rw [if_neg c7] at H
     have c7b0 : ((Go.bits .and .i64 (ji6) 1) == 1) = false := beq_eq_false_iff_ne.mpr c7
     have c7b1 : ((Go.bits .and .i64 (ji6) 1) != 1) = true := bne_iff_ne.mpr c7
     have H' := za.mk H
     clear H
     go_wp2
     go_roundg k1
     case measure => have := HK1.out; omega
     case rel => exact ⟨(x5_1), (wrap64 (x6_1 + 1)), (by first | rfl | (simp; done) | (simp [*]; done)), (by first | rfl | (simp; done) | (simp [*]; done)), H', ⟨by have := HK1.out; omega⟩, by repeat (first | exact zq.refl _ | apply zq.step)⟩
    rw [if_neg c5] at H
    exact absurd H (by simp)
   rw [if_neg c3] at H
   have c3b0 : decide (x6_1 < 8) = false := decide_eq_false c3
   clear c3
   have H' := za.mk H
   clear H
   go_wp2
   go_loopg [5, 7] k1 (fun kq v5 v7 w' => ∃ (x5_2 : Int) (x7_2 : Int), v5 = .int .i64 x5_2 ∧ v7 = .int .i64 x7_2 ∧ za (shamrockref01_Mul.l1 kq x5_2 x7_2 = some r) ∧ za (kq ≤ k1) ∧ zq w w')
   case atStart => exact ⟨(x5_1), (14), (by first | rfl | (simp; done) | (simp [*]; done)), (by first | rfl | (simp; done) | (simp [*]; done)), H', ⟨Nat.le_refl _⟩, by repeat (first | exact zq.refl _ | apply zq.step)⟩
   clear H'
   try clear p2
   try clear c3
   try clear c3b0
   try clear c5
   try clear c5b0
   try clear c5b1
   try clear p6
   try clear c7
   try clear c7b0
   try clear c7b1
   try clear c8
   try clear c8b0
   try clear p2
   obtain ⟨x5_2, x7_2, rfl, rfl, HA, HK2, ⟨m2, rfl⟩⟩ := hrel
   cases gk with
   | zero => exact absurd HA.out (by simp [shamrockref01_Mul.l1])
   | succ k2 =>
     have H := HA.out
     clear HA
     simp only [shamrockref01_Mul.l1] at H
     by_cases c10 : x7_2 ≥ 8
     ·rw [if_pos c10] at H
      have c10b0 : decide (8 ≤ x7_2) = true := decide_eq_true c10
      clear c10
      obtain ⟨ji11, hji11⟩ : ∃ j_ : Int, (IntKind.u64.wrap (x7_2)) = j_ := ⟨_, rfl⟩
      replace H : (if 0 ≤ (ji11) then (if (Go.bits .and .i64 (shr .i64 x5_2 (ji11)) 1) = 1 then (if 0 ≤ (IntKind.u64.wrap (wrap64 (x7_2 - 8))) then (shamrockref01_Mul.l1 k2 (Go.bits .xor .i64 x5_2 (shl .i64 283 (IntKind.u64.wrap (wrap64 (x7_2 - 8))))) (wrap64 (x7_2 - 1))) else (none)) else (shamrockref01_Mul.l1 k2 x5_2 (wrap64 (x7_2 - 1)))) else (none)) = some r := by first | (rw [hji11] at H; exact H) | (simp only [hji11] at H ⊢; exact H)
      by_cases c12 : 0 ≤ (ji11)
      ·rw [if_pos c12] at H
       have c12b0 := eq_true c12
       have c12b1 : decide (0 ≤ (ji11)) = true := decide_eq_true c12
       clear c12
       obtain ⟨ji13, hji13⟩ : ∃ j_ : Int, (shr .i64 x5_2 (ji11)) = j_ := ⟨_, rfl⟩
       replace H : (if (Go.bits .and .i64 (ji13) 1) = 1 then (if 0 ≤ (IntKind.u64.wrap (wrap64 (x7_2 - 8))) then (shamrockref01_Mul.l1 k2 (Go.bits .xor .i64 x5_2 (shl .i64 283 (IntKind.u64.wrap (wrap64 (x7_2 - 8))))) (wrap64 (x7_2 - 1))) else (none)) else (shamrockref01_Mul.l1 k2 x5_2 (wrap64 (x7_2 - 1)))) = some r := by first | (rw [hji13] at H; exact H) | (simp only [hji13] at H ⊢; exact H)
       have hji13_ : (x5_2 / 2 ^ min (ji11).toNat 64) = ji13 := hji13
       have hji13z : (ji11) ≤ 64 → (x5_2 / 2 ^ (ji11).toNat) = ji13 := zfh hji13
       by_cases c14 : (Go.bits .and .i64 (ji13) 1) = 1
       ·rw [if_pos c14] at H
        have c14b0 : ((Go.bits .and .i64 (ji13) 1) == 1) = true := beq_iff_eq.mpr c14
        have c14b1 : ((Go.bits .and .i64 (ji13) 1) != 1) = false := bne_eq_false_iff_eq.mpr c14
        clear c14
        obtain ⟨ji15, hji15⟩ : ∃ j_ : Int, (IntKind.u64.wrap (wrap64 (x7_2 - 8))) = j_ := ⟨_, rfl⟩
        replace H : (if 0 ≤ (ji15) then (shamrockref01_Mul.l1 k2 (Go.bits .xor .i64 x5_2 (shl .i64 283 (ji15))) (wrap64 (x7_2 - 1))) else (none)) = some r := by first | (rw [hji15] at H; exact H) | (simp only [hji15] at H ⊢; exact H)
        by_cases c16 : 0 ≤ (ji15)
        ·rw [if_pos c16] at H
         have c16b0 := eq_true c16
         have c16b1 : decide (0 ≤ (ji15)) = true := decide_eq_true c16
         clear c16
         obtain ⟨ji17, hji17⟩ : ∃ j_ : Int, (shl .i64 283 (ji15)) = j_ := ⟨_, rfl⟩
         replace H : (shamrockref01_Mul.l1 k2 (Go.bits .xor .i64 x5_2 (ji17)) (wrap64 (x7_2 - 1))) = some r := by first | (rw [hji17] at H; exact H) | (simp only [hji17] at H ⊢; exact H)
         have hji17_ : (IntKind.i64.wrap (283 * 2 ^ min (ji15).toNat 64)) = ji17 := hji17
         have hji17z : (ji15) ≤ 64 → (IntKind.i64.wrap (283 * 2 ^ (ji15).toNat)) = ji17 := zfC hji17
         have hji17y : (wrap64 (283 * 2 ^ min (ji15).toNat 64)) = ji17 := (yY _).symm.trans hji17_
         have hji17x : (ji15) ≤ 64 → (wrap64 (283 * 2 ^ (ji15).toNat)) = ji17 := fun h_ => (yY _).symm.trans (hji17z h_)
         have H' := za.mk H
         clear H
         go_wp2
         go_roundg k2
         case measure => have := HK1.out; have := HK2.out; omega
         case rel => exact ⟨(Go.bits .xor .i64 x5_2 (ji17)), (wrap64 (x7_2 - 1)), (by first | rfl | (simp; done) | (simp only [← hji17] <;> (first | rfl | simp)) | (simp [*]; done)), (by first | rfl | (simp; done) | (simp [*]; done)), H', ⟨by have := HK1.out; have := HK2.out; omega⟩, by repeat (first | exact zq.refl _ | apply zq.step)⟩
        rw [if_neg c16] at H
        exact absurd H (by simp)
       rw [if_neg c14] at H
       have c14b0 : ((Go.bits .and .i64 (ji13) 1) == 1) = false := beq_eq_false_iff_ne.mpr c14
       have c14b1 : ((Go.bits .and .i64 (ji13) 1) != 1) = true := bne_iff_ne.mpr c14
       have H' := za.mk H
       clear H
       go_wp2
       go_roundg k2
       case measure => have := HK1.out; have := HK2.out; omega
       case rel => exact ⟨(x5_2), (wrap64 (x7_2 - 1)), (by first | rfl | (simp; done) | (simp [*]; done)), (by first | rfl | (simp; done) | (simp [*]; done)), H', ⟨by have := HK1.out; have := HK2.out; omega⟩, by repeat (first | exact zq.refl _ | apply zq.step)⟩
      rw [if_neg c12] at H
      exact absurd H (by simp)
     rw [if_neg c10] at H
     have c10b0 : decide (8 ≤ x7_2) = false := decide_eq_false c10
     clear c10
     obtain rfl := Option.some.inj H
     go_wp2
     go_ret
     exact ⟨by first | rfl | (simp; done) | (simp [*]; done), by repeat (first | exact zq.refl _ | apply zq.step)⟩
def shamrockref01_Inv.l0 : Nat → Int → Int → Option (Int)
 | 0, _, _ => none
 | k + 1, x0, x3 => if x3 < 256 then ((shamrockref01_Mul.f k x0 ((x3) % 256)).bind fun t101 => (if t101 = 1 then (some ((x3) % 256)) else (shamrockref01_Inv.l0 k x0 (wrap64 (x3 + 1))))) else (some 0)
def shamrockref01_Inv.f (k : Nat) (a0 : Int) : Option (Int) := shamrockref01_Inv.l0 k a0 1
theorem shamrockref01_Inv.mono_l : ∀ k, (∀ y0 y1, LeO (shamrockref01_Inv.l0 k y0 y1) (shamrockref01_Inv.l0 (k + 1) y0 y1))
 | 0 => fun _ _ r h => by simp [shamrockref01_Inv.l0] at h
 | k + 1 => by
   have ih0 := shamrockref01_Inv.mono_l k
   intro y0 y1
   unfold shamrockref01_Inv.l0
   repeat' first
   | (with_reducible exact ih0 _ _)
   | (with_reducible exact shamrockref01_Mul.mono _ _ _)
   | (with_reducible exact LeO.refl _)
   | (with_reducible exact LeO.none _)
   | (with_reducible refine LeO.ite ?_ ?_)
   | (with_reducible refine LeO.bind ?_ (fun _ => ?_))
   | exact ih0 _ _
   | exact shamrockref01_Mul.mono _ _ _
   | exact LeO.none _
   | refine LeO.ite ?_ ?_
   | refine LeO.bind ?_ (fun _ => ?_)
theorem shamrockref01_Inv.mono : ∀ a0 k, LeO (shamrockref01_Inv.f k a0) (shamrockref01_Inv.f (k + 1) a0) := by
 intro a0 k
 have ih0 := shamrockref01_Inv.mono_l k
 unfold shamrockref01_Inv.f
 repeat' first
  | (with_reducible exact ih0 _ _)
  | (with_reducible exact shamrockref01_Mul.mono _ _ _)
  | (with_reducible exact LeO.refl _)
  | (with_reducible exact LeO.none _)
  | (with_reducible refine LeO.ite ?_ ?_)
  | (with_reducible refine LeO.bind ?_ (fun _ => ?_))
  | exact ih0 _ _
  | exact shamrockref01_Mul.mono _ _ _
  | exact LeO.none _
  | refine LeO.ite ?_ ?_
  | refine LeO.bind ?_ (fun _ => ?_)
set_option maxHeartbeats 8000000 in
set_option maxRecDepth 100000 in
theorem shamrockref01_Inv.calls (k : Nat) (a0 : Int) (r : Int) (w : World) (h : shamrockref01_Inv.f k a0 = some r) :
 Calls Try.prog 35 #[.int .u8 a0] w fun e w' => e = .returned (.int .u8 r) ∧ zq w w' := by
 have H : (shamrockref01_Inv.l0 k a0 1) = some r := h
 clear h
 have H' := za.mk H
 clear H
 go_enter Try.func35, Try.ntmps35
 go_wp2
 go_loopg [3] k (fun kq v3 w' => ∃ (x3_1 : Int), v3 = .int .i64 x3_1 ∧ za (shamrockref01_Inv.l0 kq a0 x3_1 = some r) ∧ za (kq ≤ k) ∧ zq w w')
 case atStart => exact ⟨(1), (by first | rfl | (simp; done) | (simp [*]; done)), H', ⟨Nat.le_refl _⟩, by repeat (first | exact zq.refl _ | apply zq.step)⟩
 clear H'
 obtain ⟨x3_1, rfl, HA, HK1, ⟨m1, rfl⟩⟩ := hrel
 cases gk with
 | zero => exact absurd HA.out (by simp [shamrockref01_Inv.l0])
 | succ k1 =>
   have H := HA.out
   clear HA
   simp only [shamrockref01_Inv.l0] at H
   by_cases c2 : x3_1 < 256
   ·rw [if_pos c2] at H
    have c2b0 : decide (x3_1 < 256) = true := decide_eq_true c2
    clear c2
    replace H := Option.bind_eq_some_iff.mp H
    obtain ⟨t101, A30, H⟩ := H
    replace H : (if t101 = 1 then (some ((x3_1) % 256)) else (shamrockref01_Inv.l0 k1 a0 (wrap64 (x3_1 + 1)))) = some r := H
    have A3 := za.mk A30
    clear A30
    by_cases c4 : t101 = 1
    ·rw [if_pos c4] at H
     have c4b0 : (t101 == 1) = true := beq_iff_eq.mpr c4
     have c4b1 : (t101 != 1) = false := bne_eq_false_iff_eq.mpr c4
     clear c4
     obtain rfl := Option.some.inj H
     go_wp2_with (first | ((with_reducible refine jR (f := 34) rfl ?_); refine zcq (some 11) rfl rfl Try.func34 (by kernel_rfl) rfl #[.int .u8 a0, .int .u8 ((x3_1) % 256)] rfl (by (try simp only [List.map_toArray, List.map_cons, List.map_nil]); first | done | rfl | (simp only [List.length_drop, List.length_take]; rfl)) ?_; (with_reducible refine (shamrockref01_Mul.calls k1 a0 ((x3_1) % 256) t101 _ A3.out).mono ?_); rintro e w' ⟨rfl, ⟨nd, rfl⟩⟩; refine ⟨_, rfl, ?_⟩))
     go_ret
     exact ⟨by first | rfl | (simp; done) | (simp [*]; done), by repeat (first | exact zq.refl _ | apply zq.step)⟩
    rw [if_neg c4] at H
    have c4b0 : (t101 == 1) = false := beq_eq_false_iff_ne.mpr c4
    have c4b1 : (t101 != 1) = true := bne_iff_ne.mpr c4
    have H' := za.mk H
    clear H
    go_wp2_with (first | ((with_reducible refine jR (f := 34) rfl ?_); refine zcq (some 11) rfl rfl Try.func34 (by kernel_rfl) rfl #[.int .u8 a0, .int .u8 ((x3_1) % 256)] rfl (by (try simp only [List.map_toArray, List.map_cons, List.map_nil]); first | done | rfl | (simp only [List.length_drop, List.length_take]; rfl)) ?_; (with_reducible refine (shamrockref01_Mul.calls k1 a0 ((x3_1) % 256) t101 _ A3.out).mono ?_); rintro e w' ⟨rfl, ⟨nd, rfl⟩⟩; refine ⟨_, rfl, ?_⟩))
    go_roundg k1
    case measure => have := HK1.out; omega
    case rel => exact ⟨(wrap64 (x3_1 + 1)), (by first | rfl | (simp; done) | (simp [*]; done)), H', ⟨by have := HK1.out; omega⟩, by repeat (first | exact zq.refl _ | apply zq.step)⟩
   rw [if_neg c2] at H
   have c2b0 : decide (x3_1 < 256) = false := decide_eq_false c2
   clear c2
   obtain rfl := Option.some.inj H
   go_wp2
   go_ret
   exact ⟨by first | rfl | (simp; done) | (simp [*]; done), by repeat (first | exact zq.refl _ | apply zq.step)⟩
end Go.Proofs.Ytpeiejkcoadhfaa.PGfPows
