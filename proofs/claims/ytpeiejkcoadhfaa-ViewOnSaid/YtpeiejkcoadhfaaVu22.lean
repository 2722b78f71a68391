/- What the view's laws take, Vu22: PViewEmptyx0, PViewEmptyx4, PViewEmptyx3. -/
import Derived.Test.YtpeiejkcoadhfaaVu01
import Derived.Test.YtpeiejkcoadhfaaVu02
import Derived.Test.YtpeiejkcoadhfaaVu03
import Derived.Test.YtpeiejkcoadhfaaVu06
import Derived.Test.YtpeiejkcoadhfaaVu07
import Derived.Test.YtpeiejkcoadhfaaVu08
import Derived.Test.YtpeiejkcoadhfaaProg
import Derived.Below
import Derived.Deep.Draws
import Derived.Deep.AppendLies
import Derived.Maps.AppendAt
import Derived.OwnWalk
import Derived.Laws.BytesArg
import Derived.Laws.MakeOwn
import Derived.Laws.OwnMore
import Derived.Deep.OwnRows
import Derived.Tactics
import Derived.Lib.ConvBytes
import Derived.Laws.Slices
import Derived.WalkKit
import Derived.KernelRfl
import Derived.RowKit3
import Derived.Deep.LoopGhost
import Derived.Deep.QuietTactic
import Derived.BigQuiet
import Derived.WideLaws
import Derived.Deep.DeepCutAuto
import Derived.Deep.CutBlock
import Derived.Deep.RegionHeld3
import Derived.Laws.Rows
import Derived.Lib.AppendStr
import Derived.ArgAppend
import Derived.Laws.IdiomCopy
import Derived.OrdersHeld
import Derived.Laws.BitsLemmas
import Derived.RowKit
set_option linter.all false
namespace Go.Proofs.Ytpeiejkcoadhfaa.PViewEmpty
open Go.RowKit Go.Proofs.YtpeiejkcoadhfaaW.PrintWords Go.Proofs.YtpeiejkcoadhfaaW.PrintLast Go.Proofs.YtpeiejkcoadhfaaW.PrintMore
attribute [local go_sem] jt jk Zd jM yW jb jv jA
set_option linter.unusedVariables false
set_option linter.unusedSimpArgs false
theorem zpB : (Try.prog.info? 3).map (fun i => (i.zero, i.size, i.bytes)) = some (some (.int .i64 0), 1, 8) := by kernel_rfl
theorem yJ : (Try.prog.info? 5).map (fun i => (i.zero, i.size, i.bytes)) = some (some (.int .u8 0), 1, 1) := by kernel_rfl
def zaf (xs : List (List Int)) (i : Int) : (List Int) := xs.getD i.toNat ([] : List Int)
theorem zox {w : World} {A : Option Addr} {n : Nat} {xs : List (List Int)} (h : Kd.C (Kd.slice 5 (Kd.int .u8)) w A n xs) (i : Int) (h0 : 0 ≤ i) (h1 : i < n) : ∃ ad A0 c0, A = some ad ∧ w.cell? (ad.add i.toNat) = some (.slice A0 (zaf xs i).length c0) ∧ (zaf xs i).length ≤ c0 ∧ (Kd.int .u8).C w A0 (zaf xs i).length (zaf xs i) := by
 obtain ⟨ad, c, e, _, hK, hc0⟩ := Kd.C_get h ([] : List Int) i h0 h1
 have hc : ∀ j u, c[j]? = some u → w.cell? (ad.add (i.toNat * 1 + j)) = some u := hc0
 obtain ⟨A0, c0, rfl, l0, g0⟩ := hK
 exact ⟨ad, A0, c0, e, by have hq := hc 0 _ rfl; rwa [Nat.mul_one, Nat.add_zero] at hq, l0, g0⟩
structure S90 where
 f0 : Int
 f1 : Int
 f2 : (List Int)
 f3 : (List Int)
def z90 : S90 := ⟨(0 : Int), (0 : Int), ([] : List Int), ([] : List Int)⟩
def k90 : Kd S90 := Kd.iso (Kd.pair (Kd.int .i64) (Kd.pair (Kd.int .i64) (Kd.pair (Kd.slice 3 (Kd.int .i64)) (Kd.slice 3 (Kd.int .i64))))) (fun x : S90 => (x.f0, x.f1, x.f2, x.f3))
theorem zli {w : World} {x : S90} {cs : List Value} (h : k90.K w x cs) : ∃ A2 c2 A3 c3, cs = [.int .i64 x.f0, .int .i64 x.f1, .slice A2 x.f2.length c2, .slice A3 x.f3.length c3] ∧ x.f2.length ≤ c2 ∧ (Kd.int .i64).C w A2 x.f2.length x.f2 ∧ x.f3.length ≤ c3 ∧ (Kd.int .i64).C w A3 x.f3.length x.f3 := by
 obtain ⟨_, _, rfl, rfl, ⟨_, _, rfl, rfl, ⟨_, _, rfl, ⟨A2, c2, rfl, l2, g2⟩, ⟨A3, c3, rfl, l3, g3⟩⟩⟩⟩ := h
 exact ⟨A2, c2, A3, c3, rfl, l2, g2, l3, g3⟩
theorem zoS (w : World) (x : S90) {A2 : Option Addr} {c2 : Nat} (l2 : x.f2.length ≤ c2) (g2 : (Kd.int .i64).C w A2 x.f2.length x.f2) {A3 : Option Addr} {c3 : Nat} (l3 : x.f3.length ≤ c3) (g3 : (Kd.int .i64).C w A3 x.f3.length x.f3) : k90.K w x [.int .i64 x.f0, .int .i64 x.f1, .slice A2 x.f2.length c2, .slice A3 x.f3.length c3] := ⟨[.int .i64 x.f0], [.int .i64 x.f1, .slice A2 x.f2.length c2, .slice A3 x.f3.length c3], rfl, rfl, ⟨[.int .i64 x.f1], [.slice A2 x.f2.length c2, .slice A3 x.f3.length c3], rfl, rfl, ⟨[.slice A2 x.f2.length c2], [.slice A3 x.f3.length c3], rfl, ⟨A2, c2, rfl, l2, g2⟩, ⟨A3, c3, rfl, l3, g3⟩⟩⟩⟩
def yG (xs : List S90) (i : Int) : S90 := xs.getD i.toNat z90
theorem zfN {w : World} {A : Option Addr} {n : Nat} {xs : List S90} (h : Kd.C k90 w A n xs) (i : Int) (h0 : 0 ≤ i) (h1 : i < n) : ∃ ad A2 c2 A3 c3, A = some ad ∧ w.cell? (ad.add (i.toNat * 4)) = some (.int .i64 (yG xs i).f0) ∧ w.cell? ⟨(ad.add (i.toNat * 4)).block, (ad.add (i.toNat * 4)).off + 1, none⟩ = some (.int .i64 (yG xs i).f1) ∧ w.cell? ⟨(ad.add (i.toNat * 4)).block, (ad.add (i.toNat * 4)).off + 2, none⟩ = some (.slice A2 (yG xs i).f2.length c2) ∧ w.cell? ⟨(ad.add (i.toNat * 4)).block, (ad.add (i.toNat * 4)).off + 3, none⟩ = some (.slice A3 (yG xs i).f3.length c3) ∧ (yG xs i).f2.length ≤ c2 ∧ (Kd.int .i64).C w A2 (yG xs i).f2.length (yG xs i).f2 ∧ (yG xs i).f3.length ≤ c3 ∧ (Kd.int .i64).C w A3 (yG xs i).f3.length (yG xs i).f3 := by
 obtain ⟨ad, c, e, _, hK, hc0⟩ := Kd.C_get h z90 i h0 h1
 have hc : ∀ j u, c[j]? = some u → w.cell? (ad.add (i.toNat * 4 + j)) = some u := hc0
 obtain ⟨A2, c2, A3, c3, rfl, l2, g2, l3, g3⟩ := zli hK
 exact ⟨ad, A2, c2, A3, c3, e, hc 0 _ rfl, by rw [← zaQ _ _ 1 (by omega)]; exact hc 1 _ rfl, by rw [← zaQ _ _ 2 (by omega)]; exact hc 2 _ rfl, by rw [← zaQ _ _ 3 (by omega)]; exact hc 3 _ rfl, l2, g2, l3, g3⟩
end Go.Proofs.Ytpeiejkcoadhfaa.PViewEmpty
namespace Go.Proofs.Ytpeiejkcoadhfaa.PViewEmpty
open Go.RowKit Go.Proofs.YtpeiejkcoadhfaaW.PrintWords Go.Proofs.YtpeiejkcoadhfaaW.PrintLast Go.Proofs.YtpeiejkcoadhfaaW.PrintMore
attribute [local go_sem] jt jk Zd jM yW jb jv jA
set_option linter.unusedVariables false
set_option linter.unusedSimpArgs false
def shamrockref24_rising.l0 : Nat → List Int → Int → Int → Option (Bool)
 | 0, _, _, _ => none
 | k + 1, x0, x1, x5 => if x5 < (x0.length : Int) then (if 0 ≤ x5 then (if (rd x0 x5) < 0 then (some false) else (if (rd x0 x5) ≥ x1 then (some false) else (if x5 > 0 then (if 0 ≤ (wrap64 (x5 - 1)) then (if (wrap64 (x5 - 1)) < (x0.length : Int) then (if (rd x0 x5) ≤ (rd x0 (wrap64 (x5 - 1))) then (some false) else (shamrockref24_rising.l0 k x0 x1 (wrap64 (x5 + 1)))) else (none)) else (none)) else (shamrockref24_rising.l0 k x0 x1 (wrap64 (x5 + 1)))))) else (none)) else (some true)
def shamrockref24_rising.f (k : Nat) (l0 : List Int) (a1 : Int) : Option (Bool) := shamrockref24_rising.l0 k l0 a1 0
set_option maxHeartbeats 8000000 in
set_option maxRecDepth 100000 in
theorem shamrockref24_rising.calls (k : Nat) (A0 : Option Addr) (c0 : Nat) (l0 : List Int) (a1 : Int) (r : Bool) (w : World) (hr0 : Kd.C (Kd.int .i64) w A0 l0.length l0) (hc0 : l0.length ≤ c0) (h : shamrockref24_rising.f k l0 a1 = some r) :
 Calls Try.prog 102 #[.slice A0 l0.length c0, .int .i64 a1] w fun e w' => e = .returned (.bool r) ∧ zq w w' := by
 have HR0 := za.mk hr0
 have HC0 := za.mk hc0
 clear hr0 hc0
 have H : (shamrockref24_rising.l0 k l0 a1 0) = some r := h
 clear h
 have H' := za.mk H
 clear H
 go_enter Try.func102, Try.ntmps102
 go_wp2
 repeat (go_quiet (fail); try go_wp2)
 go_loopg [5] k (fun kq v5 w' => ∃ (x5_1 : Int), v5 = .int .i64 x5_1 ∧ za (shamrockref24_rising.l0 kq l0 a1 x5_1 = some r) ∧ za (kq ≤ k) ∧ zq w w')
 case atStart => exact ⟨(0), (by first | rfl | (simp; done) | (simp [*]; done)), H', ⟨Nat.le_refl _⟩, by repeat (first | exact zq.refl _ | apply zq.step)⟩
 clear H'
 try clear c1
 try clear p2
 obtain ⟨x5_1, rfl, HA, HK1, ⟨m1, rfl⟩⟩ := hrel
 cases gk with
 | zero => exact absurd HA.out (by simp [shamrockref24_rising.l0])
 | succ k1 =>
   have H := HA.out
   clear HA
   simp only [shamrockref24_rising.l0] at H
   by_cases c3 : x5_1 < (l0.length : Int)
   ·rw [if_pos c3] at H
    have c3b0 : decide (x5_1 < (l0.length : Int)) = true := decide_eq_true c3
    clear c3
    by_cases c4 : 0 ≤ x5_1
    ·rw [if_pos c4] at H
     have c4b0 : decide (0 ≤ x5_1) = true := decide_eq_true c4
     clear c4
     by_cases c5 : (rd l0 x5_1) < 0
     ·rw [if_pos c5] at H
      have c5b0 : decide ((rd l0 x5_1) < 0) = true := decide_eq_true c5
      clear c5
      obtain rfl := Option.some.inj H
      have p160 : 0 ≤ (x5_1 : Int) := of_decide_eq_true (by first | (with_reducible assumption) | assumption)
      have q160 : x5_1 < (l0.length : Int) := of_decide_eq_true (by first | (with_reducible assumption) | assumption)
      obtain ⟨ad160, e160, hx160_0⟩ := Kd.at_int HR0.out x5_1 p160 q160
      cases e160
      replace p160 := eq_true p160
      replace q160 := eq_true q160
      go_wp2
      repeat (go_quiet (fail); try go_wp2)
      go_ret
      exact ⟨by first | rfl | (simp; done) | (simp [*]; done), by repeat (first | exact zq.refl _ | apply zq.step)⟩
     rw [if_neg c5] at H
     have c5b0 : decide ((rd l0 x5_1) < 0) = false := decide_eq_false c5
     clear c5
     by_cases c6 : (rd l0 x5_1) ≥ a1
     ·rw [if_pos c6] at H
      have c6b0 : decide (a1 ≤ (rd l0 x5_1)) = true := decide_eq_true c6
      clear c6
      obtain rfl := Option.some.inj H
      have p160 : 0 ≤ (x5_1 : Int) := of_decide_eq_true (by first | (with_reducible assumption) | assumption)
      have q160 : x5_1 < (l0.length : Int) := of_decide_eq_true (by first | (with_reducible assumption) | assumption)
      obtain ⟨ad160, e160, hx160_0⟩ := Kd.at_int HR0.out x5_1 p160 q160
      cases e160
      replace p160 := eq_true p160
      replace q160 := eq_true q160
      have p161 : 0 ≤ (x5_1 : Int) := of_decide_eq_true (by first | (with_reducible assumption) | assumption)
      have q161 : x5_1 < (l0.length : Int) := of_decide_eq_true (by first | (with_reducible assumption) | assumption)
      obtain ⟨ad161, e161, hx161_0⟩ := Kd.at_int HR0.out x5_1 p161 q161
      obtain rfl : ad160 = ad161 := (by injection e161)
      replace p161 := eq_true p161
      replace q161 := eq_true q161
      go_wp2
      repeat (go_quiet (fail); try go_wp2)
      go_ret
      exact ⟨by first | rfl | (simp; done) | (simp [*]; done), by repeat (first | exact zq.refl _ | apply zq.step)⟩
     rw [if_neg c6] at H
     have c6b0 : decide (a1 ≤ (rd l0 x5_1)) = false := decide_eq_false c6
     clear c6
     by_cases c7 : x5_1 > 0
     ·rw [if_pos c7] at H
      have c7b0 : decide (0 < x5_1) = true := decide_eq_true c7
      clear c7
      obtain ⟨ji8, hji8⟩ : ∃ j_ : Int, (wrap64 (x5_1 - 1)) = j_ := ⟨_, rfl⟩
      replace H : (if 0 ≤ (ji8) then (if (ji8) < (l0.length : Int) then (if (rd l0 x5_1) ≤ (rd l0 (ji8)) then (some false) else (shamrockref24_rising.l0 k1 l0 a1 (wrap64 (x5_1 + 1)))) else (none)) else (none)) = some r := by first | (rw [hji8] at H; exact H) | (simp only [hji8] at H ⊢; exact H)
      have hji8w : (IntKind.i64.wrap (x5_1 - 1)) = ji8 := (yY _).trans hji8
      by_cases c9 : 0 ≤ (ji8)
      ·rw [if_pos c9] at H
       have c9b0 : decide (0 ≤ (ji8)) = true := decide_eq_true c9
       clear c9
       by_cases c10 : (ji8) < (l0.length : Int)
       ·rw [if_pos c10] at H
        have c10b0 : decide ((ji8) < (l0.length : Int)) = true := decide_eq_true c10
        clear c10
        by_cases c11 : (rd l0 x5_1) ≤ (rd l0 (ji8))
        ·rw [if_pos c11] at H
         have c11b0 : decide ((rd l0 x5_1) ≤ (rd l0 (ji8))) = true := decide_eq_true c11
         clear c11
         obtain rfl := Option.some.inj H
         have p160 : 0 ≤ (x5_1 : Int) := of_decide_eq_true (by first | (with_reducible assumption) | assumption)
         have q160 : x5_1 < (l0.length : Int) := of_decide_eq_true (by first | (with_reducible assumption) | assumption)
         obtain ⟨ad160, e160, hx160_0⟩ := Kd.at_int HR0.out x5_1 p160 q160
         cases e160
         replace p160 := eq_true p160
         replace q160 := eq_true q160
         have p161 : 0 ≤ (x5_1 : Int) := of_decide_eq_true (by first | (with_reducible assumption) | assumption)
         have q161 : x5_1 < (l0.length : Int) := of_decide_eq_true (by first | (with_reducible assumption) | assumption)
         obtain ⟨ad161, e161, hx161_0⟩ := Kd.at_int HR0.out x5_1 p161 q161
         obtain rfl : ad160 = ad161 := (by injection e161)
         replace p161 := eq_true p161
         replace q161 := eq_true q161
         have p162 : 0 ≤ (x5_1 : Int) := of_decide_eq_true (by first | (with_reducible assumption) | assumption)
         have q162 : x5_1 < (l0.length : Int) := of_decide_eq_true (by first | (with_reducible assumption) | assumption)
         obtain ⟨ad162, e162, hx162_0⟩ := Kd.at_int HR0.out x5_1 p162 q162
         obtain rfl : ad160 = ad162 := (by injection e162)
         replace p162 := eq_true p162
         replace q162 := eq_true q162
         have p163 : 0 ≤ ((ji8) : Int) := of_decide_eq_true (by first | (with_reducible assumption) | assumption)
         have q163 : (ji8) < (l0.length : Int) := of_decide_eq_true (by first | (with_reducible assumption) | assumption)
         obtain ⟨ad163, e163, hx163_0⟩ := Kd.at_int HR0.out (ji8) p163 q163
         obtain rfl : ad160 = ad163 := (by injection e163)
         replace p163 := eq_true p163
         replace q163 := eq_true q163
         go_wp2
         repeat (go_quiet (fail); try go_wp2)
         go_ret
         exact ⟨by first | rfl | (simp; done) | (simp only [← hji8] <;> (first | rfl | simp)) | (simp [*]; done), by repeat (first | exact zq.refl _ | apply zq.step)⟩
        rw [if_neg c11] at H
        have c11b0 : decide ((rd l0 x5_1) ≤ (rd l0 (ji8))) = false := decide_eq_false c11
        clear c11
        have H' := za.mk H
        clear H
        have p160 : 0 ≤ (x5_1 : Int) := of_decide_eq_true (by first | (with_reducible assumption) | assumption)
        have q160 : x5_1 < (l0.length : Int) := of_decide_eq_true (by first | (with_reducible assumption) | assumption)
        obtain ⟨ad160, e160, hx160_0⟩ := Kd.at_int HR0.out x5_1 p160 q160
        cases e160
        replace p160 := eq_true p160
        replace q160 := eq_true q160
        have p161 : 0 ≤ (x5_1 : Int) := of_decide_eq_true (by first | (with_reducible assumption) | assumption)
        have q161 : x5_1 < (l0.length : Int) := of_decide_eq_true (by first | (with_reducible assumption) | assumption)
        obtain ⟨ad161, e161, hx161_0⟩ := Kd.at_int HR0.out x5_1 p161 q161
        obtain rfl : ad160 = ad161 := (by injection e161)
        replace p161 := eq_true p161
        replace q161 := eq_true q161
        have p162 : 0 ≤ (x5_1 : Int) := of_decide_eq_true (by first | (with_reducible assumption) | assumption)
        have q162 : x5_1 < (l0.length : Int) := of_decide_eq_true (by first | (with_reducible assumption) | assumption)
        obtain ⟨ad162, e162, hx162_0⟩ := Kd.at_int HR0.out x5_1 p162 q162
        obtain rfl : ad160 = ad162 := (by injection e162)
        replace p162 := eq_true p162
        replace q162 := eq_true q162
        have p163 : 0 ≤ ((ji8) : Int) := of_decide_eq_true (by first | (with_reducible assumption) | assumption)
        have q163 : (ji8) < (l0.length : Int) := of_decide_eq_true (by first | (with_reducible assumption) | assumption)
        obtain ⟨ad163, e163, hx163_0⟩ := Kd.at_int HR0.out (ji8) p163 q163
        obtain rfl : ad160 = ad163 := (by injection e163)
        replace p163 := eq_true p163
        replace q163 := eq_true q163
        go_wp2
        repeat (go_quiet (fail); try go_wp2)
        go_roundg k1
        case measure => have := HK1.out; omega
        case rel => exact ⟨(wrap64 (x5_1 + 1)), (by first | rfl | (simp; done) | (simp [*]; done)), H', ⟨by have := HK1.out; omega⟩, by repeat (first | exact zq.refl _ | apply zq.step)⟩
       rw [if_neg c10] at H
       exact absurd H (by simp)
      rw [if_neg c9] at H
      exact absurd H (by simp)
     rw [if_neg c7] at H
     have c7b0 : decide (0 < x5_1) = false := decide_eq_false c7
     clear c7
     have H' := za.mk H
     clear H
     have p160 : 0 ≤ (x5_1 : Int) := of_decide_eq_true (by first | (with_reducible assumption) | assumption)
     have q160 : x5_1 < (l0.length : Int) := of_decide_eq_true (by first | (with_reducible assumption) | assumption)
     obtain ⟨ad160, e160, hx160_0⟩ := Kd.at_int HR0.out x5_1 p160 q160
     cases e160
     replace p160 := eq_true p160
     replace q160 := eq_true q160
     have p161 : 0 ≤ (x5_1 : Int) := of_decide_eq_true (by first | (with_reducible assumption) | assumption)
     have q161 : x5_1 < (l0.length : Int) := of_decide_eq_true (by first | (with_reducible assumption) | assumption)
     obtain ⟨ad161, e161, hx161_0⟩ := Kd.at_int HR0.out x5_1 p161 q161
     obtain rfl : ad160 = ad161 := (by injection e161)
     replace p161 := eq_true p161
     replace q161 := eq_true q161
     go_wp2
     repeat (go_quiet (fail); try go_wp2)
     go_roundg k1
     case measure => have := HK1.out; omega
     case rel => exact ⟨(wrap64 (x5_1 + 1)), (by first | rfl | (simp; done) | (simp [*]; done)), H', ⟨by have := HK1.out; omega⟩, by repeat (first | exact zq.refl _ | apply zq.step)⟩
    rw [if_neg c4] at H
    exact absurd H (by simp)
   rw [if_neg c3] at H
   have c3b0 : decide (x5_1 < (l0.length : Int)) = false := decide_eq_false c3
   clear c3
   obtain rfl := Option.some.inj H
   go_wp2
   repeat (go_quiet (fail); try go_wp2)
   go_ret
   exact ⟨by first | rfl | (simp; done) | (simp [*]; done), by repeat (first | exact zq.refl _ | apply zq.step)⟩
def shamrockref24_in.l0 : Nat → List Int → Int → Int → Option (Bool)
 | 0, _, _, _ => none
 | k + 1, x0, x1, x5 => if x5 < (x0.length : Int) then (if 0 ≤ x5 then (if (rd x0 x5) = x1 then (some true) else (shamrockref24_in.l0 k x0 x1 (wrap64 (x5 + 1)))) else (none)) else (some false)
def shamrockref24_in.f (k : Nat) (l0 : List Int) (a1 : Int) : Option (Bool) := shamrockref24_in.l0 k l0 a1 0
set_option maxHeartbeats 8000000 in
set_option maxRecDepth 100000 in
theorem shamrockref24_in.calls (k : Nat) (A0 : Option Addr) (c0 : Nat) (l0 : List Int) (a1 : Int) (r : Bool) (w : World) (hr0 : Kd.C (Kd.int .i64) w A0 l0.length l0) (hc0 : l0.length ≤ c0) (h : shamrockref24_in.f k l0 a1 = some r) :
 Calls Try.prog 103 #[.slice A0 l0.length c0, .int .i64 a1] w fun e w' => e = .returned (.bool r) ∧ zq w w' := by
 have HR0 := za.mk hr0
 have HC0 := za.mk hc0
 clear hr0 hc0
 have H : (shamrockref24_in.l0 k l0 a1 0) = some r := h
 clear h
 have H' := za.mk H
 clear H
 go_enter Try.func103, Try.ntmps103
 go_wp2
 go_loopg [5] k (fun kq v5 w' => ∃ (x5_1 : Int), v5 = .int .i64 x5_1 ∧ za (shamrockref24_in.l0 kq l0 a1 x5_1 = some r) ∧ za (kq ≤ k) ∧ zq w w')
 case atStart => exact ⟨(0), (by first | rfl | (simp; done) | (simp [*]; done)), H', ⟨Nat.le_refl _⟩, by repeat (first | exact zq.refl _ | apply zq.step)⟩
 clear H'
 try clear c1
 try clear p2
 obtain ⟨x5_1, rfl, HA, HK1, ⟨m1, rfl⟩⟩ := hrel
 cases gk with
 | zero => exact absurd HA.out (by simp [shamrockref24_in.l0])
 | succ k1 =>
   have H := HA.out
   clear HA
   simp only [shamrockref24_in.l0] at H
   by_cases c3 : x5_1 < (l0.length : Int)
   ·rw [if_pos c3] at H
    have c3b0 : decide (x5_1 < (l0.length : Int)) = true := decide_eq_true c3
    clear c3
    by_cases c4 : 0 ≤ x5_1
    ·rw [if_pos c4] at H
     have c4b0 : decide (0 ≤ x5_1) = true := decide_eq_true c4
     clear c4
     by_cases c5 : (rd l0 x5_1) = a1
     ·rw [if_pos c5] at H
      have c5b0 : ((rd l0 x5_1) == a1) = true := beq_iff_eq.mpr c5
      have c5b1 : ((rd l0 x5_1) != a1) = false := bne_eq_false_iff_eq.mpr c5
      clear c5
      obtain rfl := Option.some.inj H
      have p164 : 0 ≤ (x5_1 : Int) := of_decide_eq_true (by first | (with_reducible assumption) | assumption)
      have q164 : x5_1 < (l0.length : Int) := of_decide_eq_true (by first | (with_reducible assumption) | assumption)
      obtain ⟨ad164, e164, hx164_0⟩ := Kd.at_int HR0.out x5_1 p164 q164
      cases e164
      replace p164 := eq_true p164
      replace q164 := eq_true q164
      go_wp2
      go_ret
      exact ⟨by first | rfl | (simp; done) | (simp [*]; done), by repeat (first | exact zq.refl _ | apply zq.step)⟩
     rw [if_neg c5] at H
     have c5b0 : ((rd l0 x5_1) == a1) = false := beq_eq_false_iff_ne.mpr c5
     have c5b1 : ((rd l0 x5_1) != a1) = true := bne_iff_ne.mpr c5
     have H' := za.mk H
     clear H
     have p164 : 0 ≤ (x5_1 : Int) := of_decide_eq_true (by first | (with_reducible assumption) | assumption)
     have q164 : x5_1 < (l0.length : Int) := of_decide_eq_true (by first | (with_reducible assumption) | assumption)
     obtain ⟨ad164, e164, hx164_0⟩ := Kd.at_int HR0.out x5_1 p164 q164
     cases e164
     replace p164 := eq_true p164
     replace q164 := eq_true q164
     go_wp2
     go_roundg k1
     case measure => have := HK1.out; omega
     case rel => exact ⟨(wrap64 (x5_1 + 1)), (by first | rfl | (simp; done) | (simp [*]; done)), H', ⟨by have := HK1.out; omega⟩, by repeat (first | exact zq.refl _ | apply zq.step)⟩
    rw [if_neg c4] at H
    exact absurd H (by simp)
   rw [if_neg c3] at H
   have c3b0 : decide (x5_1 < (l0.length : Int)) = false := decide_eq_false c3
   clear c3
   obtain rfl := Option.some.inj H
   go_wp2
   go_ret
   exact ⟨by first | rfl | (simp; done) | (simp [*]; done), by repeat (first | exact zq.refl _ | apply zq.step)⟩
end Go.Proofs.Ytpeiejkcoadhfaa.PViewEmpty
namespace Go.Proofs.Ytpeiejkcoadhfaa.PViewEmpty
open Go.RowKit Go.Proofs.YtpeiejkcoadhfaaW.PrintWords Go.Proofs.YtpeiejkcoadhfaaW.PrintLast Go.Proofs.YtpeiejkcoadhfaaW.PrintMore
attribute [local go_sem] jt jk Zd jM yW jb jv jA
set_option linter.unusedVariables false
set_option linter.unusedSimpArgs false
def shamrockref10_Each.j0 : Nat → Int → Bool → Int → Int → Int → Int → Int → Option (Int)
 | 0, _, _, _, _, _, _, _ => none
 | k + 1, x1, x10, x155000, x155001, x155002, x155003, x155004 => if x10 = true then (some x155001) else (if x1 = 3 then (some (wrap64 ((wrap64 (x155001 + x155002)) - 1))) else (if x1 = 4 then (some (wrap64 (x155001 + x155002))) else (some 0)))
def shamrockref10_Each.f (k : Nat) (a0_0 : Int) (a0_1 : Int) (a0_2 : Int) (a0_3 : Int) (a0_4 : Int) (a1 : Int) : Option (Int) := if a1 = 1 then (shamrockref10_Each.j0 k a1 true a0_0 a0_1 a0_2 a0_3 a0_4) else (shamrockref10_Each.j0 k a1 (a1 == 2) a0_0 a0_1 a0_2 a0_3 a0_4)
set_option maxHeartbeats 8000000 in
set_option maxRecDepth 100000 in
theorem shamrockref10_Each.calls (k : Nat) (a0_0 : Int) (a0_1 : Int) (a0_2 : Int) (a0_3 : Int) (a0_4 : Int) (a1 : Int) (r : Int) (w : World) (h : shamrockref10_Each.f k a0_0 a0_1 a0_2 a0_3 a0_4 a1 = some r) :
 Calls Try.prog 50 #[.agg #[.int .i64 a0_0, .int .i64 a0_1, .int .i64 a0_2, .int .i64 a0_3, .int .i64 a0_4], .int .i64 a1] w fun e w' => e = .returned (.int .i64 r) ∧ Below w.heap.size w w' := by
 have hu48 := Try.underlying48
 have HB := za.mk (Below.refl w.heap.size w)
 have H : (if a1 = 1 then (shamrockref10_Each.j0 k a1 true a0_0 a0_1 a0_2 a0_3 a0_4) else (shamrockref10_Each.j0 k a1 (a1 == 2) a0_0 a0_1 a0_2 a0_3 a0_4)) = some r := h
 clear h
 have HC3 := za.mk H
 clear H
 go_enter Try.func50, Try.ntmps50
 go_upto_region 1 with (first | ((with_reducible refine zT (N := 2) rfl ?_); refine zP ?hg (N := 2) ?hd (cs := #[.int .i64 a0_0, .int .i64 a0_1, .int .i64 a0_2, .int .i64 a0_3, .int .i64 a0_4]) (t := 48) ?hr ?_; (case hd => rfl); (case hg => rfl); (case hr => first | (go_simp; done) | (go_simp; rfl)); intro gb154 hg w4 hbox hb; have n0_ := za.mk (zu (by repeat (first | (with_reducible first | exact HB.out | apply zc | apply zb | apply zg) | exact HB.out)) hb); have n1_ := za.mk (hbox); have n2_ := za.mk ((by rw [hg]; exact (zr (by repeat (first | (with_reducible first | exact HB.out | apply zc | apply zb | apply zg) | exact HB.out))) : w.heap.size ≤ gb154)); have n3_ := za.mk ((by rw [hg]; exact (zr (by repeat (first | (with_reducible first | exact HB.out | apply zc | apply zb | apply zg) | exact HB.out))) : w.heap.size ≤ gb154)); clear HB; have HB := n0_; have BK154 := n1_; have GW154 := n2_; have GE154 := n3_; clear n0_ n1_ n2_ n3_; clear hb hbox hg))
 (try simp only [Act.put, List.setIfInBounds_toArray, List.set_cons_zero, List.set_cons_succ])
 go_cut [10] (fun v10 wc => ∃ (kq : Nat) (x10_2 : Bool), v10 = .bool x10_2 ∧ za (shamrockref10_Each.j0 kq a1 x10_2 a0_0 a0_1 a0_2 a0_3 a0_4 = some r) ∧ za (kq ≤ k) ∧ za (wc.heap[gb154]? = some (.cells #[.int .i64 a0_0, .int .i64 a0_1, .int .i64 a0_2, .int .i64 a0_3, .int .i64 a0_4] 48 (0, 0))) ∧ za (Below w.heap.size w wc))
 case first =>
  have H := HC3.out
  clear HC3
  by_cases c5 : a1 = 1
  ·rw [if_pos c5] at H
   have c5b0 : (a1 == 1) = true := beq_iff_eq.mpr c5
   have c5b1 : (a1 != 1) = false := bne_eq_false_iff_eq.mpr c5
   clear c5
   (first | rw [c5b0] | (simp only [yY, jG]; rw [c5b0]) | skip)
   have H' := za.mk H
   clear H
   go_wp2
   go_meet
   case rel => exact ⟨_, (true), (by first | rfl | (simp; done) | (simp [*]; done)), H', ⟨by first | omega | exact Nat.le_refl _⟩, ⟨by (with_reducible repeat (first | refine zC ?_ _ | refine zL ?_ | refine zt ?_ _)); exact BK154.out⟩, ⟨by repeat (first | (with_reducible first | exact HB.out | apply zc | apply zb | apply zg | refine zn ?_ GE154.out) | exact HB.out)⟩⟩
  rw [if_neg c5] at H
  have c5b0 : (a1 == 1) = false := beq_eq_false_iff_ne.mpr c5
  have c5b1 : (a1 != 1) = true := bne_iff_ne.mpr c5
  (first | rw [c5b0] | (simp only [yY, jG]; rw [c5b0]) | skip)
  have H' := za.mk H
  clear H
  go_wp2
  go_meet
  case rel => exact ⟨_, ((a1 == 2)), (by first | rfl | (simp; done) | (simp [*]; done)), H', ⟨by first | omega | exact Nat.le_refl _⟩, ⟨by (with_reducible repeat (first | refine zC ?_ _ | refine zL ?_ | refine zt ?_ _)); exact BK154.out⟩, ⟨by repeat (first | (with_reducible first | exact HB.out | apply zc | apply zb | apply zg | refine zn ?_ GE154.out) | exact HB.out)⟩⟩
 clear HC3
 try clear p2
 try clear c5
 try clear c5b0
 try clear c5b1
 obtain ⟨kq, x10_2, rfl, HA, HJ2, BK154, HB⟩ := hcut
 cases kq with
 | zero => exact absurd HA.out (by simp [shamrockref10_Each.j0])
 | succ kj2 =>
   have H := HA.out
   clear HA
   simp only [shamrockref10_Each.j0] at H
   by_cases c6 : x10_2 = true
   ·subst c6
    have H1 : (some a0_1) = some r := by rw [if_pos rfl] at H; exact H
    clear H
    have H := H1
    clear H1
    obtain rfl := Option.some.inj H
    have hcz7_0 : wc.cell? ⟨gb154, 0, none⟩ = some (.int .i64 a0_0) := (zi BK154.out 0).trans rfl
    have hcz7_1 : wc.cell? ⟨gb154, 1, none⟩ = some (.int .i64 a0_1) := (zi BK154.out 1).trans rfl
    have hcz7_2 : wc.cell? ⟨gb154, 2, none⟩ = some (.int .i64 a0_2) := (zi BK154.out 2).trans rfl
    have hcz7_3 : wc.cell? ⟨gb154, 3, none⟩ = some (.int .i64 a0_3) := (zi BK154.out 3).trans rfl
    have hcz7_4 : wc.cell? ⟨gb154, 4, none⟩ = some (.int .i64 a0_4) := (zi BK154.out 4).trans rfl
    have hfz7_0 := ze BK154.out 0
    have hfz7_1 := ze BK154.out 1
    have hfz7_2 := ze BK154.out 2
    have hfz7_3 := ze BK154.out 3
    have hfz7_4 := ze BK154.out 4
    go_wp2
    go_ret
    exact ⟨by first | rfl | (simp [errW_none, errW_some] <;> rfl) | (simp [*, errW_none, errW_some] <;> rfl), by repeat (first | (with_reducible first | exact HB.out | apply zc | apply zb | apply zg | refine zn ?_ GE154.out) | exact HB.out)⟩
   replace c6 := Bool.eq_false_iff.mpr c6
   subst c6
   have H1 : (if a1 = 3 then (some (wrap64 ((wrap64 (a0_1 + a0_2)) - 1))) else (if a1 = 4 then (some (wrap64 (a0_1 + a0_2))) else (some 0))) = some r := by rw [if_neg (show ¬ (false = true) by decide)] at H; exact H
   clear H
   have H := H1
   clear H1
   by_cases c8 : a1 = 3
   ·rw [if_pos c8] at H
    have c8b0 : (a1 == 3) = true := beq_iff_eq.mpr c8
    have c8b1 : (a1 != 3) = false := bne_eq_false_iff_eq.mpr c8
    clear c8
    obtain rfl := Option.some.inj H
    have hcz9_0 : wc.cell? ⟨gb154, 0, none⟩ = some (.int .i64 a0_0) := (zi BK154.out 0).trans rfl
    have hcz9_1 : wc.cell? ⟨gb154, 1, none⟩ = some (.int .i64 a0_1) := (zi BK154.out 1).trans rfl
    have hcz9_2 : wc.cell? ⟨gb154, 2, none⟩ = some (.int .i64 a0_2) := (zi BK154.out 2).trans rfl
    have hcz9_3 : wc.cell? ⟨gb154, 3, none⟩ = some (.int .i64 a0_3) := (zi BK154.out 3).trans rfl
    have hcz9_4 : wc.cell? ⟨gb154, 4, none⟩ = some (.int .i64 a0_4) := (zi BK154.out 4).trans rfl
    have hfz9_0 := ze BK154.out 0
    have hfz9_1 := ze BK154.out 1
    have hfz9_2 := ze BK154.out 2
    have hfz9_3 := ze BK154.out 3
    have hfz9_4 := ze BK154.out 4
    go_wp2
    go_ret
    exact ⟨by first | rfl | (simp [errW_none, errW_some] <;> rfl) | (simp [*, errW_none, errW_some] <;> rfl), by repeat (first | (with_reducible first | exact HB.out | apply zc | apply zb | apply zg | refine zn ?_ GE154.out) | exact HB.out)⟩
   rw [if_neg c8] at H
   have c8b0 : (a1 == 3) = false := beq_eq_false_iff_ne.mpr c8
   have c8b1 : (a1 != 3) = true := bne_iff_ne.mpr c8
   by_cases c10 : a1 = 4
   ·rw [if_pos c10] at H
    have c10b0 : (a1 == 4) = true := beq_iff_eq.mpr c10
    have c10b1 : (a1 != 4) = false := bne_eq_false_iff_eq.mpr c10
    clear c10
    obtain rfl := Option.some.inj H
    have hcz11_0 : wc.cell? ⟨gb154, 0, none⟩ = some (.int .i64 a0_0) := (zi BK154.out 0).trans rfl
    have hcz11_1 : wc.cell? ⟨gb154, 1, none⟩ = some (.int .i64 a0_1) := (zi BK154.out 1).trans rfl
    have hcz11_2 : wc.cell? ⟨gb154, 2, none⟩ = some (.int .i64 a0_2) := (zi BK154.out 2).trans rfl
    have hcz11_3 : wc.cell? ⟨gb154, 3, none⟩ = some (.int .i64 a0_3) := (zi BK154.out 3).trans rfl
    have hcz11_4 : wc.cell? ⟨gb154, 4, none⟩ = some (.int .i64 a0_4) := (zi BK154.out 4).trans rfl
    have hfz11_0 := ze BK154.out 0
    have hfz11_1 := ze BK154.out 1
    have hfz11_2 := ze BK154.out 2
    have hfz11_3 := ze BK154.out 3
    have hfz11_4 := ze BK154.out 4
    go_wp2
    go_ret
    exact ⟨by first | rfl | (simp [errW_none, errW_some] <;> rfl) | (simp [*, errW_none, errW_some] <;> rfl), by repeat (first | (with_reducible first | exact HB.out | apply zc | apply zb | apply zg | refine zn ?_ GE154.out) | exact HB.out)⟩
   rw [if_neg c10] at H
   have c10b0 : (a1 == 4) = false := beq_eq_false_iff_ne.mpr c10
   have c10b1 : (a1 != 4) = true := bne_iff_ne.mpr c10
   obtain rfl := Option.some.inj H
   go_wp2
   go_ret
   exact ⟨by first | rfl | (simp [errW_none, errW_some] <;> rfl) | (simp [*, errW_none, errW_some] <;> rfl), by repeat (first | (with_reducible first | exact HB.out | apply zc | apply zb | apply zg | refine zn ?_ GE154.out) | exact HB.out)⟩
end Go.Proofs.Ytpeiejkcoadhfaa.PViewEmpty
