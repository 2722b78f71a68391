/- slices.ContainsFunc at Join's closure; stripe.Columns, Join. -/
import Derived.Test.YtpeiejkcoadhfaaSt3
namespace Go.Proofs.Ytpeiejkcoadhfaa
open Go.RowKit Go.Shelf Go.Proofs.YtpeiejkcoadhfaaW.PrintWords Go.Proofs.YtpeiejkcoadhfaaW.PrintMore

theorem lenNe_any (w : World) (A : Option Addr) (n c g : Nat) (K : Int) (hg : w.cell? ⟨g, 0, none⟩ = some (.int .i64 K)) :
    Calls Try.prog 78 #[.slice A n c, .pointer (some ⟨g, 0, none⟩)] w fun e w' => e = .returned (.bool ((n : Int) != K)) ∧ w = w' := by
  go_enter Try.func78, Try.ntmps78
  go_wp2
  go_ret
  exact ⟨rfl, rfl⟩
/-- An index, or -1. -/
def IdxIs (b : Bool) (w : World) (e : Ending) (w' : World) : Prop := ∃ r : Int, (decide (0 ≤ r) = b) ∧ e = .returned (.int .i64 r) ∧ w = w'
def anyNe (xss : List (List Int)) (K : Int) : Bool := xss.any fun c => (c.length : Int) != K
theorem anyNe_at (xss : List (List Int)) (K : Int) (j : Nat) (h : j < xss.length) (hne : (((xss.getD j []).length : Int) != K) = true) : anyNe xss K = true := by
  unfold anyNe
  rw [List.any_eq_true]
  refine ⟨xss.getD j [], ?_, hne⟩
  exact List.mem_of_getElem? (getD_get xss j h)
theorem anyNe_no (xss : List (List Int)) (K : Int) (h : ∀ i, i < xss.length → (((xss.getD i []).length : Int) != K) = false) : anyNe xss K = false := by
  unfold anyNe
  rw [List.any_eq_false]
  intro x hx
  obtain ⟨i, hi⟩ := List.getElem?_of_mem hx
  have hlt := (List.getElem?_eq_some_iff.1 hi).1
  have h1 := h i hlt
  rw [getD_get xss i hlt] at hi
  injection hi with hi
  rw [← hi, h1]
  simp
set_option maxRecDepth 100000 in
theorem IndexFunc_any (w : World) (A : Option Addr) (n c g : Nat) (K : Int) (xss : List (List Int)) (hC : Kd.C u8s w A n xss) (hc : n ≤ c) (hg : w.cell? ⟨g, 0, none⟩ = some (.int .i64 K)) :
    Calls Try.prog 118 #[.slice A n c, .func (.func 78) #[] #[.pointer (some ⟨g, 0, none⟩)]] w (IdxIs (anyNe xss K) w) := by
  have hnl := Kd.C_len hC
  have hnm := Kd.C_max hC
  have HC := Aside0.mk hC
  have HN := Aside0.mk hnl
  have HG := Aside0.mk hg
  clear hC hnl hg
  go_enter Try.func118, Try.ntmps118
  go_wp2
  go_loop [8] (fun v8 => ∃ (j : Nat), j ≤ n ∧ v8 = .int .i64 j ∧ Aside0 (∀ i, i < j → (((xss.getD i []).length : Int) != K) = false)) (fun v8 => n - (intOf v8).toNat)
  case atStart => exact ⟨0, by omega, rfl, ⟨fun i h => absurd h (by omega)⟩⟩
  case round =>
    obtain ⟨j, hj, rfl, HJ⟩ := hrel
    by_cases hlt : j < n
    · obtain ⟨ad, A0, c0, rfl, hx, hl0, hC0⟩ := row_at HC.out j hlt
      have HCl := Aside0.mk (lenNe_any w A0 (xss.getD j []).length c0 g K HG.out)
      have HA := Aside0.mk (anyNe_at xss K j (by rw [HN.out]; exact hlt))
      have HJ2 : Aside0 ((((xss.getD j []).length : Int) != K) = false → ∀ i, i < j + 1 → (((xss.getD i []).length : Int) != K) = false) := ⟨fun h i hi => by
        rcases Nat.lt_or_ge i j with h1 | h1
        · exact HJ.out i h1
        · obtain rfl : i = j := by omega
          exact h⟩
      clear HJ hC0 hl0
      obtain ⟨m, hm⟩ : ∃ m, m = (xss.getD j []).length := ⟨_, rfl⟩
      rw [← hm] at HCl HA HJ2 hx
      clear hm
      obtain ⟨b, hb⟩ : ∃ b, b = ((m : Int) != K) := ⟨_, rfl⟩
      rw [← hb] at HCl HA HJ2
      clear hb
      cases b with
      | true =>
        go_wp2_with (go_at_call 78; refine HCl.out.mono ?_; rintro e w1 ⟨rfl, rfl⟩)
        go_ret
        exact ⟨j, by rw [HA.out trivial]; exact decide_eq_true (by omega), rfl, rfl⟩
      | false =>
        go_wp2_with (go_at_call 78; refine HCl.out.mono ?_; rintro e w1 ⟨rfl, rfl⟩)
        go_round
        case rel => exact ⟨j + 1, by omega, by go_num, ⟨HJ2.out trivial⟩⟩
        case measure => simp [intOf]; omega
    · obtain rfl : j = n := by omega
      go_wp2
      go_ret
      exact ⟨-1, by rw [anyNe_no xss K (by rw [HN.out]; exact HJ.out)]; rfl, rfl, rfl⟩
set_option maxRecDepth 100000 in
theorem ContainsFunc_any (w : World) (A : Option Addr) (n c g : Nat) (K : Int) (xss : List (List Int)) (hC : Kd.C u8s w A n xss) (hc : n ≤ c) (hg : w.cell? ⟨g, 0, none⟩ = some (.int .i64 K)) :
    Calls Try.prog 77 #[.slice A n c, .func (.func 78) #[] #[.pointer (some ⟨g, 0, none⟩)]] w fun e w' => e = .returned (.bool (anyNe xss K)) ∧ w = w' := by
  have HI := Aside0.mk (IndexFunc_any w A n c g K xss hC hc hg)
  clear hC hg
  go_enter Try.func77, Try.ntmps77
  go_wp2_with (go_at_call 118; refine HI.out.mono ?_; rintro e w1 ⟨r, hr, rfl, rfl⟩)
  go_ret
  exact ⟨rfl, rfl⟩
/-- How many columns, as an int. -/
def colsI (size k : Int) : Int := if size < 0 ∨ k < 1 then 0 else (ncol size.toNat k.toNat : Nat)
theorem ncol_div (a b : Nat) (hb : 0 < b) : ncol a b = a / b + (if 0 < a % b then 1 else 0) := by
  unfold ncol
  have h1 := Nat.div_add_mod a b
  have h2 := Nat.mod_lt a hb
  split
  · rename_i h
    have e : a + b - 1 = (a % b - 1) + b * (a / b + 1) := by rw [Nat.mul_add, Nat.mul_one]; omega
    rw [e, Nat.add_mul_div_left _ _ hb, Nat.div_eq_of_lt (by omega)]
    omega
  · rename_i h
    have e : a + b - 1 = (b - 1) + b * (a / b) := by omega
    rw [e, Nat.add_mul_div_left _ _ hb, Nat.div_eq_of_lt (by omega)]
    omega

theorem Columns_no (w : World) (size k : Int) (h : size < 0 ∨ k < 1) : Calls Try.prog 38 #[.int .i64 size, .int .i64 k] w fun e w' => e = .returned (.int .i64 0) ∧ w = w' := by
  by_cases h1 : size < 0
  · go_enter Try.func38, Try.ntmps38
    go_wp2
    go_ret
    exact ⟨rfl, rfl⟩
  · have h2 : k < 1 := h.resolve_left h1
    go_enter Try.func38, Try.ntmps38
    go_wp2
    go_ret
    exact ⟨rfl, rfl⟩
theorem Columns_yes (w : World) (a b : Nat) (hb : 0 < b) (ha : a ≤ 9223372036854775807) : Calls Try.prog 38 #[.int .i64 a, .int .i64 b] w fun e w' => e = .returned (.int .i64 (ncol a b : Nat)) ∧ w = w' := by
  have h1 : ¬ (a : Int) < 0 := by omega
  have h2 : ¬ (b : Int) < 1 := by omega
  have hd := ncol_div a b hb
  have hq : (a / b : Nat) ≤ 9223372036854775807 := Nat.le_trans (Nat.div_le_self _ _) ha
  have hq0 : (0 : Int) ≤ (a : Int) / (b : Int) := Int.ediv_nonneg (by omega) (by omega)
  have hq4 : (a : Int) / (b : Int) ≤ 9223372036854775807 := by
    have : ((a / b : Nat) : Int) = (a : Int) / (b : Int) := Int.natCast_ediv a b
    omega
  by_cases hm : 0 < a % b
  · rw [if_pos hm] at hd
    have hmI : (0 : Int) < (a : Int) % (b : Int) := by omega
    have hq2 : (a / b : Nat) + 1 ≤ 9223372036854775807 := by
      rcases Nat.lt_or_ge 1 b with h | h
      · have : a / b ≤ a / 2 := Nat.div_le_div_left (show 2 ≤ b from h) (by omega)
        omega
      · obtain rfl : b = 1 := by omega
        rw [Nat.mod_one] at hm; omega
    have hq3 : (a : Int) / (b : Int) + 1 ≤ 9223372036854775807 := by
      have : ((a / b : Nat) : Int) = (a : Int) / (b : Int) := Int.natCast_ediv a b
      omega
    have HD := Aside0.mk hd
    clear hd hm hq hq2
    go_enter Try.func38, Try.ntmps38
    go_wp2
    go_ret
    exact ⟨by rw [HD.out]; rfl, rfl⟩
  · rw [if_neg hm] at hd
    have hmI : ¬ (0 : Int) < (a : Int) % (b : Int) := by omega
    have HD := Aside0.mk hd
    clear hd hm hq
    go_enter Try.func38, Try.ntmps38
    go_wp2
    go_ret
    exact ⟨by rw [HD.out]; rfl, rfl⟩
end Go.Proofs.Ytpeiejkcoadhfaa
