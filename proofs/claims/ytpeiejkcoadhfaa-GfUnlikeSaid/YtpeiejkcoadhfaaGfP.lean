/- The reference's power. -/
import Derived.Test.YtpeiejkcoadhfaaGfR
namespace Go.Proofs.Ytpeiejkcoadhfaa
open Go.RowKit Go.Proofs.YtpeiejkcoadhfaaW.PrintWords Go.Proofs.YtpeiejkcoadhfaaW.PrintMore PGfPows

def powN (a n : Nat) : Nat := if n = 0 then 1 else if a = 0 then 0 else Gf.E (n * Gf.L a % 255)
theorem E_zero : Gf.E 0 = 1 := by decide +kernel
theorem powN_E (a n : Nat) (h0 : a ≠ 0) : powN a n = Gf.E (n * Gf.L a % 255) := by
  unfold powN
  split
  · rename_i h
    rw [h, Nat.zero_mul]
    exact E_zero.symm
  · rfl
theorem powN_lt (a n : Nat) : powN a n < 256 := by
  unfold powN
  split
  · omega
  · split
    · omega
    · exact E_lt _
theorem powN_ne (a n : Nat) (h0 : a ≠ 0) : powN a n ≠ 0 := by
  rw [powN_E a n h0]
  have := (Gf.E_pos (n * Gf.L a % 255) (Nat.mod_lt _ (by omega))).1
  omega
theorem powN_even (a m : Nat) (ha : a < 256) (hm : m ≠ 0) : powN (Gf.mulN a a) m = powN a (2 * m) := by
  by_cases h0 : a = 0
  · have h2 : 2 * m ≠ 0 := by omega
    rw [h0, (Gf.mul_0 0 (by omega)).1]; simp [powN, hm, h2]
  rw [powN_E _ _ (mul_ne a a ha ha h0 h0), powN_E _ _ h0, L_mul a a ha ha h0 h0, Nat.mul_mod_mod]
  congr 2
  rw [Nat.mul_add, Nat.mul_assoc, Nat.two_mul]
theorem powN_odd (a m : Nat) (ha : a < 256) : Gf.mulN a (powN (Gf.mulN a a) m) = powN a (2 * m + 1) := by
  by_cases h0 : a = 0
  · rw [h0, (Gf.mul_0 _ (powN_lt _ _)).1]; simp [powN]
  rw [mul_EL a _ ha (powN_lt _ _) h0 (powN_ne _ _ (mul_ne a a ha ha h0 h0)), powN_E _ _ (mul_ne a a ha ha h0 h0), (Gf.E_pos _ (Nat.mod_lt _ (by omega))).2.2, powN_E _ _ h0, L_mul a a ha ha h0 h0, Nat.mul_mod_mod]
  congr 1
  rw [Nat.mul_add, Nat.add_mul, Nat.two_mul, Nat.add_mul]
  omega
theorem refPow_l0 (k : Nat) : ∀ (j a n r : Nat), n < 2 ^ j → j ≤ 64 → a < 256 → r < 256 → shamrockref01_Pow.l0 (k + 17 + j + 1) a n r = some ((Gf.mulN r (powN a n) : Nat) : Int) := by
  intro j
  induction j with
  | zero =>
    intro a n r hn _ ha hr
    have h : n = 0 := by omega
    subst h
    rw [shamrockref01_Pow.l0, if_neg (by omega)]
    simp [powN, mul_one' r hr]
  | succ j ih =>
    intro a n r hn hj ha hr
    by_cases h : n = 0
    · subst h
      rw [shamrockref01_Pow.l0, if_neg (by omega)]
      simp [powN, mul_one' r hr]
    have haa := mulN_lt a a ha ha
    have hra := mulN_lt r a hr ha
    have hn2 : n / 2 < 2 ^ j := by rw [Nat.pow_succ] at hn; omega
    have hn3 : n < 2 ^ 64 := Nat.lt_of_lt_of_le hn (Nat.pow_le_pow_right (by omega) hj)
    have t1 : Int.tmod (n : Int) 2 = ((n % 2 : Nat) : Int) := (Int.ofNat_tmod n 2).symm
    have t2 : Int.tdiv (n : Int) 2 = ((n / 2 : Nat) : Int) := (Int.ofNat_tdiv n 2).symm
    have t3 : wrap64 ((n / 2 : Nat) : Int) = ((n / 2 : Nat) : Int) := IntWalk.wrap64_in _ ⟨by omega, by omega⟩
    have t4 : (n : Int) > 0 := by clear hn hn2 hn3 t1 t2 t3; omega
    have t5 : 17 ≤ k + 17 + (j + 1) := by clear hn hn2 hn3 t1 t2 t3; omega
    have t6 := refMul_f _ a a t5 ha ha
    have t7 := refMul_f _ r a t5 hr ha
    unfold shamrockref01_Pow.l0
    rw [if_pos t4, t1, t2, t3, t6, t7]
    show (if ((n % 2 : Nat) : Int) = 1 then (shamrockref01_Pow.l0 (k + 17 + j + 1) ((Gf.mulN a a : Nat) : Int) ((n / 2 : Nat) : Int) ((Gf.mulN r a : Nat) : Int)) else (shamrockref01_Pow.l0 (k + 17 + j + 1) ((Gf.mulN a a : Nat) : Int) ((n / 2 : Nat) : Int) (r : Int))) = _
    by_cases ho : n % 2 = 1
    · have e1 : ((n % 2 : Nat) : Int) = 1 := by clear hn hn2 hn3 t1 t2 t3; omega
      have e2 : 2 * (n / 2) + 1 = n := by clear hn hn2 hn3 t1 t2 t3; omega
      have e3 := ih (Gf.mulN a a) (n / 2) (Gf.mulN r a) hn2 (Nat.le_of_succ_le hj) haa hra
      have e4 := powN_odd a (n / 2) ha
      rw [e2] at e4
      rw [mul_assoc' r a _ hr ha (powN_lt _ _), e4] at e3
      rw [if_pos e1]
      exact e3
    · have e1 : ¬ ((n % 2 : Nat) : Int) = 1 := by clear hn hn2 hn3 t1 t2 t3; omega
      have e2 : 2 * (n / 2) = n := by clear hn hn2 hn3 t1 t2 t3; omega
      have e5 : n / 2 ≠ 0 := by clear hn hn2 hn3 t1 t2 t3; omega
      have e3 := ih (Gf.mulN a a) (n / 2) r hn2 (Nat.le_of_succ_le hj) haa hr
      have e4 := powN_even a (n / 2) ha e5
      rw [e2] at e4
      rw [e4] at e3
      rw [if_neg e1]
      exact e3
theorem powI_pos (a n : Nat) : powI a (n : Int) = powN a n := by
  unfold powI powN
  by_cases h : n = 0
  · rw [if_pos (by omega), if_pos h]
  rw [if_neg (by omega), if_neg h]
  split
  · rfl
  · rfl
theorem powI_neg (a m : Nat) (n : Int) (ha : a < 256) (h0 : a ≠ 0) (hn : n < 0) (hm : (m : Int) = -(n.tmod 255) + 255) : powN (invN a) m = powI a n := by
  have h1 := Gf.E_L a ha h0
  have hL : Gf.L (invN a) = (255 - Gf.L a) % 255 := by
    rw [show invN a = Gf.E ((255 - Gf.L a) % 255) from if_neg h0]
    exact (Gf.E_pos _ (Nat.mod_lt _ (by omega))).2.2
  rw [powN_E _ _ (inv_ne a ha h0), hL]
  unfold powI
  rw [if_neg (by omega), if_neg h0]
  generalize Gf.L a = l at *
  have hl := h1.2
  have key : ((m * ((255 - l) % 255) % 255 : Nat) : Int) = n * (l : Int) % 255 := by
    by_cases hl0 : l = 0
    · subst hl0; simp
    have h2 : (255 - l) % 255 = 255 - l := Nat.mod_eq_of_lt (by omega)
    rw [h2]
    have h3 : ((m * (255 - l) : Nat) : Int) = (m : Int) * 255 - (m : Int) * (l : Int) := by
      rw [Int.natCast_mul, Int.natCast_sub (by omega), Int.mul_sub]; rfl
    have h4 : (m : Int) * (l : Int) = 255 * ((1 + n.tdiv 255) * (l : Int)) - n * (l : Int) := by
      rw [hm, Int.tmod_def, ← Int.mul_assoc, ← Int.sub_mul]
      congr 1
      omega
    rw [h4] at h3
    generalize m * (255 - l) = X at h3 ⊢
    omega
  congr 1
  omega
theorem refPow_f (k a : Nat) (n : Int) (hk : 600 ≤ k) (ha : a < 256) (hn : -9223372036854775808 ≤ n ∧ n ≤ 9223372036854775807) : shamrockref01_Pow.f k a n = some ((powI a n : Nat) : Int) := by
  obtain ⟨j, rfl⟩ : ∃ j, k = j + 1 := ⟨k - 1, by omega⟩
  rw [shamrockref01_Pow.f]
  by_cases h : n = 0
  · rw [if_pos h, h]; rfl
  rw [if_neg h]
  by_cases hneg : n < 0
  · rw [if_pos hneg]
    by_cases h0 : a = 0
    · rw [if_pos (by omega)]
      simp [powI, h, h0]
    rw [if_neg (by omega)]
    have hr1 : -255 < n.tmod 255 ∧ n.tmod 255 < 255 := by
      have h1 := Int.tmod_lt_of_pos n (b := 255) (by omega)
      have h2 := Int.tmod_lt_of_pos (-n) (b := 255) (by omega)
      rw [Int.neg_tmod] at h2
      omega
    obtain ⟨m, hm⟩ : ∃ m : Nat, (m : Int) = -(n.tmod 255) + 255 := ⟨(-(n.tmod 255) + 255).toNat, by omega⟩
    rw [refInv_f j a (by omega) ha h0]
    show ((shamrockref01_Pow.f j (invN a : Nat) (wrap64 ((wrap64 (-(Int.tmod n 255))) + 255))).bind fun t103 => (some t103)) = _
    rw [IntWalk.wrap64_in (-(n.tmod 255)) ⟨by omega, by omega⟩, IntWalk.wrap64_in _ ⟨by omega, by omega⟩, ← hm]
    obtain ⟨i, rfl⟩ : ∃ i, j = i + 17 + 64 + 1 + 1 := ⟨j - 83, by omega⟩
    rw [shamrockref01_Pow.f, if_neg (by omega), if_neg (by omega)]
    have h2 := refPow_l0 i 64 (invN a) m 1 (by omega) (by omega) (invN_lt a) (by omega)
    have h3 : shamrockref01_Pow.l0 (i + 17 + 64 + 1) ((invN a : Nat) : Int) (m : Int) 1 = _ := h2
    rw [h3, powI_neg a m n ha h0 hneg hm, mul_comm' 1 _ (by omega) (powI_lt a n), mul_one' _ (powI_lt a n)]
    rfl
  · rw [if_neg hneg]
    obtain ⟨m, rfl⟩ : ∃ m : Nat, n = (m : Int) := ⟨n.toNat, by omega⟩
    obtain ⟨i, rfl⟩ : ∃ i, j = i + 17 + 64 + 1 := ⟨j - 82, by omega⟩
    have h2 := refPow_l0 i 64 a m 1 (by omega) (by omega) ha (by omega)
    have h3 : shamrockref01_Pow.l0 (i + 17 + 64 + 1) (a : Int) (m : Int) 1 = _ := h2
    rw [h3, powI_pos a m, mul_comm' 1 _ (by omega) (powN_lt a m), mul_one' _ (powN_lt a m)]
end Go.Proofs.Ytpeiejkcoadhfaa
