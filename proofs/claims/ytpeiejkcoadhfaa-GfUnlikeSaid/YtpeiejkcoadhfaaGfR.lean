/- The reference's product, inverse and power: what they compute. -/
import Derived.Test.YtpeiejkcoadhfaaPGfPowsx1
import Derived.Test.YtpeiejkcoadhfaaGf3
namespace Go.Proofs.Ytpeiejkcoadhfaa
open Go.RowKit Go.Proofs.YtpeiejkcoadhfaaW.PrintWords Go.Proofs.YtpeiejkcoadhfaaW.PrintMore PGfPows

theorem wraps_i64 (n : Int) (h₀ : 0 ≤ n) (h₁ : n < 2 ^ 62) : IntKind.i64.wrap n = n := IntWalk.i64_in _ ⟨by omega, by omega⟩
theorem i64_xor (a b : Nat) (ha : a < 2 ^ 32) (hb : b < 2 ^ 32) : bits .xor .i64 (a : Int) (b : Int) = ((a ^^^ b : Nat) : Int) := by
  have h1 : ∀ x : Nat, x < 2 ^ 32 → (BitVec.ofInt 64 (x : Int)).toNat = x := fun x hx => by
    rw [BitVec.ofInt_natCast, BitVec.toNat_ofNat]; exact Nat.mod_eq_of_lt (by omega)
  have hx : a ^^^ b < 2 ^ 32 := Nat.xor_lt_two_pow ha hb
  show IntKind.i64.wrap ((BitVec.ofInt 64 (a : Int) ^^^ BitVec.ofInt 64 (b : Int)).toNat : Int) = _
  rw [BitVec.toNat_xor, h1 a ha, h1 b hb]
  exact wraps_i64 _ (by omega) (by omega)
theorem i64_bit (a : Nat) (ha : a < 2 ^ 32) : bits .and .i64 (a : Int) 1 = ((a % 2 : Nat) : Int) := by
  have := bits_mask .i64 32 (by decide) (fun n h₀ h₁ => wraps_i64 n h₀ (by omega)) 1 (by decide) (a : Int) (by omega) (by omega)
  exact this
theorem i64_shr (a i : Nat) (hi : i < 64) : shr .i64 (a : Int) (i : Int) = ((a >>> i : Nat) : Int) := by
  unfold shr
  rw [Int.toNat_natCast, Nat.min_eq_left (by simp [IntKind.bits]; omega), Nat.shiftRight_eq_div_pow]
  simp
theorem i64_shl (a i : Nat) (ha : a < 2 ^ 16) (hi : i ≤ 16) : shl .i64 (a : Int) (i : Int) = ((a <<< i : Nat) : Int) := by
  unfold shl
  rw [Int.toNat_natCast, Nat.min_eq_left (by simp [IntKind.bits]; omega), Nat.shiftLeft_eq]
  have h1 : 2 ^ i ≤ 2 ^ 16 := Nat.pow_le_pow_right (by omega) hi
  have h2 : a * 2 ^ i < 2 ^ 32 := by
    calc a * 2 ^ i ≤ a * 2 ^ 16 := Nat.mul_le_mul_left _ h1
      _ < 2 ^ 16 * 2 ^ 16 := Nat.mul_lt_mul_of_pos_right ha (by omega)
      _ = 2 ^ 32 := by omega
  have h3 : (a : Int) * 2 ^ i = ((a * 2 ^ i : Nat) : Int) := by simp
  rw [h3]
  exact wraps_i64 _ (by omega) (by omega)
theorem u64_small (i : Nat) (hi : i < 64) : IntKind.u64.wrap (i : Int) = (i : Int) := by
  simp only [IntKind.wrap, IntKind.bits, IntKind.signed]; simp; omega
theorem shl_lt (a i : Nat) (ha : a < 2 ^ 9) (hi : i ≤ 7) : a <<< i < 2 ^ 16 := by
  rw [Nat.shiftLeft_eq]
  have h1 : 2 ^ i ≤ 2 ^ 7 := Nat.pow_le_pow_right (by omega) hi
  calc a * 2 ^ i ≤ a * 2 ^ 7 := Nat.mul_le_mul_left _ h1
      _ < 2 ^ 9 * 2 ^ 7 := Nat.mul_lt_mul_of_pos_right ha (by omega)
      _ = 2 ^ 16 := by omega
theorem addBit_lt (a b p i : Nat) (ha : a < 2 ^ 8) (hp : p < 2 ^ 15) (hi : i ≤ 7) : Gf.addBit a b p i < 2 ^ 15 := by
  unfold Gf.addBit
  split
  · refine Nat.xor_lt_two_pow hp ?_
    rw [Nat.shiftLeft_eq]
    have h1 : 2 ^ i ≤ 2 ^ 7 := Nat.pow_le_pow_right (by omega) hi
    calc a * 2 ^ i ≤ a * 2 ^ 7 := Nat.mul_le_mul_left _ h1
      _ < 2 ^ 8 * 2 ^ 7 := Nat.mul_lt_mul_of_pos_right ha (by omega)
      _ = 2 ^ 15 := by omega
  · exact hp
theorem redBit_lt (p i : Nat) (hp : p < 2 ^ 16) (hi : i ≤ 15) : Gf.redBit p i < 2 ^ 16 := by
  unfold Gf.redBit
  split
  · exact Nat.xor_lt_two_pow hp (shl_lt 283 (i - 8) (by omega) (by omega))
  · exact hp

theorem l0_step (k a b p i : Nat) (ha : a < 256) (hb : b < 256) (hp : p < 2 ^ 15) (hi : i < 8) :
    shamrockref01_Mul.l0 (k + 1) a b p i = shamrockref01_Mul.l0 k a b (Gf.addBit a b p i : Nat) (i + 1 : Nat) := by
  have h1 : b >>> i < 2 ^ 32 := Nat.lt_of_le_of_lt (Nat.shiftRight_le b i) (by omega)
  have h2 : a <<< i < 2 ^ 16 := shl_lt a i (by omega) (by omega)
  rw [shamrockref01_Mul.l0, if_pos (by omega : (i : Int) < 8), u64_small i (by omega), if_pos (by omega : (0 : Int) ≤ (i : Int)), IntWalk.wrap64_in (b : Int) ⟨by omega, by omega⟩, i64_shr b i (by omega), i64_bit _ h1,
    IntWalk.wrap64_in (a : Int) ⟨by omega, by omega⟩, i64_shl a i (by omega) (by omega), i64_xor p (a <<< i) (by omega) (by omega), IntWalk.wrap64_in ((i : Int) + 1) ⟨by omega, by omega⟩]
  unfold Gf.addBit
  by_cases h : b >>> i % 2 = 1
  · rw [if_pos h, if_pos (by omega)]; rfl
  · rw [if_neg h, if_neg (by omega)]; rfl
theorem l1_step (k p i : Nat) (hp : p < 2 ^ 16) (hi : 8 ≤ i) (hi2 : i ≤ 14) :
    shamrockref01_Mul.l1 (k + 1) p i = shamrockref01_Mul.l1 k (Gf.redBit p i : Nat) (i - 1 : Nat) := by
  have h1 : p >>> i < 2 ^ 32 := Nat.lt_of_le_of_lt (Nat.shiftRight_le p i) (by omega)
  have h2 : 283 <<< (i - 8) < 2 ^ 16 := shl_lt 283 (i - 8) (by omega) (by omega)
  have h8 : (i : Int) - 8 = ((i - 8 : Nat) : Int) := by omega
  have h9 : (i : Int) - 1 = ((i - 1 : Nat) : Int) := by omega
  have h10 : shl .i64 283 ((i - 8 : Nat) : Int) = ((283 <<< (i - 8) : Nat) : Int) := i64_shl 283 (i - 8) (by omega) (by omega)
  rw [shamrockref01_Mul.l1, if_pos (by omega : (i : Int) ≥ 8), u64_small i (by omega), if_pos (by omega : (0 : Int) ≤ (i : Int)), i64_shr p i (by omega), i64_bit _ h1, h8,
    IntWalk.wrap64_in ((i - 8 : Nat) : Int) ⟨by omega, by omega⟩, u64_small (i - 8) (by omega), if_pos (by omega : (0 : Int) ≤ ((i - 8 : Nat) : Int)), h10, i64_xor p _ (by omega) (by omega), h9, IntWalk.wrap64_in ((i - 1 : Nat) : Int) ⟨by omega, by omega⟩]
  unfold Gf.redBit
  by_cases h : p >>> i % 2 = 1
  · rw [if_pos h, if_pos (by omega)]
  · rw [if_neg h, if_neg (by omega)]
set_option maxRecDepth 100000 in
theorem mulN_lt (a b : Nat) (ha : a < 256) (hb : b < 256) : Gf.mulN a b < 256 := by
  by_cases ha0 : a = 0
  · rw [ha0, (Gf.mul_0 b hb).1]; omega
  by_cases hb0 : b = 0
  · rw [hb0, (Gf.mul_0 a ha).2]; omega
  rw [mul_EL a b ha hb ha0 hb0]
  exact E_lt _
theorem l0_end (k a b p : Nat) : shamrockref01_Mul.l0 (k + 1) a b p (8 : Nat) = shamrockref01_Mul.l1 k p (14 : Nat) := by
  rw [shamrockref01_Mul.l0, if_neg (by omega)]; rfl
theorem l1_end (k p : Nat) : shamrockref01_Mul.l1 (k + 1) p (7 : Nat) = some ((p % 256 : Nat) : Int) := by
  rw [shamrockref01_Mul.l1, if_neg (by omega)]; rfl
theorem refMul_f (k a b : Nat) (hk : 17 ≤ k) (ha : a < 256) (hb : b < 256) : shamrockref01_Mul.f k a b = some ((Gf.mulN a b : Nat) : Int) := by
  obtain ⟨j, rfl⟩ : ∃ j, k = j + 1 + 7 + 1 + 8 := ⟨k - 17, by omega⟩
  have hl := mulN_lt a b ha hb
  show shamrockref01_Mul.l0 (j + 1 + 7 + 1 + 8) a b (0 : Nat) (0 : Nat) = _
  unfold Gf.mulN Gf.clm Gf.red at *
  have q0 := addBit_lt a b 0 0 (by omega) (by omega) (by omega)
  have q1 := addBit_lt a b _ 1 (by omega) q0 (by omega)
  have q2 := addBit_lt a b _ 2 (by omega) q1 (by omega)
  have q3 := addBit_lt a b _ 3 (by omega) q2 (by omega)
  have q4 := addBit_lt a b _ 4 (by omega) q3 (by omega)
  have q5 := addBit_lt a b _ 5 (by omega) q4 (by omega)
  have q6 := addBit_lt a b _ 6 (by omega) q5 (by omega)
  have q7 := addBit_lt a b _ 7 (by omega) q6 (by omega)
  rw [l0_step _ a b _ 0 ha hb (by omega) (by omega), l0_step _ a b _ 1 ha hb q0 (by omega), l0_step _ a b _ 2 ha hb q1 (by omega), l0_step _ a b _ 3 ha hb q2 (by omega),
    l0_step _ a b _ 4 ha hb q3 (by omega), l0_step _ a b _ 5 ha hb q4 (by omega), l0_step _ a b _ 6 ha hb q5 (by omega), l0_step _ a b _ 7 ha hb q6 (by omega), l0_end]
  generalize Gf.addBit a b (Gf.addBit a b (Gf.addBit a b (Gf.addBit a b (Gf.addBit a b (Gf.addBit a b (Gf.addBit a b (Gf.addBit a b 0 0) 1) 2) 3) 4) 5) 6) 7 = p at *
  have r0 := redBit_lt p 14 (by omega) (by omega)
  have r1 := redBit_lt _ 13 r0 (by omega)
  have r2 := redBit_lt _ 12 r1 (by omega)
  have r3 := redBit_lt _ 11 r2 (by omega)
  have r4 := redBit_lt _ 10 r3 (by omega)
  have r5 := redBit_lt _ 9 r4 (by omega)
  have r6 := redBit_lt _ 8 r5 (by omega)
  rw [l1_step _ _ 14 (by omega) (by omega) (by omega), l1_step _ _ 13 r0 (by omega) (by omega), l1_step _ _ 12 r1 (by omega) (by omega), l1_step _ _ 11 r2 (by omega) (by omega), l1_step _ _ 10 r3 (by omega) (by omega),
    l1_step _ _ 9 r4 (by omega) (by omega), l1_step _ _ 8 r5 (by omega) (by omega), l1_end, Nat.mod_eq_of_lt hl]

theorem mul_one_inv : ∀ a < 256, a ≠ 0 → Gf.mulN a (invN a) = 1 := by
  intro a ha h0
  have h1 := Gf.E_L a ha h0
  have hi : invN a = Gf.E ((255 - Gf.L a) % 255) := if_neg h0
  have h2 := Gf.mul_E (Gf.L a) h1.2 ((255 - Gf.L a) % 255) (Nat.mod_lt _ (by omega))
  rw [h1.1, ← hi] at h2
  rw [h2]
  have h3 : (Gf.L a + (255 - Gf.L a) % 255) % 255 = 0 := by omega
  rw [h3]
  decide +kernel
theorem E_inj : ∀ i < 255, ∀ j < 255, Gf.E i = Gf.E j → i = j := by
  intro i hi j hj h
  have h1 := (Gf.E_pos i hi).2.2
  have h2 := (Gf.E_pos j hj).2.2
  rw [h] at h1; omega
theorem mul_cancel (a b c : Nat) (ha : a < 256) (hb : b < 256) (hc : c < 256) (h0 : c ≠ 0) (h : Gf.mulN a c = Gf.mulN b c) : a = b := by
  by_cases ha0 : a = 0
  · by_cases hb0 : b = 0
    · omega
    rw [ha0, (Gf.mul_0 c hc).1, mul_EL b c hb hc hb0 h0] at h
    have := (Gf.E_pos ((Gf.L b + Gf.L c) % 255) (Nat.mod_lt _ (by omega))).1
    omega
  by_cases hb0 : b = 0
  · rw [hb0, (Gf.mul_0 c hc).1, mul_EL a c ha hc ha0 h0] at h
    have := (Gf.E_pos ((Gf.L a + Gf.L c) % 255) (Nat.mod_lt _ (by omega))).1
    omega
  rw [mul_EL a c ha hc ha0 h0, mul_EL b c hb hc hb0 h0] at h
  have h1 := E_inj _ (Nat.mod_lt _ (by omega)) _ (Nat.mod_lt _ (by omega)) h
  have h2 := Gf.E_L a ha ha0
  have h3 := Gf.E_L b hb hb0
  have h4 := L_lt c hc
  have h5 : Gf.L a = Gf.L b := by omega
  rw [← h2.1, ← h3.1, h5]
theorem mul_comm' (a b : Nat) (ha : a < 256) (hb : b < 256) : Gf.mulN a b = Gf.mulN b a := by
  by_cases ha0 : a = 0
  · rw [ha0, (Gf.mul_0 b hb).1, (Gf.mul_0 b hb).2]
  by_cases hb0 : b = 0
  · rw [hb0, (Gf.mul_0 a ha).1, (Gf.mul_0 a ha).2]
  rw [mul_EL a b ha hb ha0 hb0, mul_EL b a hb ha hb0 ha0, Nat.add_comm]
theorem mul_ne (a b : Nat) (ha : a < 256) (hb : b < 256) (ha0 : a ≠ 0) (hb0 : b ≠ 0) : Gf.mulN a b ≠ 0 := by
  rw [mul_EL a b ha hb ha0 hb0]
  have := (Gf.E_pos ((Gf.L a + Gf.L b) % 255) (Nat.mod_lt _ (by omega))).1
  omega
theorem L_mul (a b : Nat) (ha : a < 256) (hb : b < 256) (ha0 : a ≠ 0) (hb0 : b ≠ 0) : Gf.L (Gf.mulN a b) = (Gf.L a + Gf.L b) % 255 := by
  rw [mul_EL a b ha hb ha0 hb0]
  exact (Gf.E_pos _ (Nat.mod_lt _ (by omega))).2.2
theorem mul_assoc' (a b c : Nat) (ha : a < 256) (hb : b < 256) (hc : c < 256) : Gf.mulN (Gf.mulN a b) c = Gf.mulN a (Gf.mulN b c) := by
  by_cases ha0 : a = 0
  · rw [ha0, (Gf.mul_0 b hb).1, (Gf.mul_0 c hc).1, (Gf.mul_0 _ (mulN_lt b c hb hc)).1]
  by_cases hb0 : b = 0
  · rw [hb0, (Gf.mul_0 a ha).2, (Gf.mul_0 c hc).1, (Gf.mul_0 a ha).2]
  by_cases hc0 : c = 0
  · rw [hc0, (Gf.mul_0 b hb).2, (Gf.mul_0 a ha).2, (Gf.mul_0 _ (mulN_lt a b ha hb)).2]
  rw [mul_EL _ c (mulN_lt a b ha hb) hc (mul_ne a b ha hb ha0 hb0) hc0, mul_EL a _ ha (mulN_lt b c hb hc) ha0 (mul_ne b c hb hc hb0 hc0), L_mul a b ha hb ha0 hb0, L_mul b c hb hc hb0 hc0]
  congr 1
  omega
theorem mul_xor_r (a b c : Nat) (ha : a < 256) (hb : b < 256) (hc : c < 256) : Gf.mulN a (b ^^^ c) = Gf.mulN a b ^^^ Gf.mulN a c := by
  have hx : b ^^^ c < 256 := Nat.xor_lt_two_pow (n := 8) hb hc
  rw [mul_comm' a _ ha hx, Gf.mulN_xor, mul_comm' b a hb ha, mul_comm' c a hc ha]
theorem mul_one' (a : Nat) (ha : a < 256) : Gf.mulN a 1 = a := by
  by_cases ha0 : a = 0
  · rw [ha0]; exact (Gf.mul_0 1 (by omega)).1
  have h0 : Gf.L 1 = 0 := by decide +kernel
  have h1 := Gf.E_L a ha ha0
  rw [mul_EL a 1 ha (by omega) ha0 (by omega), h0, Nat.add_zero, Nat.mod_eq_of_lt h1.2, h1.1]
theorem inv_ne (a : Nat) (ha : a < 256) (h0 : a ≠ 0) : invN a ≠ 0 := by
  intro h
  have := mul_one_inv a ha h0
  rw [h, (Gf.mul_0 a ha).2] at this
  omega
theorem inv_unique (a b : Nat) (ha : a < 256) (hb : b < 256) (h : Gf.mulN a b = 1) : b = invN a := by
  have h0 : a ≠ 0 := by
    intro h0
    rw [h0, (Gf.mul_0 b hb).1] at h
    omega
  refine mul_cancel b (invN a) a hb (invN_lt a) ha h0 ?_
  rw [mul_comm' b a hb ha, mul_comm' _ a (invN_lt a) ha, h, mul_one_inv a ha h0]

/-- The search for an inverse. -/
theorem refInv_l0 (k a : Nat) (ha : a < 256) (h0 : a ≠ 0) : ∀ (j b : Nat), b + j = invN a → shamrockref01_Inv.l0 (k + 17 + j + 1) a b = some ((invN a : Nat) : Int) := by
  have hv := invN_lt a
  intro j
  induction j with
  | zero =>
    intro b hb
    have hbv : b = invN a := by omega
    subst hbv
    rw [shamrockref01_Inv.l0, if_pos (by omega), show ((invN a : Nat) : Int) % 256 = ((invN a : Nat) : Int) by omega, refMul_f _ a (invN a) (by omega) ha hv, mul_one_inv a ha h0]
    rfl
  | succ j ih =>
    intro b hb
    have hne : Gf.mulN a b ≠ 1 := fun h => by have := inv_unique a b ha (by omega) h; omega
    rw [shamrockref01_Inv.l0, if_pos (by omega), show ((b : Nat) : Int) % 256 = ((b : Nat) : Int) by omega, refMul_f _ a b (by omega) ha (by omega)]
    show (if ((Gf.mulN a b : Nat) : Int) = 1 then _ else _) = _
    rw [if_neg (by omega), IntWalk.wrap64_in ((b : Int) + 1) ⟨by omega, by omega⟩]
    exact ih (b + 1) (by omega)
theorem LeO_le {α : Type} {f : Nat → Option α} (h : ∀ k, LeO (f k) (f (k + 1))) {k j : Nat} (hkj : k ≤ j) {r : α} (hr : f k = some r) : f j = some r := by
  obtain ⟨d, rfl⟩ := Nat.exists_eq_add_of_le hkj
  clear hkj
  induction d with
  | zero => exact hr
  | succ d ih => exact h _ _ ih
theorem refInv_f (k a : Nat) (hk : 400 ≤ k) (ha : a < 256) (h0 : a ≠ 0) : shamrockref01_Inv.f k a = some ((invN a : Nat) : Int) := by
  have hv := invN_lt a
  have hn := inv_ne a ha h0
  have h1 := refInv_l0 0 a ha h0 (invN a - 1) 1 (by omega)
  exact LeO_le (f := fun k => shamrockref01_Inv.f k a) (fun k => shamrockref01_Inv.mono a k) (k := 0 + 17 + (invN a - 1) + 1) (by omega) h1
end Go.Proofs.Ytpeiejkcoadhfaa
