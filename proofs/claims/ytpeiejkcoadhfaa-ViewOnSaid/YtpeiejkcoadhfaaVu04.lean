/- What the view's laws take, Vu04: GfA. -/
set_option linter.all false
namespace Gf
def dbl (a : Nat) : Nat := if a < 128 then 2 * a else (2 * a) ^^^ 283
def step (a : Nat) : Nat := a ^^^ dbl a
def ET : Nat := 0xf652c7b46c241cfda297847cdd4b39170df2a794858a8f8c8d7b29ee5a36120ef351c6423ee3a891868b79de4acf45ca46cbb099772d1b0907f4a563211ffc54c543c8b16f25eaaf6523e858c1b69b80898e7adfbc9d827e2aefac64d5ba9f75dabf9c742ced5bc040c9473de25ec3413f15fa5632e75dc2b76dd24e3a16fba06020e9ae93712fecad92877d2b19fea361d6bb69271d0bf0503010f957c4b59a76db49ceb398817fdcbd6bd0b99e838878281808f1a662d74d3be0a967d44ccdb26ed3b868d14fcc443c140c04f55331e6ab9070d9be6a26eb5937e45c34e5aa66221e0a0602f7a49573d84838e15f3513f8a196722e1aff5533110f050301
def LT : Nat := 0x770f7c0808c630d18fe31c5deed4a67a5e3997726b87cb4892e2023d9921144abd3f2565d9e2a14476da2413c843953d15b3f37cdcf95bcfcdcbe619087b2979d2955aa6ca1523b86b160fb5a3ebbccb77b76a42d1f43d8ec49c4176ff60c7fa051a99cb05fcb59f50b16eb7a75d72ce8ade6e7d5e9ae4f74d6eaf450a858af57a773f3e5acd44eca5e9f9b150a792bba3d85fa54286b3a421eb6a3c3486e7e1091882298e225b3628b06bf30fddd6638834640f1d25c1394ced036bddb8f968eda93354582f01224e10f21058a2f657809c99a72a6e44d6a27b9f9b51dc27dc11c69f8c808714cef818d340ee0046403dfee33681bc74bc61a023201190000
def E (i : Nat) : Nat := (ET >>> (8 * i)) % 256
def L (a : Nat) : Nat := (LT >>> (8 * a)) % 256
def addBit (a b p i : Nat) : Nat := if b >>> i % 2 = 1 then p ^^^ (a <<< i) else p
def clm (a b : Nat) : Nat := addBit a b (addBit a b (addBit a b (addBit a b (addBit a b (addBit a b (addBit a b (addBit a b 0 0) 1) 2) 3) 4) 5) 6) 7
def redBit (p i : Nat) : Nat := if p >>> i % 2 = 1 then p ^^^ (283 <<< (i - 8)) else p
def red (p : Nat) : Nat := redBit (redBit (redBit (redBit (redBit (redBit (redBit p 14) 13) 12) 11) 10) 9) 8
def mulN (a b : Nat) : Nat := red (clm a b)
theorem xor4 (a b c d : Nat) : (a ^^^ b) ^^^ (c ^^^ d) = (a ^^^ c) ^^^ (b ^^^ d) := by
 rw [Nat.xor_assoc, Nat.xor_assoc, ← Nat.xor_assoc b c d, Nat.xor_comm b c, Nat.xor_assoc c b d]
theorem jw (a a' b p p' i : Nat) : addBit (a ^^^ a') b (p ^^^ p') i = addBit a b p i ^^^ addBit a' b p' i := by
 unfold addBit
 split
 ·rw [Nat.shiftLeft_xor_distrib, xor4]
 rfl
theorem zoc (a a' b : Nat) : clm (a ^^^ a') b = clm a b ^^^ clm a' b := by
 unfold clm
 rw [← jw, ← jw, ← jw, ← jw, ← jw, ← jw, ← jw, ← jw, Nat.xor_self]
theorem zix (p q i : Nat) : redBit (p ^^^ q) i = redBit p i ^^^ redBit q i := by
 unfold redBit
 rw [Nat.shiftRight_xor_distrib]
 have h := @Nat.xor_mod_two_eq_one (p >>> i) (q >>> i)
 by_cases h1 : p >>> i % 2 = 1 <;> by_cases h2 : q >>> i % 2 = 1
 ·rw [if_neg (by rw [h]; simp [h1, h2]), if_pos h1, if_pos h2, xor4, Nat.xor_self, Nat.xor_zero]
 ·rw [if_pos (by rw [h]; simp [h1, h2]), if_pos h1, if_neg h2, Nat.xor_assoc, Nat.xor_comm q, ← Nat.xor_assoc]
 ·rw [if_pos (by rw [h]; simp [h1, h2]), if_neg h1, if_pos h2, Nat.xor_assoc]
 rw [if_neg (by rw [h]; simp [h1, h2]), if_neg h1, if_neg h2]
theorem znt (p q : Nat) : red (p ^^^ q) = red p ^^^ red q := by
 unfold red
 simp only [zix]
theorem mulN_xor (a a' b : Nat) : mulN (a ^^^ a') b = mulN a b ^^^ mulN a' b := by
 unfold mulN; rw [zoc, znt]
set_option maxRecDepth 100000 in
theorem E_L : ∀ a < 256, a ≠ 0 → E (L a) = a ∧ L a < 255 := by decide +kernel
set_option maxRecDepth 100000 in
theorem E_pos : ∀ i < 255, 0 < E i ∧ E i < 256 ∧ L (E i) = i := by decide +kernel
set_option maxRecDepth 100000 in
theorem E_step : ∀ i < 254, E (i + 1) = step (E i) := by decide +kernel
set_option maxRecDepth 100000 in
theorem mul_E : ∀ i < 255, ∀ j < 255, mulN (E i) (E j) = E ((i + j) % 255) := by decide +kernel
set_option maxRecDepth 100000 in
theorem mul_0 : ∀ b < 256, mulN 0 b = 0 ∧ mulN b 0 = 0 := by decide +kernel
end Gf
