/- What the view's laws take, Vu13: Gf3, GfR, PzF, PzP, GfP, Gf4, PzW. -/
import Derived.Test.YtpeiejkcoadhfaaVu09
import Derived.Test.YtpeiejkcoadhfaaVu10
import Derived.Test.YtpeiejkcoadhfaaVu11
import Derived.Test.YtpeiejkcoadhfaaVu12
set_option linter.all false
namespace Go.Proofs.Ytpeiejkcoadhfaa
open Go.RowKit Go.Shelf Go.Proofs.YtpeiejkcoadhfaaW.PrintWords
theorem znk (a : Nat) (ha : a < 256) : Gf.L a < 255 := by
 by_cases h : a = 0
 ·subst h; decide +kernel
 exact (Gf.E_L a ha h).2
theorem Zs (a b : Nat) (ha : a < 256) (hb : b < 256) (ha0 : a ≠ 0) (hb0 : b ≠ 0) : Gf.mulN a b = Gf.E ((Gf.L a + Gf.L b) % 255) := by
 have h1 := Gf.E_L a ha ha0
 have h2 := Gf.E_L b hb hb0
 have h3 := Gf.mul_E (Gf.L a) h1.2 (Gf.L b) h2.2
 rwa [h1.1, h2.1] at h3
theorem Fld.exp {w : World} {g : Nat} (h : Fld w g) (i : Nat) (hi : i < 510) : w.cell? ⟨g, i, none⟩ = some (.int .u8 (Gf.E (i % 255) : Nat)) := by
 obtain ⟨cs, hc, hcz, he, hl⟩ := h
 obtain ⟨v, hv, hv2⟩ := he i hi
 rw [hv2 (Nat.mod_lt _ (by omega))] at hv
 exact zh hc hv
theorem Fld.log {w : World} {g : Nat} (h : Fld w g) (a : Nat) (ha : a < 256) (h0 : a ≠ 0) : w.cell? ⟨g, 510 + a, none⟩ = some (.int .i64 (Gf.L a : Nat)) := by
 obtain ⟨cs, hc, hcz, he, hl⟩ := h
 obtain ⟨v, hv, hv2⟩ := hl a ha
 have h1 := Gf.E_L a ha h0
 rw [hv2 (Gf.L a) h1.2 h1.2 h1.1.symm] at hv
 exact zh hc hv
theorem Fld.fr {w W : World} {g : Nat} {S : Nat → Prop} (h : Fld w g) (hf : Fr S w W) (hg : ¬ S g) : Fld W g := by
 obtain ⟨cs, hc, h⟩ := h
 exact ⟨cs, hf.blk hc hg, h⟩
theorem Fld.drew {w : World} {g n : Nat} (h : Fld w g) : Fld (w.drewN n) g := h.fr ((Fr.refl (fun _ => False) w).drewN n) (fun h => h)
set_option maxRecDepth 100000 in
theorem zjK (w : World) (g a b : Nat) (hF : Fld w g) (ha : a < 256) (hb : b < 256) : Calls Try.prog 31 #[.pointer (some ⟨g, 0, none⟩), .int .u8 a, .int .u8 b] w fun e w' => e = .returned (.int .u8 (Gf.mulN a b : Nat)) ∧ zq w w' := by
 by_cases ha0 : a = 0
 ·have hx := (Gf.mul_0 b hb).1
  rw [ha0, hx]
  clear hx hF
  go_enter Try.func31, Try.ntmps31
  go_wp2
  go_ret
  exact ⟨rfl, zq.refl _⟩
 by_cases hb0 : b = 0
 ·have hx := (Gf.mul_0 a ha).2
  rw [hb0, hx]
  have ha0' : ((a : Int) == 0) = false := by simpa using ha0
  clear hx hF
  go_enter Try.func31, Try.ntmps31
  go_wp2
  go_ret
  exact ⟨rfl, zq.refl _⟩
 have h1 := znk a ha
 have h2 := znk b hb
 rw [Zs a b ha hb ha0 hb0]
 have c1 := hF.log a ha ha0
 have c2 := hF.log b hb hb0
 have c3 := hF.exp (Gf.L a + Gf.L b) (by omega)
 generalize Gf.E ((Gf.L a + Gf.L b) % 255) = v at *
 generalize Gf.L a = i at *
 generalize Gf.L b = j at *
 have ha0' : ((a : Int) == 0) = false := by simpa using ha0
 have hb0' : ((b : Int) == 0) = false := by simpa using hb0
 have hw : IntKind.i64.wrap ((i : Int) + (j : Int)) = (i : Int) + (j : Int) := IntWalk.i64_in _ ⟨by omega, by omega⟩
 have i1 : (0 : Int) ≤ (a : Int) := by omega
 have i2 : (a : Int) < 256 := by omega
 have i3 : (0 : Int) ≤ (b : Int) := by omega
 have i4 : (b : Int) < 256 := by omega
 have i5 : (0 : Int) ≤ (i : Int) + (j : Int) := by omega
 have i6 : (i : Int) + (j : Int) < 510 := by omega
 have i7 : ((i : Int) + (j : Int)).toNat = i + j := by omega
 clear hF ha0 hb0
 go_enter Try.func31, Try.ntmps31
 go_wp2
 go_big_quiet (fail)
 go_wp2
 go_ret
 exact ⟨rfl, ⟨⟨_, rfl⟩⟩⟩
def ZN (a : Nat) : Nat := if a = 0 then 0 else Gf.E ((255 - Gf.L a) % 255)
theorem E_lt (i : Nat) : Gf.E i < 256 := Nat.mod_lt _ (by omega)
theorem zaW (a : Nat) : ZN a < 256 := by
 unfold ZN
 split
 ·omega
 exact E_lt _
set_option maxRecDepth 100000 in
theorem zje (w : World) (g a : Nat) (hF : Fld w g) (ha : a < 256) : Calls Try.prog 32 #[.pointer (some ⟨g, 0, none⟩), .int .u8 a] w fun e w' => e = .returned (.tuple #[.int .u8 (ZN a : Nat), .bool (decide (a ≠ 0))]) ∧ zq w w' := by
 by_cases ha0 : a = 0
 ·subst ha0
  clear hF
  go_enter Try.func32, Try.ntmps32
  go_wp2
  go_ret2
  exact ⟨rfl, zq.refl _⟩
 have h1 := znk a ha
 have hv : ZN a = Gf.E ((255 - Gf.L a) % 255) := if_neg ha0
 have hd : decide (a ≠ 0) = true := decide_eq_true ha0
 rw [hv, hd]
 have c1 := hF.log a ha ha0
 have c3 := hF.exp (255 - Gf.L a) (by omega)
 generalize Gf.E ((255 - Gf.L a) % 255) = v at *
 generalize Gf.L a = i at *
 have ha0' : ((a : Int) == 0) = false := by simpa using ha0
 have hw : IntKind.i64.wrap (255 - (i : Int)) = 255 - (i : Int) := IntWalk.i64_in _ ⟨by omega, by omega⟩
 have i1 : (0 : Int) ≤ (a : Int) := by omega
 have i2 : (a : Int) < 256 := by omega
 have i5 : (0 : Int) ≤ 255 - (i : Int) := by omega
 have i6 : 255 - (i : Int) < 510 := by omega
 have i7 : (255 - (i : Int)).toNat = 255 - i := by omega
 clear hF ha0 hv hd
 go_enter Try.func32, Try.ntmps32
 go_wp2
 go_big_quiet (fail)
 go_wp2
 go_ret2
 exact ⟨rfl, ⟨⟨_, rfl⟩⟩⟩
set_option maxRecDepth 100000 in
theorem zoi (w : World) (g a b : Nat) (hF : Fld w g) (ha : a < 256) (hb : b < 256) : Calls Try.prog 33 #[.pointer (some ⟨g, 0, none⟩), .int .u8 a, .int .u8 b] w fun e w' =>
 e = .returned (.tuple #[.int .u8 (Gf.mulN a (ZN b) : Nat), .bool (decide (b ≠ 0))]) ∧ zq w w' := by
 have hI := zje w g b hF hb
 have hv := zaW b
 have hM : ∀ n, Calls Try.prog 31 #[.pointer (some ⟨g, 0, none⟩), .int .u8 a, .int .u8 (ZN b : Nat)] (w.drewN n) fun e w' => e = .returned (.int .u8 (Gf.mulN a (ZN b) : Nat)) ∧ zq (w.drewN n) w' := fun n => zjK _ g a (ZN b) hF.drew ha hv
 generalize Gf.mulN a (ZN b) = q at *
 generalize ZN b = v at *
 generalize decide (b ≠ 0) = ok at *
 have HI := za.mk hI
 have HM := za.mk hM
 clear hI hM hF
 go_enter Try.func33, Try.ntmps33
 go_wp2_with (first | (go_at_call 32; refine HI.out.mono ?_; rintro e w' ⟨rfl, ⟨⟨n, rfl⟩⟩⟩) | (go_at_call 31; refine (HM.out _).mono ?_; rintro e w' ⟨rfl, ⟨⟨n', rfl⟩⟩⟩))
 go_ret2
 exact ⟨rfl, ⟨⟨_, rfl⟩⟩⟩
end Go.Proofs.Ytpeiejkcoadhfaa
namespace Go.Proofs.Ytpeiejkcoadhfaa
open Go.RowKit Go.Proofs.YtpeiejkcoadhfaaW.PrintWords Go.Proofs.YtpeiejkcoadhfaaW.PrintMore PGfPows
theorem zcg (n : Int) (h₀ : 0 ≤ n) (h₁ : n < 2 ^ 62) : IntKind.i64.wrap n = n := IntWalk.i64_in _ ⟨by omega, by omega⟩
theorem zjO (a b : Nat) (ha : a < 2 ^ 32) (hb : b < 2 ^ 32) : bits .xor .i64 (a : Int) (b : Int) = ((a ^^^ b : Nat) : Int) := by
 have h1 : ∀ x : Nat, x < 2 ^ 32 → (BitVec.ofInt 64 (x : Int)).toNat = x := fun x hx => by
  rw [BitVec.ofInt_natCast, BitVec.toNat_ofNat]; exact Nat.mod_eq_of_lt (by omega)
 have hx : a ^^^ b < 2 ^ 32 := Nat.xor_lt_two_pow ha hb
 show IntKind.i64.wrap ((BitVec.ofInt 64 (a : Int) ^^^ BitVec.ofInt 64 (b : Int)).toNat : Int) = _
 rw [BitVec.toNat_xor, h1 a ha, h1 b hb]
 exact zcg _ (by omega) (by omega)
theorem zjj (a : Nat) (ha : a < 2 ^ 32) : bits .and .i64 (a : Int) 1 = ((a % 2 : Nat) : Int) := by
 have := bits_mask .i64 32 (by decide) (fun n h₀ h₁ => zcg n h₀ (by omega)) 1 (by decide) (a : Int) (by omega) (by omega)
 exact this
theorem zjy (a i : Nat) (hi : i < 64) : shr .i64 (a : Int) (i : Int) = ((a >>> i : Nat) : Int) := by
 unfold shr
 rw [Int.toNat_natCast, Nat.min_eq_left (by simp [IntKind.bits]; omega), Nat.shiftRight_eq_div_pow]
 simp
theorem zjI (a i : Nat) (ha : a < 2 ^ 16) (hi : i ≤ 16) : shl .i64 (a : Int) (i : Int) = ((a <<< i : Nat) : Int) := by
 unfold shl
 rw [Int.toNat_natCast, Nat.min_eq_left (by simp [IntKind.bits]; omega), Nat.shiftLeft_eq]
 have h1 : 2 ^ i ≤ 2 ^ 16 := Nat.pow_le_pow_right (by omega) hi
 have h2 : a * 2 ^ i < 2 ^ 32 := by
  calc a * 2 ^ i ≤ a * 2 ^ 16 := Nat.mul_le_mul_left _ h1
   _ < 2 ^ 16 * 2 ^ 16 := Nat.mul_lt_mul_of_pos_right ha (by omega)
   _ = 2 ^ 32 := by omega
 have h3 : (a : Int) * 2 ^ i = ((a * 2 ^ i : Nat) : Int) := by simp
 rw [h3]
 exact zcg _ (by omega) (by omega)
theorem zcx (i : Nat) (hi : i < 64) : IntKind.u64.wrap (i : Int) = (i : Int) := by
 simp only [IntKind.wrap, IntKind.bits, IntKind.signed]; simp; omega
theorem ziN (a i : Nat) (ha : a < 2 ^ 9) (hi : i ≤ 7) : a <<< i < 2 ^ 16 := by
 rw [Nat.shiftLeft_eq]
 have h1 : 2 ^ i ≤ 2 ^ 7 := Nat.pow_le_pow_right (by omega) hi
 calc a * 2 ^ i ≤ a * 2 ^ 7 := Nat.mul_le_mul_left _ h1
  _ < 2 ^ 9 * 2 ^ 7 := Nat.mul_lt_mul_of_pos_right ha (by omega)
  _ = 2 ^ 16 := by omega
theorem jX (a b p i : Nat) (ha : a < 2 ^ 8) (hp : p < 2 ^ 15) (hi : i ≤ 7) : Gf.addBit a b p i < 2 ^ 15 := by
 unfold Gf.addBit
 split
 ·refine Nat.xor_lt_two_pow hp ?_
  rw [Nat.shiftLeft_eq]
  have h1 : 2 ^ i ≤ 2 ^ 7 := Nat.pow_le_pow_right (by omega) hi
  calc a * 2 ^ i ≤ a * 2 ^ 7 := Nat.mul_le_mul_left _ h1
   _ < 2 ^ 8 * 2 ^ 7 := Nat.mul_lt_mul_of_pos_right ha (by omega)
   _ = 2 ^ 15 := by omega
 exact hp
theorem Zp (p i : Nat) (hp : p < 2 ^ 16) (hi : i ≤ 15) : Gf.redBit p i < 2 ^ 16 := by
 unfold Gf.redBit
 split
 ·exact Nat.xor_lt_two_pow hp (ziN 283 (i - 8) (by omega) (by omega))
 exact hp
theorem Jr (k a b p i : Nat) (ha : a < 256) (hb : b < 256) (hp : p < 2 ^ 15) (hi : i < 8) :
 shamrockref01_Mul.l0 (k + 1) a b p i = shamrockref01_Mul.l0 k a b (Gf.addBit a b p i : Nat) (i + 1 : Nat) := by
 have h1 : b >>> i < 2 ^ 32 := Nat.lt_of_le_of_lt (Nat.shiftRight_le b i) (by omega)
 have h2 : a <<< i < 2 ^ 16 := ziN a i (by omega) (by omega)
 rw [shamrockref01_Mul.l0, if_pos (by omega : (i : Int) < 8), zcx i (by omega), if_pos (by omega : (0 : Int) ≤ (i : Int)), IntWalk.wrap64_in (b : Int) ⟨by omega, by omega⟩, zjy b i (by omega), zjj _ h1,
  IntWalk.wrap64_in (a : Int) ⟨by omega, by omega⟩, zjI a i (by omega) (by omega), zjO p (a <<< i) (by omega) (by omega), IntWalk.wrap64_in ((i : Int) + 1) ⟨by omega, by omega⟩]
 unfold Gf.addBit
 by_cases h : b >>> i % 2 = 1
 ·rw [if_pos h, if_pos (by omega)]; rfl
 rw [if_neg h, if_neg (by omega)]; rfl
theorem JW (k p i : Nat) (hp : p < 2 ^ 16) (hi : 8 ≤ i) (hi2 : i ≤ 14) :
 shamrockref01_Mul.l1 (k + 1) p i = shamrockref01_Mul.l1 k (Gf.redBit p i : Nat) (i - 1 : Nat) := by
 have h1 : p >>> i < 2 ^ 32 := Nat.lt_of_le_of_lt (Nat.shiftRight_le p i) (by omega)
 have h2 : 283 <<< (i - 8) < 2 ^ 16 := ziN 283 (i - 8) (by omega) (by omega)
 have h8 : (i : Int) - 8 = ((i - 8 : Nat) : Int) := by omega
 have h9 : (i : Int) - 1 = ((i - 1 : Nat) : Int) := by omega
 have h10 : shl .i64 283 ((i - 8 : Nat) : Int) = ((283 <<< (i - 8) : Nat) : Int) := zjI 283 (i - 8) (by omega) (by omega)
 rw [shamrockref01_Mul.l1, if_pos (by omega : (i : Int) ≥ 8), zcx i (by omega), if_pos (by omega : (0 : Int) ≤ (i : Int)), zjy p i (by omega), zjj _ h1, h8,
  IntWalk.wrap64_in ((i - 8 : Nat) : Int) ⟨by omega, by omega⟩, zcx (i - 8) (by omega), if_pos (by omega : (0 : Int) ≤ ((i - 8 : Nat) : Int)), h10, zjO p _ (by omega) (by omega), h9, IntWalk.wrap64_in ((i - 1 : Nat) : Int) ⟨by omega, by omega⟩]
 unfold Gf.redBit
 by_cases h : p >>> i % 2 = 1
 ·rw [if_pos h, if_pos (by omega)]
 rw [if_neg h, if_neg (by omega)]
set_option maxRecDepth 100000 in
theorem zaS (a b : Nat) (ha : a < 256) (hb : b < 256) : Gf.mulN a b < 256 := by
 by_cases ha0 : a = 0
 ·rw [ha0, (Gf.mul_0 b hb).1]; omega
 by_cases hb0 : b = 0
 ·rw [hb0, (Gf.mul_0 a ha).2]; omega
 rw [Zs a b ha hb ha0 hb0]
 exact E_lt _
theorem zpj (k a b p : Nat) : shamrockref01_Mul.l0 (k + 1) a b p (8 : Nat) = shamrockref01_Mul.l1 k p (14 : Nat) := by
 rw [shamrockref01_Mul.l0, if_neg (by omega)]; rfl
theorem zps (k p : Nat) : shamrockref01_Mul.l1 (k + 1) p (7 : Nat) = some ((p % 256 : Nat) : Int) := by
 rw [shamrockref01_Mul.l1, if_neg (by omega)]; rfl
theorem zeu (k a b : Nat) (hk : 17 ≤ k) (ha : a < 256) (hb : b < 256) : shamrockref01_Mul.f k a b = some ((Gf.mulN a b : Nat) : Int) := by
 obtain ⟨j, rfl⟩ : ∃ j, k = j + 1 + 7 + 1 + 8 := ⟨k - 17, by omega⟩
 have hl := zaS a b ha hb
 show shamrockref01_Mul.l0 (j + 1 + 7 + 1 + 8) a b (0 : Nat) (0 : Nat) = _
 unfold Gf.mulN Gf.clm Gf.red at *
 have q0 := jX a b 0 0 (by omega) (by omega) (by omega)
 have q1 := jX a b _ 1 (by omega) q0 (by omega)
 have q2 := jX a b _ 2 (by omega) q1 (by omega)
 have q3 := jX a b _ 3 (by omega) q2 (by omega)
 have q4 := jX a b _ 4 (by omega) q3 (by omega)
 have q5 := jX a b _ 5 (by omega) q4 (by omega)
 have q6 := jX a b _ 6 (by omega) q5 (by omega)
 have q7 := jX a b _ 7 (by omega) q6 (by omega)
 rw [Jr _ a b _ 0 ha hb (by omega) (by omega), Jr _ a b _ 1 ha hb q0 (by omega), Jr _ a b _ 2 ha hb q1 (by omega), Jr _ a b _ 3 ha hb q2 (by omega),
  Jr _ a b _ 4 ha hb q3 (by omega), Jr _ a b _ 5 ha hb q4 (by omega), Jr _ a b _ 6 ha hb q5 (by omega), Jr _ a b _ 7 ha hb q6 (by omega), zpj]
 generalize Gf.addBit a b (Gf.addBit a b (Gf.addBit a b (Gf.addBit a b (Gf.addBit a b (Gf.addBit a b (Gf.addBit a b (Gf.addBit a b 0 0) 1) 2) 3) 4) 5) 6) 7 = p at *
 have r0 := Zp p 14 (by omega) (by omega)
 have r1 := Zp _ 13 r0 (by omega)
 have r2 := Zp _ 12 r1 (by omega)
 have r3 := Zp _ 11 r2 (by omega)
 have r4 := Zp _ 10 r3 (by omega)
 have r5 := Zp _ 9 r4 (by omega)
 have r6 := Zp _ 8 r5 (by omega)
 rw [JW _ _ 14 (by omega) (by omega) (by omega), JW _ _ 13 r0 (by omega) (by omega), JW _ _ 12 r1 (by omega) (by omega), JW _ _ 11 r2 (by omega) (by omega), JW _ _ 10 r3 (by omega) (by omega),
  JW _ _ 9 r4 (by omega) (by omega), JW _ _ 8 r5 (by omega) (by omega), zps, Nat.mod_eq_of_lt hl]
theorem Jp : ∀ a < 256, a ≠ 0 → Gf.mulN a (ZN a) = 1 := by
 intro a ha h0
 have h1 := Gf.E_L a ha h0
 have hi : ZN a = Gf.E ((255 - Gf.L a) % 255) := if_neg h0
 have h2 := Gf.mul_E (Gf.L a) h1.2 ((255 - Gf.L a) % 255) (Nat.mod_lt _ (by omega))
 rw [h1.1, ← hi] at h2
 rw [h2]
 have h3 : (Gf.L a + (255 - Gf.L a) % 255) % 255 = 0 := by omega
 rw [h3]
 decide +kernel
theorem zpH : ∀ i < 255, ∀ j < 255, Gf.E i = Gf.E j → i = j := by
 intro i hi j hj h
 have h1 := (Gf.E_pos i hi).2.2
 have h2 := (Gf.E_pos j hj).2.2
 rw [h] at h1; omega
theorem ziD (a b c : Nat) (ha : a < 256) (hb : b < 256) (hc : c < 256) (h0 : c ≠ 0) (h : Gf.mulN a c = Gf.mulN b c) : a = b := by
 by_cases ha0 : a = 0
 ·by_cases hb0 : b = 0
  ·omega
  rw [ha0, (Gf.mul_0 c hc).1, Zs b c hb hc hb0 h0] at h
  have := (Gf.E_pos ((Gf.L b + Gf.L c) % 255) (Nat.mod_lt _ (by omega))).1
  omega
 by_cases hb0 : b = 0
 ·rw [hb0, (Gf.mul_0 c hc).1, Zs a c ha hc ha0 h0] at h
  have := (Gf.E_pos ((Gf.L a + Gf.L c) % 255) (Nat.mod_lt _ (by omega))).1
  omega
 rw [Zs a c ha hc ha0 h0, Zs b c hb hc hb0 h0] at h
 have h1 := zpH _ (Nat.mod_lt _ (by omega)) _ (Nat.mod_lt _ (by omega)) h
 have h2 := Gf.E_L a ha ha0
 have h3 := Gf.E_L b hb hb0
 have h4 := znk c hc
 have h5 : Gf.L a = Gf.L b := by omega
 rw [← h2.1, ← h3.1, h5]
theorem ZW (a b : Nat) (ha : a < 256) (hb : b < 256) : Gf.mulN a b = Gf.mulN b a := by
 by_cases ha0 : a = 0
 ·rw [ha0, (Gf.mul_0 b hb).1, (Gf.mul_0 b hb).2]
 by_cases hb0 : b = 0
 ·rw [hb0, (Gf.mul_0 a ha).1, (Gf.mul_0 a ha).2]
 rw [Zs a b ha hb ha0 hb0, Zs b a hb ha hb0 ha0, Nat.add_comm]
theorem zlU (a b : Nat) (ha : a < 256) (hb : b < 256) (ha0 : a ≠ 0) (hb0 : b ≠ 0) : Gf.mulN a b ≠ 0 := by
 rw [Zs a b ha hb ha0 hb0]
 have := (Gf.E_pos ((Gf.L a + Gf.L b) % 255) (Nat.mod_lt _ (by omega))).1
 omega
theorem zos (a b : Nat) (ha : a < 256) (hb : b < 256) (ha0 : a ≠ 0) (hb0 : b ≠ 0) : Gf.L (Gf.mulN a b) = (Gf.L a + Gf.L b) % 255 := by
 rw [Zs a b ha hb ha0 hb0]
 exact (Gf.E_pos _ (Nat.mod_lt _ (by omega))).2.2
theorem zil (a b c : Nat) (ha : a < 256) (hb : b < 256) (hc : c < 256) : Gf.mulN (Gf.mulN a b) c = Gf.mulN a (Gf.mulN b c) := by
 by_cases ha0 : a = 0
 ·rw [ha0, (Gf.mul_0 b hb).1, (Gf.mul_0 c hc).1, (Gf.mul_0 _ (zaS b c hb hc)).1]
 by_cases hb0 : b = 0
 ·rw [hb0, (Gf.mul_0 a ha).2, (Gf.mul_0 c hc).1, (Gf.mul_0 a ha).2]
 by_cases hc0 : c = 0
 ·rw [hc0, (Gf.mul_0 b hb).2, (Gf.mul_0 a ha).2, (Gf.mul_0 _ (zaS a b ha hb)).2]
 rw [Zs _ c (zaS a b ha hb) hc (zlU a b ha hb ha0 hb0) hc0, Zs a _ ha (zaS b c hb hc) ha0 (zlU b c hb hc hb0 hc0), zos a b ha hb ha0 hb0, zos b c hb hc hb0 hc0]
 congr 1
 omega
theorem zkQ (a b c : Nat) (ha : a < 256) (hb : b < 256) (hc : c < 256) : Gf.mulN a (b ^^^ c) = Gf.mulN a b ^^^ Gf.mulN a c := by
 have hx : b ^^^ c < 256 := Nat.xor_lt_two_pow (n := 8) hb hc
 rw [ZW a _ ha hx, Gf.mulN_xor, ZW b a hb ha, ZW c a hc ha]
theorem zlm (a : Nat) (ha : a < 256) : Gf.mulN a 1 = a := by
 by_cases ha0 : a = 0
 ·rw [ha0]; exact (Gf.mul_0 1 (by omega)).1
 have h0 : Gf.L 1 = 0 := by decide +kernel
 have h1 := Gf.E_L a ha ha0
 rw [Zs a 1 ha (by omega) ha0 (by omega), h0, Nat.add_zero, Nat.mod_eq_of_lt h1.2, h1.1]
theorem zoA (a : Nat) (ha : a < 256) (h0 : a ≠ 0) : ZN a ≠ 0 := by
 intro h
 have := Jp a ha h0
 rw [h, (Gf.mul_0 a ha).2] at this
 omega
theorem ziQ (a b : Nat) (ha : a < 256) (hb : b < 256) (h : Gf.mulN a b = 1) : b = ZN a := by
 have h0 : a ≠ 0 := by
  intro h0
  rw [h0, (Gf.mul_0 b hb).1] at h
  omega
 refine ziD b (ZN a) a hb (zaW a) ha h0 ?_
 rw [ZW b a hb ha, ZW _ a (zaW a) ha, h, Jp a ha h0]
theorem zka (k a : Nat) (ha : a < 256) (h0 : a ≠ 0) : ∀ (j b : Nat), b + j = ZN a → shamrockref01_Inv.l0 (k + 17 + j + 1) a b = some ((ZN a : Nat) : Int) := by
 have hv := zaW a
 intro j
 induction j with
 | zero =>
   intro b hb
   have hbv : b = ZN a := by omega
   subst hbv
   rw [shamrockref01_Inv.l0, if_pos (by omega), show ((ZN a : Nat) : Int) % 256 = ((ZN a : Nat) : Int) by omega, zeu _ a (ZN a) (by omega) ha hv, Jp a ha h0]
   rfl
 | succ j ih =>
   intro b hb
   have hne : Gf.mulN a b ≠ 1 := fun h => by have := ziQ a b ha (by omega) h; omega
   rw [shamrockref01_Inv.l0, if_pos (by omega), show ((b : Nat) : Int) % 256 = ((b : Nat) : Int) by omega, zeu _ a b (by omega) ha (by omega)]
   show (if ((Gf.mulN a b : Nat) : Int) = 1 then _ else _) = _
   rw [if_neg (by omega), IntWalk.wrap64_in ((b : Int) + 1) ⟨by omega, by omega⟩]
   exact ih (b + 1) (by omega)
theorem zoC {α : Type} {f : Nat → Option α} (h : ∀ k, LeO (f k) (f (k + 1))) {k j : Nat} (hkj : k ≤ j) {r : α} (hr : f k = some r) : f j = some r := by
 obtain ⟨d, rfl⟩ := Nat.exists_eq_add_of_le hkj
 clear hkj
 induction d with
 | zero => exact hr
 | succ d ih => exact h _ _ ih
theorem zmT (k a : Nat) (hk : 400 ≤ k) (ha : a < 256) (h0 : a ≠ 0) : shamrockref01_Inv.f k a = some ((ZN a : Nat) : Int) := by
 have hv := zaW a
 have hn := zoA a ha h0
 have h1 := zka 0 a ha h0 (ZN a - 1) 1 (by omega)
 exact zoC (f := fun k => shamrockref01_Inv.f k a) (fun k => shamrockref01_Inv.mono a k) (k := 0 + 17 + (ZN a - 1) + 1) (by omega) h1
end Go.Proofs.Ytpeiejkcoadhfaa
namespace Go.Proofs.Ytpeiejkcoadhfaa
structure F where
 v : Nat
 lt : v < 256
theorem F.ext {a b : F} (h : a.v = b.v) : a = b := by
 cases a; cases b; simp only at h; subst h; rfl
instance : DecidableEq F := fun a b => if h : a.v = b.v then isTrue (F.ext h) else isFalse (fun e => h (by rw [e]))
instance : Zero F := ⟨⟨0, by omega⟩⟩
instance : One F := ⟨⟨1, by omega⟩⟩
instance : Inhabited F := ⟨0⟩
theorem zoO {a b : Nat} (ha : a < 256) (hb : b < 256) : a ^^^ b < 256 := Nat.xor_lt_two_pow (n := 8) ha hb
instance : Add F := ⟨fun a b => ⟨a.v ^^^ b.v, zoO a.lt b.lt⟩⟩
instance : Mul F := ⟨fun a b => ⟨Gf.mulN a.v b.v, zaS _ _ a.lt b.lt⟩⟩
def F.inv (a : F) : F := ⟨ZN a.v, zaW a.v⟩
theorem F.zero_v : (0 : F).v = 0 := rfl
theorem F.add_comm (a b : F) : a + b = b + a := F.ext (Nat.xor_comm _ _)
theorem F.add_assoc (a b c : F) : a + b + c = a + (b + c) := F.ext (Nat.xor_assoc _ _ _)
theorem F.add_zero (a : F) : a + 0 = a := F.ext (Nat.xor_zero _)
theorem F.zero_add (a : F) : 0 + a = a := F.ext (Nat.zero_xor _)
theorem F.add_self (a : F) : a + a = 0 := F.ext (Nat.xor_self _)
theorem F.mul_comm (a b : F) : a * b = b * a := F.ext (ZW _ _ a.lt b.lt)
theorem F.mul_assoc (a b c : F) : a * b * c = a * (b * c) := F.ext (zil _ _ _ a.lt b.lt c.lt)
theorem F.mul_one (a : F) : a * 1 = a := F.ext (zlm _ a.lt)
theorem F.one_mul (a : F) : 1 * a = a := by rw [F.mul_comm, F.mul_one]
theorem F.mul_zero (a : F) : a * 0 = 0 := F.ext (Gf.mul_0 a.v a.lt).2
theorem F.zero_mul (a : F) : 0 * a = 0 := F.ext (Gf.mul_0 a.v a.lt).1
theorem F.mul_add (a b c : F) : a * (b + c) = a * b + a * c := F.ext (zkQ _ _ _ a.lt b.lt c.lt)
theorem F.add_mul (a b c : F) : (a + b) * c = a * c + b * c := F.ext (Gf.mulN_xor _ _ _)
theorem F.mul_inv (a : F) (h : a ≠ 0) : a * a.inv = 1 := F.ext (Jp _ a.lt (fun e => h (F.ext e)))
theorem F.mul_eq_zero {a b : F} (h : a * b = 0) : a = 0 ∨ b = 0 := by
 by_cases ha : a = 0
 ·exact .inl ha
 right
 have : a.inv * (a * b) = 0 := by rw [h, F.mul_zero]
 rwa [← F.mul_assoc, F.mul_comm a.inv a, F.mul_inv a ha, F.one_mul] at this
theorem F.add_eq_zero {a b : F} (h : a + b = 0) : a = b := by
 have : a + b + b = b := by rw [h, F.zero_add]
 rwa [F.add_assoc, F.add_self, F.add_zero] at this
theorem F.add_left_comm (a b c : F) : a + (b + c) = b + (a + c) := by rw [← F.add_assoc, F.add_comm a b, F.add_assoc]
theorem F.add4 (a b c d : F) : (a + b) + (c + d) = (a + c) + (b + d) := by
 rw [F.add_assoc, F.add_assoc, F.add_left_comm b c d]
theorem F.one_ne : (1 : F) ≠ 0 := fun h => by have := congrArg F.v h; cases this
def cf (p : List F) (i : Nat) : F := p.getD i 0
def Eqv (p q : List F) : Prop := ∀ i, cf p i = cf q i
def ev : List F → F → F
 | [], _ => 0
 | a :: p, x => a + ev p x * x
def zW : List F → List F → List F
 | [], q => q
 | p, [] => p
 | a :: p, b :: q => (a + b) :: zW p q
def scP (a : F) (p : List F) : List F := p.map (a * ·)
def zB : List F → List F → List F
 | [], _ => []
 | a :: p, q => zW (scP a q) (0 :: zB p q)
def zj : List F → List F
 | [] => []
 | a :: p => match zj p with
   | [] => if a = 0 then [] else [a]
   | b :: q => a :: b :: q
theorem Jg (i : Nat) : cf [] i = 0 := rfl
theorem jh (a : F) (p : List F) : cf (a :: p) 0 = a := rfl
theorem yS (a : F) (p : List F) (i : Nat) : cf (a :: p) (i + 1) = cf p i := rfl
theorem zS : ∀ (p q : List F) (i : Nat), cf (zW p q) i = cf p i + cf q i
 | [], q, i => by simp [zW, Jg, F.zero_add]
 | a :: p, [], i => by simp [zW, Jg, F.add_zero]
 | a :: p, b :: q, 0 => rfl
 | a :: p, b :: q, i + 1 => by simp only [zW, yS]; exact zS p q i
theorem zae (a : F) : ∀ (p : List F) (i : Nat), cf (scP a p) i = a * cf p i
 | [], i => by simp [scP, Jg, F.mul_zero]
 | b :: p, 0 => rfl
 | b :: p, i + 1 => by simp only [scP, List.map_cons, yS]; exact zae a p i
theorem zJ (p : List F) (i : Nat) (h : p.length ≤ i) : cf p i = 0 := by
 unfold cf
 rw [List.getD_eq_getElem?_getD, List.getElem?_eq_none h]; rfl
theorem Eqv.refl (p : List F) : Eqv p p := fun _ => rfl
theorem Eqv.symm {p q : List F} (h : Eqv p q) : Eqv q p := fun i => (h i).symm
theorem Eqv.trans {p q r : List F} (h : Eqv p q) (k : Eqv q r) : Eqv p r := fun i => (h i).trans (k i)
theorem Eqv.tail {a b : F} {p q : List F} (h : Eqv (a :: p) (b :: q)) : a = b ∧ Eqv p q := ⟨h 0, fun i => h (i + 1)⟩
theorem Eqv.add {p p' q q' : List F} (h : Eqv p p') (k : Eqv q q') : Eqv (zW p q) (zW p' q') := fun i => by rw [zS, zS, h i, k i]
theorem Eqv.cons (a : F) {p q : List F} (h : Eqv p q) : Eqv (a :: p) (a :: q) := fun i => by
 cases i with
 | zero => rfl
 | succ i => exact h i
theorem Eqv.sc (a : F) {p q : List F} (h : Eqv p q) : Eqv (scP a p) (scP a q) := fun i => by rw [zae, zae, h i]
theorem ZM : ∀ (p q : List F) (x : F), ev (zW p q) x = ev p x + ev q x
 | [], q, x => by simp [zW, ev, F.zero_add]
 | a :: p, [], x => by simp [zW, ev, F.add_zero]
 | a :: p, b :: q, x => by simp only [zW, ev, ZM p q x, F.add_mul]; exact F.add4 _ _ _ _
theorem zow (a : F) : ∀ (p : List F) (x : F), ev (scP a p) x = a * ev p x
 | [], x => by simp [scP, ev, F.mul_zero]
 | b :: p, x => by
   have := zow a p x
   simp only [scP] at this
   simp only [scP, List.map_cons, ev, this, F.mul_add, F.mul_assoc]
theorem zbw : ∀ (p q : List F) (x : F), ev (zB p q) x = ev p x * ev q x
 | [], q, x => by simp [zB, ev, F.zero_mul]
 | a :: p, q, x => by
   simp only [zB, ZM, zow, ev, zbw p q x, F.zero_add, F.add_mul]
   rw [F.mul_assoc, F.mul_assoc, F.mul_comm x]
theorem zbb {p : List F} (h : ∀ i, cf p i = 0) (x : F) : ev p x = 0 := by
 induction p with
 | nil => rfl
 | cons a p ih =>
   have h0 := h 0
   rw [jh] at h0
   rw [ev, h0, ih (fun i => h (i + 1)), F.zero_mul, F.zero_add]
theorem zbC : ∀ (p q : List F) (_ : Eqv p q) (x : F), ev p x = ev q x
 | [], q, h, x => (zbb (fun i => (h i).symm) x).symm
 | a :: p, [], h, x => zbb (fun i => h i) x
 | a :: p, b :: q, h, x => by rw [ev, ev, h.tail.1, zbC p q h.tail.2 x]
theorem zY : ∀ (p : List F), Eqv (zj p) p
 | [] => Eqv.refl _
 | a :: p => by
   have ih := zY p
   unfold zj
   cases h : zj p with
   | nil =>
     rw [h] at ih
     simp only
     split
     ·rename_i ha
      subst ha
      intro i
      cases i with
      | zero => rfl
      | succ i => exact ih i
     exact Eqv.cons a ih
   | cons b q =>
     rw [h] at ih
     exact Eqv.cons a ih
theorem zcL {p : List F} (h : ∀ i, cf p i = 0) : zj p = [] := by
 induction p with
 | nil => rfl
 | cons a p ih =>
   unfold zj
   rw [ih (fun i => h (i + 1))]
   simp only
   rw [if_pos (show a = 0 from h 0)]
theorem Zb : ∀ (p q : List F), Eqv p q → zj p = zj q
 | [], q, h => (zcL (fun i => (h i).symm)).symm
 | a :: p, [], h => zcL (fun i => h i)
 | a :: p, b :: q, h => by
   unfold zj
   rw [Zb p q h.tail.2, h.tail.1]
theorem zcA (p : List F) : zj (zj p) = zj p := Zb _ _ (zY p)
theorem Ju (p : List F) (x : F) : ev (zj p) x = ev p x := zbC _ _ (zY p) x
theorem yD (p : List F) : (zj p).length ≤ p.length := by
 induction p with
 | nil => exact Nat.le_refl _
 | cons a p ih =>
   unfold zj
   cases h : zj p with
   | nil => simp only; split <;> simp
   | cons b q => rw [h] at ih; simpa using ih
theorem ZX (p : List F) (h : zj p ≠ []) : cf (zj p) ((zj p).length - 1) ≠ 0 := by
 induction p with
 | nil => exact absurd rfl h
 | cons a p ih =>
   unfold zj at h ⊢
   cases hp : zj p with
   | nil =>
     rw [hp] at h
     simp only at h ⊢
     split
     ·rename_i ha; rw [if_pos ha] at h; exact absurd rfl h
     rename_i ha; exact ha
   | cons b q =>
     rw [hp] at ih
     have := ih (by simp)
     simp only [List.length_cons, Nat.add_sub_cancel] at this ⊢
     exact this
theorem yR {p : List F} {n : Nat} (h : ∀ i, n ≤ i → cf p i = 0) : (zj p).length ≤ n := by
 rcases Nat.lt_or_ge n (zj p).length with hl | hl
 ·have h1 := ZX p (by intro e; rw [e] at hl; simp at hl)
  rw [zY p, h _ (by omega)] at h1
  exact absurd rfl h1
 exact hl
theorem ZU {p : List F} (h : ∀ i, cf p i = 0) (q : List F) : ∀ i, cf (zB p q) i = 0 := by
 induction p with
 | nil => intro i; rfl
 | cons a p ih =>
   intro i
   have h0 := h 0
   rw [jh] at h0
   simp only [zB, zS, zae, h0, F.zero_mul, F.zero_add]
   cases i with
   | zero => rfl
   | succ i => exact ih (fun j => h (j + 1)) i
theorem Eqv.mul : ∀ {p p' q q' : List F}, Eqv p p' → Eqv q q' → Eqv (zB p q) (zB p' q')
 | [], p', q, q', h, _ => fun i => (ZU (fun j => (h j).symm) q' i).symm
 | a :: p, [], q, q', h, _ => fun i => ZU (fun j => h j) q i
 | a :: p, b :: p', q, q', h, k => by
   simp only [zB]
   rw [h.tail.1]
   exact (k.sc b).add (Eqv.cons 0 (Eqv.mul h.tail.2 k))
theorem yZ : ∀ (p q : List F) (n m : Nat), (∀ i, n ≤ i → cf p i = 0) → (∀ i, m ≤ i → cf q i = 0) → ∀ i, n + m ≤ i + 1 → 0 < n → cf (zB p q) i = 0
 | [], _, _, _, _, _ => fun _ _ _ => rfl
 | a :: p, q, 0, m, hp, hq => fun _ _ h => absurd h (by omega)
 | a :: p, q, n + 1, m, hp, hq => fun i hi _ => by
   simp only [zB, zS, zae]
   rw [hq i (by omega), F.mul_zero, F.zero_add]
   cases i with
   | zero => rfl
   | succ i =>
     rw [yS]
     rcases Nat.eq_zero_or_pos n with hn | hn
     ·subst hn
      exact ZU (fun j => hp (j + 1) (by omega)) q i
     exact yZ p q n m (fun j hj => hp (j + 1) (by omega)) hq i (by omega) hn
theorem JR : ∀ (p q : List F) (n m : Nat), (∀ i, n < i → cf p i = 0) → (∀ i, m < i → cf q i = 0) → cf (zB p q) (n + m) = cf p n * cf q m
 | [], _, _, _, _, _ => by rw [Jg, F.zero_mul]; rfl
 | a :: p, q, 0, m, hp, hq => by
   simp only [zB, zS, zae, jh, Nat.zero_add]
   have : cf (0 :: zB p q) m = 0 := by
    cases m with
    | zero => rfl
    | succ m => exact ZU (fun j => hp (j + 1) (by omega)) q m
   rw [this, F.add_zero]
 | a :: p, q, n + 1, m, hp, hq => by
   simp only [zB, zS, zae, yS]
   rw [hq _ (by omega), F.mul_zero, F.zero_add, show n + 1 + m = (n + m) + 1 by omega, yS]
   exact JR p q n m (fun j hj => hp (j + 1) (by omega)) hq
def Unl (xs : List F) : Prop := xs.Nodup
def quo : List F → F → List F
 | [], _ => []
 | a :: p, x => ev p x :: quo p x
theorem zcD : ∀ (p : List F) (x : F) (n : Nat), (∀ i, n < i → cf p i = 0) → ∀ i, n ≤ i → cf (quo p x) i = 0
 | [], _, _, _, _, _ => rfl
 | a :: p, x, n, hp, 0, hi => by
   obtain rfl : n = 0 := by omega
   rw [quo, jh]
   exact zbb (fun j => hp (j + 1) (by omega)) x
 | a :: p, x, n, hp, i + 1, hi => by
   rw [quo, yS]
   rcases Nat.eq_zero_or_pos n with hn | hn
   ·subst hn
    exact zcD p x 0 (fun j hj => hp (j + 1) (by omega)) i (by omega)
   exact zcD p x (n - 1) (fun j hj => hp (j + 1) (by omega)) i (by omega)
theorem zhj : ∀ (p : List F) (x : F) (i : Nat), cf p i = (if i = 0 then ev p x else 0) + (cf (quo p x) i * x + (if i = 0 then 0 else cf (quo p x) (i - 1)))
 | [], x, i => by cases i <;> simp [Jg, ev, quo, F.zero_mul, F.add_zero]
 | a :: p, x, 0 => by
   simp only [jh, quo, ev, if_true, F.add_zero]
   rw [F.add_assoc, F.add_self, F.add_zero]
 | a :: p, x, i + 1 => by
   have ih := zhj p x i
   simp only [yS, quo, Nat.add_sub_cancel, if_neg (Nat.succ_ne_zero i), F.zero_add]
   cases i with
   | zero =>
     simp only [if_true] at ih
     rw [jh, ih, F.add_zero, F.add_comm]
   | succ i =>
     simp only [if_neg (Nat.succ_ne_zero i), F.zero_add, Nat.add_sub_cancel] at ih
     rw [yS, ih]
theorem zmG : ∀ (p : List F) (x y : F), ev p y = ev p x + (x + y) * ev (quo p x) y
 | [], x, y => by simp [ev, quo, F.mul_zero, F.add_zero]
 | a :: p, x, y => by
   have ih := zmG p x y
   simp only [ev, quo]
   have e1 : (ev p x + (x + y) * ev (quo p x) y) * y = ev p x * y + (x + y) * (ev (quo p x) y * y) := by rw [F.add_mul, F.mul_assoc]
   have e2 : (x + y) * (ev p x + ev (quo p x) y * y) = (ev p x * x + ev p x * y) + (x + y) * (ev (quo p x) y * y) := by rw [F.mul_add, F.mul_comm (x + y) (ev p x), F.mul_add]
   rw [ih, e1, e2, F.add_assoc a, F.add_assoc (ev p x * x) (ev p x * y), ← F.add_assoc (ev p x * x) (ev p x * x), F.add_self, F.zero_add]
theorem zaN : ∀ (n : Nat) (p xs : List F), (∀ i, n ≤ i → cf p i = 0) → Unl xs → n ≤ xs.length → (∀ x ∈ xs, ev p x = 0) → ∀ i, cf p i = 0
 | 0, p, _, hp, _, _, _ => fun i => hp i (by omega)
 | n + 1, p, [], _, _, hl, _ => absurd hl (by simp)
 | n + 1, p, x :: xs, hp, hu, hl, hr => by
   have hx : ev p x = 0 := hr x (List.mem_cons_self ..)
   have hu' := List.nodup_cons.1 hu
   have hq : ∀ i, cf (quo p x) i = 0 := zaN n (quo p x) xs (fun i hi => zcD p x n (fun j hj => hp j (by omega)) i hi) hu'.2 (by simpa using hl) (fun y hy => by
    have h1 := zmG p x y
    rw [hx, hr y (List.mem_cons_of_mem _ hy), F.zero_add] at h1
    rcases F.mul_eq_zero h1.symm with h2 | h2
    ·exact absurd (F.add_eq_zero h2 ▸ hy) hu'.1
    exact h2)
   intro i
   rw [zhj p x i, hx, hq i, F.zero_mul, F.zero_add]
   split
   ·exact F.add_zero 0
   rw [hq, F.add_zero]
theorem zcH {n : Nat} {p q xs : List F} (hp : ∀ i, n ≤ i → cf p i = 0) (hq : ∀ i, n ≤ i → cf q i = 0) (hu : Unl xs) (hl : n ≤ xs.length) (h : ∀ x ∈ xs, ev p x = ev q x) : Eqv p q := by
 have := zaN n (zW p q) xs (fun i hi => by rw [zS, hp i hi, hq i hi, F.add_zero]) hu hl (fun x hx => by rw [ZM, h x hx, F.add_self])
 intro i
 have h1 := this i
 rw [zS] at h1
 exact F.add_eq_zero h1
def lin (x : F) : List F := [x, 1]
def zw (xs : List F) : List F := xs.foldl (fun p x => zj (zB p (lin x))) [1]
theorem ziX (x y : F) : ev (lin x) y = x + y := by
 simp [lin, ev, F.zero_mul, F.add_zero, F.one_mul]
theorem Jj (xs : List F) (x : F) : zw (xs ++ [x]) = zj (zB (zw xs) (lin x)) := by simp [zw]
theorem zei {P : List F → Prop} (h0 : P []) (h1 : ∀ xs x, P xs → P (xs ++ [x])) (xs : List F) : P xs := by
 have : ∀ (n : Nat) (l : List F), l.length = n → P l := by
  intro n
  induction n with
  | zero => intro l hl; rw [List.eq_nil_of_length_eq_zero hl]; exact h0
  | succ n ih =>
    intro l hl
    have hne : l ≠ [] := by intro e; rw [e] at hl; simp at hl
    rw [← List.dropLast_concat_getLast hne]
    exact h1 _ _ (ih _ (by rw [List.length_dropLast, hl]; rfl))
 exact this xs.length xs rfl
theorem zaE (xs : List F) (y : F) : ev (zw xs) y = 0 ↔ y ∈ xs := by
 induction xs using zei with
 | h0 => simp [zw, ev, F.zero_mul, F.add_zero, F.one_ne]
 | h1 xs x ih =>
   rw [Jj, Ju, zbw, ziX]
   constructor
   ·intro h
    rcases F.mul_eq_zero h with h | h
    ·exact List.mem_append_left _ (ih.1 h)
    rw [F.add_eq_zero h]; exact List.mem_append_right _ (List.mem_singleton.2 rfl)
   intro h
   rcases List.mem_append.1 h with h | h
   ·rw [ih.2 h, F.zero_mul]
   rw [List.mem_singleton.1 h, F.add_self, F.mul_zero]
theorem jB (xs : List F) : cf (zw xs) xs.length = 1 ∧ ∀ i, xs.length < i → cf (zw xs) i = 0 := by
 induction xs using zei with
 | h0 => exact ⟨rfl, fun i hi => by cases i with
   | zero => exact absurd hi (Nat.lt_irrefl _)
   | succ i => rfl⟩
 | h1 xs x ih =>
   have hl1 : ∀ i, 1 < i → cf (lin x) i = 0 := fun i hi => zJ _ _ (by simp [lin]; omega)
   rw [Jj, List.length_append, List.length_singleton]
   refine ⟨by rw [zY, JR _ _ _ 1 ih.2 hl1, ih.1]; exact F.one_mul 1, fun i hi => ?_⟩
   rw [zY]
   exact yZ _ _ (xs.length + 1) 2 (fun j hj => ih.2 j (by omega)) (fun j hj => hl1 j (by omega)) i (by omega) (by omega)
theorem zQ (xs : List F) : (zw xs).length = xs.length + 1 := by
 have h1 := jB xs
 have h3 : zj (zw xs) = zw xs := by
  induction xs using zei with
  | h0 => simp [zw, zj, F.one_ne]
  | h1 xs x _ => rw [Jj, zcA]
 have h2 : (zj (zw xs)).length ≤ xs.length + 1 := yR (fun i hi => h1.2 i (by omega))
 rw [h3] at h2
 rcases Nat.lt_or_ge xs.length (zw xs).length with h | h
 ·omega
 have := zJ _ _ h
 rw [h1.1] at this
 exact absurd this F.one_ne
def zbu (xs ys s : List F) : Prop := zj s = s ∧ s.length ≤ xs.length ∧ ∀ i, i < xs.length → ev s (xs.getD i 0) = ys.getD i 0
theorem zax {xs : List F} {x : F} (h : x ∈ xs) : ∃ i, i < xs.length ∧ xs.getD i 0 = x := by
 obtain ⟨i, hi, rfl⟩ := List.mem_iff_getElem.1 h
 exact ⟨i, hi, by rw [List.getD_eq_getElem?_getD, List.getElem?_eq_getElem hi]; rfl⟩
theorem zgY {xs : List F} {i : Nat} (h : i < xs.length) : xs.getD i 0 ∈ xs := by
 rw [List.getD_eq_getElem?_getD, List.getElem?_eq_getElem h]
 exact List.getElem_mem h
theorem zct {xs : List F} (hu : Unl xs) {i j : Nat} (hi : i < xs.length) (hj : j < xs.length) (h : xs[i] = xs[j]) : i = j := by
 have hp := List.pairwise_iff_getElem.1 hu
 rcases Nat.lt_trichotomy i j with h1 | h1 | h1
 ·exact absurd h (hp i j hi hj h1)
 ·exact h1
 exact absurd h.symm (hp j i hj hi h1)
theorem zlx {xs : List F} (hu : Unl xs) {i j : Nat} (hi : i < xs.length) (hj : j < xs.length) (h : xs.getD i 0 = xs.getD j 0) : i = j := by
 rw [List.getD_eq_getElem?_getD, List.getD_eq_getElem?_getD, List.getElem?_eq_getElem hi, List.getElem?_eq_getElem hj] at h
 exact zct hu hi hj h
theorem zhz {xs ys s t : List F} (hu : Unl xs) (h : zbu xs ys s) (k : zbu xs ys t) : s = t := by
 rw [← h.1, ← k.1]
 refine Zb _ _ (zcH (n := xs.length) (xs := xs) (fun i hi => zJ _ _ (by have := h.2.1; omega)) (fun i hi => zJ _ _ (by have := k.2.1; omega)) hu (Nat.le_refl _) (fun x hx => ?_))
 obtain ⟨i, hi, rfl⟩ := zax hx
 rw [h.2.2 i hi, k.2.2 i hi]
def zhv (xs : List F) (i : Nat) (p : List F) : Prop := (∀ j, xs.length ≤ j → cf p j = 0) ∧ (∀ j, j < xs.length → j ≠ i → ev p (xs.getD j 0) = 0) ∧ ev p (xs.getD i 0) ≠ 0
def zaI (xs ys s : List F) (n : Nat) : Prop := zj s = s ∧ s.length ≤ xs.length ∧ ∀ i, i < xs.length → ev s (xs.getD i 0) = if i < n then ys.getD i 0 else 0
theorem zbx (xs ys : List F) : zaI xs ys [] 0 := ⟨rfl, Nat.zero_le _, fun i _ => by rw [if_neg (by omega)]; rfl⟩
theorem zcm {xs ys s p q : List F} {n : Nat} (h : zaI xs ys s n) (hn : n < xs.length) (hb : zhv xs n p) (hq : Eqv q (zB p [ys.getD n 0 * (ev p (xs.getD n 0)).inv])) : zaI xs ys (zj (zW s q)) (n + 1) := by
 obtain ⟨h1, h2, h3⟩ := h
 obtain ⟨b1, b2, b3⟩ := hb
 have hev : ∀ x, ev q x = ev p x * (ys.getD n 0 * (ev p (xs.getD n 0)).inv) := fun x => by
  rw [zbC _ _ hq x, zbw]
  simp [ev, F.zero_mul, F.add_zero]
 refine ⟨zcA _, yR (fun i hi => ?_), fun i hi => ?_⟩
 ·rw [zS, zJ s i (by omega), F.zero_add, hq i]
  exact yZ _ _ xs.length 1 (fun j hj => b1 j hj) (fun j hj => zJ _ _ (by simp; omega)) i (by omega) (by omega)
 rw [Ju, ZM, h3 i hi, hev]
 by_cases hin : i = n
 ·subst hin
  rw [if_neg (by omega), if_pos (by omega), F.zero_add, F.mul_comm (ys.getD i 0), ← F.mul_assoc, F.mul_inv _ b3, F.one_mul]
 rw [b2 i hi hin, F.zero_mul, F.add_zero]
 by_cases h4 : i < n
 ·rw [if_pos h4, if_pos (by omega)]
 rw [if_neg h4, if_neg (by omega)]
theorem zen {xs ys s : List F} {n : Nat} (h : zaI xs ys s n) (hn : n = xs.length) : zbu xs ys s := ⟨h.1, h.2.1, fun i hi => by rw [h.2.2 i hi, if_pos (by omega)]⟩
theorem zbW {xs : List F} (hu : Unl xs) {i : Nat} (hi : i < xs.length) : zhv xs i (zw (xs.take i ++ xs.drop (i + 1))) := by
 have hl : (xs.take i ++ xs.drop (i + 1)).length = xs.length - 1 := by rw [List.length_append, List.length_take, List.length_drop]; omega
 have hat : ∀ j, j < xs.length → j ≠ i → xs.getD j 0 ∈ xs.take i ++ xs.drop (i + 1) := fun j hj hne => by
  rw [List.getD_eq_getElem?_getD, List.getElem?_eq_getElem hj]
  rcases Nat.lt_or_ge j i with h | h
  ·refine List.mem_append_left _ (List.mem_iff_getElem.2 ⟨j, by rw [List.length_take]; omega, ?_⟩)
   simp
  refine List.mem_append_right _ (List.mem_iff_getElem.2 ⟨j - (i + 1), by rw [List.length_drop]; omega, ?_⟩)
  rw [List.getElem_drop]
  simp only [show i + 1 + (j - (i + 1)) = j by omega]
  rfl
 have hnot : xs.getD i 0 ∉ xs.take i ++ xs.drop (i + 1) := fun h => by
  rw [List.getD_eq_getElem?_getD, List.getElem?_eq_getElem hi] at h
  rcases List.mem_append.1 h with h | h
  ·obtain ⟨j, hj, he⟩ := List.mem_iff_getElem.1 h
   rw [List.length_take] at hj
   rw [List.getElem_take] at he
   have := zct hu (by omega) hi he
   omega
  obtain ⟨j, hj, he⟩ := List.mem_iff_getElem.1 h
  rw [List.length_drop] at hj
  rw [List.getElem_drop] at he
  have := zct hu (by omega) hi he
  omega
 refine ⟨fun j hj => zJ _ _ (by rw [zQ, hl]; omega), fun j hj hne => (zaE _ _).2 (hat j hj hne), fun h => hnot ((zaE _ _).1 h)⟩
theorem zla {xs q r : List F} (hu : Unl xs) {i : Nat} (hi : i < xs.length) (hq : ∀ j, cf (zw xs) j = cf (zB q (lin (xs.getD i 0))) j + cf r j) (hr : r.length ≤ 1) : zhv xs i q := by
 have hx : ev (zw xs) (xs.getD i 0) = 0 := (zaE _ _).2 (zgY hi)
 have hev : ∀ y, ev (zw xs) y = ev q y * (xs.getD i 0 + y) + ev r y := fun y => by
  rw [zbC _ (zW (zB q (lin (xs.getD i 0))) r) (fun j => by rw [zS]; exact hq j), ZM, zbw, ziX]
 have hr0 : ∀ y, ev r y = 0 := by
  have h1 := hev (xs.getD i 0)
  rw [hx, F.add_self, F.mul_zero, F.zero_add] at h1
  match r, hr with
  | [], _ => exact fun _ => rfl
  | [a], _ =>
    intro y
    have h2 : a = 0 := by simpa [ev, F.zero_mul, F.add_zero] using h1.symm
    simp [ev, h2, F.zero_mul, F.add_zero]
 have hrc : ∀ j, cf r j = 0 := by
  match r, hr, hr0 0 with
  | [], _, _ => exact fun _ => rfl
  | [a], _, h =>
    have h2 : a = 0 := by simpa [ev, F.zero_mul, F.add_zero] using h
    intro j
    cases j with
    | zero => exact h2
    | succ j => rfl
 have b1 : ∀ j, xs.length ≤ j → cf q j = 0 := by
  have htop : ∀ m, (∀ j, m < j → cf q j = 0) → cf q m = cf (zB q (lin (xs.getD i 0))) (m + 1) := fun m hm => by
   rw [JR q _ m 1 hm (fun j hj => zJ _ _ (by simp [lin]; omega))]
   exact (F.mul_one _).symm
  have : ∀ d m, q.length - m = d → xs.length ≤ m → cf q m = 0 ∧ ∀ j, m < j → cf q j = 0 := by
   intro d
   induction d with
   | zero => exact fun m hd _ => ⟨zJ _ _ (by omega), fun j hj => zJ _ _ (by omega)⟩
   | succ d ih =>
     intro m hd hm
     have h1 := ih (m + 1) (by omega) (by omega)
     have h2 : ∀ j, m < j → cf q j = 0 := fun j hj => by
      rcases Nat.lt_or_ge (m + 1) j with h | h
      ·exact h1.2 j h
      obtain rfl : j = m + 1 := by omega
      exact h1.1
     refine ⟨?_, h2⟩
     rw [htop m h2]
     have h3 := hq (m + 1)
     rw [(jB xs).2 _ (by omega), hrc, F.add_zero] at h3
     exact h3.symm
  exact fun j hj => (this _ j rfl hj).1
 have b2 : ∀ j, j < xs.length → j ≠ i → ev q (xs.getD j 0) = 0 := fun j hj hne => by
  have h1 := hev (xs.getD j 0)
  rw [(zaE _ _).2 (zgY hj), hr0, F.add_zero] at h1
  rcases F.mul_eq_zero h1.symm with h2 | h2
  ·exact h2
  exact absurd (zlx hu hi hj (F.add_eq_zero h2)) (Ne.symm hne)
 refine ⟨b1, b2, fun h => ?_⟩
 have hz := zaN xs.length q xs b1 hu (Nat.le_refl _) (fun y hy => by
  obtain ⟨j, hj, rfl⟩ := zax hy
  by_cases hji : j = i
  ·subst hji; exact h
  exact b2 j hj hji)
 have h1 := (jB xs).1
 rw [hq, ZU hz, hrc, F.add_zero] at h1
 exact F.one_ne h1.symm
end Go.Proofs.Ytpeiejkcoadhfaa
namespace Go.Proofs.Ytpeiejkcoadhfaa
open Go.RowKit Go.Proofs.YtpeiejkcoadhfaaW.PrintWords Go.Proofs.YtpeiejkcoadhfaaW.PrintMore PGfPows
end Go.Proofs.Ytpeiejkcoadhfaa
namespace Go.Proofs.Ytpeiejkcoadhfaa
open Go.RowKit Go.Shelf Go.Proofs.YtpeiejkcoadhfaaW.PrintWords
def Ct (w : World) (f : FuncId) (args : Array Value) (v : Value) : Prop := ∀ W, Fr (fun _ => False) w W → Calls Try.prog f args W fun e W' => e = .returned v ∧ Fr (fun _ => False) W W'
theorem Fr.of_drawn0 {S : Nat → Prop} {w W : World} (h : zq w W) : Fr S w W := by
 obtain ⟨⟨n, rfl⟩⟩ := h
 exact (Fr.refl S w).drewN n
theorem Fr.f_below {w W : World} (h : Fr (fun _ => False) w W) : Below w.heap.size w W := h.below (Nat.le_refl _) (fun _ h => h.elim)
section
variable {w : World} {g : Nat} (hF : Fld w g)
include hF
end
theorem Ct.as {w : World} {f : FuncId} {args : Array Value} {v v' : Value} (h : Ct w f args v) (e : v = v') : Ct w f args v' := e ▸ h
end Go.Proofs.Ytpeiejkcoadhfaa
namespace Go.Proofs.Ytpeiejkcoadhfaa
open Go.RowKit Go.Shelf Go.Proofs.YtpeiejkcoadhfaaW.PrintWords Go.Proofs.YtpeiejkcoadhfaaW.PrintMore
attribute [local go_sem] Oper.semAt_some
theorem zU (w : World) (a : Obj) : ∃ w2, w2 = w.alloc a ∧ w2.heap.size = w.heap.size + 1 ∧ w2.heap[w.heap.size]? = some a ∧ Below w.heap.size w w2 :=
 ⟨_, rfl, by simp, yw _ _, zc (Below.refl _ _) _⟩
theorem zey (w : World) (a b : Obj) : ∃ w2, w2 = (w.alloc a).alloc b ∧ w2.heap.size = w.heap.size + 2 ∧ w2.heap[w.heap.size]? = some a ∧ w2.heap[w.heap.size + 1]? = some b ∧ Below w.heap.size w w2 := by
 obtain ⟨w1, e, hz, h0, hb⟩ := zU w a
 refine ⟨_, rfl, by simp, ?_, ?_, zc (zc (Below.refl _ _) _) _⟩
 ·rw [← e]; exact zt h0 _
 have := yw (w.alloc a) b
 rwa [World.size_alloc] at this
theorem zor (w : World) (a b c : Obj) : ∃ w2, w2 = ((w.alloc a).alloc b).alloc c ∧ w2.heap.size = w.heap.size + 3 ∧ w2.heap[w.heap.size]? = some a ∧ w2.heap[w.heap.size + 1]? = some b ∧ w2.heap[w.heap.size + 1 + 1]? = some c ∧ Below w.heap.size w w2 := by
 obtain ⟨w1, e, hz, h0, h1, hb⟩ := zey w a b
 refine ⟨_, rfl, by simp, ?_, ?_, ?_, zc (zc (zc (Below.refl _ _) _) _) _⟩
 ·rw [← e]; exact zt h0 _
 ·rw [← e]; exact zt h1 _
 have := yw ((w.alloc a).alloc b) c
 rwa [World.size_alloc, World.size_alloc] at this
theorem zgO (w : World) (a b c d : Obj) : ∃ w2, w2 = (((w.alloc a).alloc b).alloc c).alloc d ∧ w2.heap.size = w.heap.size + 4 ∧ w2.heap[w.heap.size]? = some a ∧ w2.heap[w.heap.size + 1]? = some b ∧ w2.heap[w.heap.size + 1 + 1]? = some c ∧ w2.heap[w.heap.size + 1 + 1 + 1]? = some d ∧ Below w.heap.size w w2 := by
 obtain ⟨w1, e, hz, h0, h1, h2, hb⟩ := zor w a b c
 refine ⟨_, rfl, by simp, ?_, ?_, ?_, ?_, zc (zc (zc (zc (Below.refl _ _) _) _) _) _⟩
 ·rw [← e]; exact zt h0 _
 ·rw [← e]; exact zt h1 _
 ·rw [← e]; exact zt h2 _
 have := yw (((w.alloc a).alloc b).alloc c) d
 rwa [World.size_alloc, World.size_alloc, World.size_alloc] at this
def zZ (a : F) : Value := .int .u8 (a.v : Int)
abbrev fk : Kd F := Kd.scalar zZ (fun _ => rfl)
def bs (p : List F) : List Int := p.map fun a => (a.v : Int)
theorem zx (p : List F) : (bs p).length = p.length := by simp [bs]
theorem zgp (p : List F) (i : Nat) : (bs p).getD i 0 = ((p.getD i 0).v : Int) := by
 unfold bs
 rw [List.getD_eq_getElem?_getD, List.getD_eq_getElem?_getD, List.getElem?_map]
 cases h : p[i]? <;> rfl
theorem zom (p : List F) (i : Nat) : rd (bs p) (i : Int) = ((p.getD i 0).v : Int) := by
 unfold rd
 rw [Int.toNat_natCast, zgp]
theorem Jz {w : World} {A : Option Addr} {n : Nat} {p : List F} : Kd.C u8 w A n (bs p) ↔ Kd.C fk w A n p := by
 constructor
 ·intro h
  have hr := Kd.reads_of_C (enc := Value.int .u8) (d := (0 : Int)) (h1 := fun _ => rfl) h
  refine Kd.C_of_reads (d := (0 : F)) ⟨by rw [← zx]; exact hr.1, hr.2.1, fun hn => ?_⟩
  obtain ⟨ad, e, hc⟩ := hr.2.2 hn
  exact ⟨ad, e, fun j hj => by rw [hc j hj, zgp]; rfl⟩
 intro h
 have hr := Kd.reads_of_C (enc := zZ) (d := (0 : F)) (h1 := fun _ => rfl) h
 refine Kd.C_of_reads (d := (0 : Int)) ⟨by rw [zx]; exact hr.1, hr.2.1, fun hn => ?_⟩
 obtain ⟨ad, e, hc⟩ := hr.2.2 hn
 exact ⟨ad, e, fun j hj => by rw [hc j hj, zgp]; rfl⟩
theorem ZV (w : World) (A : Option Addr) (n c : Nat) (p : List F) (hr : Kd.C fk w A n p) (hx : n ≤ 140737488355328) :
 Calls Try.prog 95 #[.slice A n c] w fun e w' => ∃ A' c', e = .returned (.slice A' n c') ∧ Kd.R fk 5 w' w.heap.size (fun _ => True) (.slice A' n c') p ∧ Below w.heap.size w w' := by
 obtain rfl : p.length = n := Kd.C_len hr
 cases A with
 | none =>
   have hl : p.length = 0 := by
    rcases Nat.eq_zero_or_pos p.length with h | h
    ·exact h
    obtain ⟨ad, e, _⟩ := hr.2.2 h; cases e
   have hxs : p = [] := List.eq_nil_of_length_eq_zero hl
   subst hxs
   have kq := fun W : World => Lib.run_eql_slice_nil (P := Try.prog) W 36 5 none 0 c 0 0 Try.underlying36
   go_enter Try.func95, Try.ntmps95
   go_wp2
   go_ret
   exact ⟨none, 0, rfl, Kd.R_nil _ _ _ _ _, Below.refl _ _⟩
 | some a =>
   have kq := fun W : World => Lib.run_eql_slice_nil (P := Try.prog) W 36 5 (some a) p.length c 0 0 Try.underlying36
   obtain ⟨v', w1, hrun, hq, hg, hat⟩ := zR (P := Try.prog) zZ (0 : F) (w.alloc (.cells #[] 5)) w.heap.size 36 36 5 _ 1 Try.underlying36 yJ rfl (c := c) (zdv fk 5 w w.heap.size (Nat.le_refl _)) (Kd.C_below hr (zc (Below.refl _ _) _)) (by simp; omega) (by omega) (by simp) (fun _ _ => trivial)
   obtain ⟨A', c', rfl⟩ := Kd.R_slice hq
   rw [List.nil_append] at hrun hq
   have hb : Below w.heap.size w w1 := (zc (Below.refl _ _) _).grown hg (by simp) (fun k hk => by
                                                                                                         have : k = w.heap.size := by simpa [Value.ownBlock] using hk.symm
                                                                                                         omega)
   have HT := za.mk (And.intro hq hb)
   have HR := za.mk hrun
   clear hrun hq hg hat hb hr
   go_enter Try.func95, Try.ntmps95
   go_wp2_with (at_builtin; refine zm rfl _ _ _ _ rfl rfl rfl HR.out ?_)
   go_ret
   exact ⟨A', c', rfl, HT.out.1, HT.out.2⟩
theorem zfA (p : List F) : p.take (zj p).length = zj p := by
 induction p with
 | nil => rfl
 | cons a p ih =>
   unfold zj
   cases h : zj p with
   | nil =>
     simp only
     split
     ·rfl
     simp
   | cons b q =>
     rw [h] at ih
     simp only [List.length_cons, List.take_succ_cons] at ih ⊢
     rw [ih]
theorem ZQ (a : Nat) (h : a ≤ 9223372036854775807) : wrap64 ((a : Int) - 1) = (a : Int) - 1 := by
 unfold wrap64; omega
theorem zkt (p : List F) (hl : p.length ≤ 1099511627776) (d : Nat) : ∀ (q : Nat), (zj p).length + d ≤ p.length → d < q → PDealSecret.poly_Degree.l0 q (bs p) (((zj p).length + d : Nat) - 1 : Int) = some (((zj p).length : Nat) - 1 : Int) := by
 induction d with
 | zero =>
   intro q _ hq
   obtain ⟨q, rfl⟩ : ∃ m, q = m + 1 := ⟨q - 1, by omega⟩
   simp only [PDealSecret.poly_Degree.l0]
   rcases Nat.eq_zero_or_pos (zj p).length with h0 | h0
   ·rw [h0, if_neg (by omega)]
   have hne : zj p ≠ [] := by intro e; rw [e] at h0; simp at h0
   have hla := ZX p hne
   rw [zY p] at hla
   have hle := yD p
   obtain ⟨m, hm⟩ : ∃ m, (zj p).length = m + 1 := ⟨(zj p).length - 1, by omega⟩
   rw [hm] at hla hle ⊢
   have e : ((m + 1 + 0 : Nat) - 1 : Int) = (m : Int) := by omega
   rw [e, if_pos (by omega), if_pos (by omega), zx, if_pos (by omega), zom, if_neg]
   intro h
   exact hla (F.ext (by
                      have : (p.getD m 0).v = 0 := by omega
                      exact this))
 | succ d ih =>
   intro q hle hq
   obtain ⟨q, rfl⟩ : ∃ m, q = m + 1 := ⟨q - 1, by omega⟩
   simp only [PDealSecret.poly_Degree.l0]
   have hz : cf p ((zj p).length + d) = 0 := by rw [← zY p]; exact zJ _ _ (by omega)
   have hz2 : (p.getD ((zj p).length + d) 0).v = 0 := congrArg F.v hz
   have ih := ih q (by omega) (by omega)
   generalize (zj p).length = m at *
   have e : ((m + (d + 1) : Nat) - 1 : Int) = ((m + d : Nat) : Int) := by omega
   rw [e, if_pos (by omega), if_pos (by omega), zx, if_pos (by omega), zom, hz2, if_pos (by rfl), ZQ _ (by omega)]
   exact ih
theorem JX (w : World) (A : Option Addr) (n c : Nat) (p : List F) (hC : Kd.C fk w A n p) (hc : n ≤ c) (hl : n ≤ 1099511627776) :
 Calls Try.prog 134 #[.slice A n c] w fun e w' => e = .returned (.int .i64 (((zj p).length : Int) - 1)) ∧ zq w w' := by
 have hn := Kd.C_len hC
 have hle := yD p
 have hd := zkt p (by omega) (p.length - (zj p).length) (p.length + 1) (by omega) (by omega)
 have hf : PDealSecret.poly_Degree.f (p.length + 1) (bs p) = some (((zj p).length : Int) - 1) := by
  unfold PDealSecret.poly_Degree.f
  rw [zx, ZQ _ (by omega)]
  rw [show (zj p).length + (p.length - (zj p).length) = p.length by omega] at hd
  exact hd
 have := PDealSecret.poly_Degree.calls _ A c (bs p) _ w (by rw [zx, hn]; exact Jz.2 hC) (by rw [zx, hn]; exact hc) hf
 rw [zx, hn] at this
 exact this
theorem zau (w : World) (A : Option Addr) (n c : Nat) (p : List F) (hC : Kd.C fk w A n p) (hc : n ≤ c) (hl : n ≤ 1099511627776) :
 Calls Try.prog 123 #[.slice A n c] w fun e w' => e = .returned (.slice A (zj p).length (zj p).length) ∧ zq w w' := by
 have hn := Kd.C_len hC
 have hle := yD p
 have HD := za.mk (JX w A n c p hC hc hl)
 obtain ⟨m, hm⟩ : ∃ m, m = (zj p).length := ⟨_, rfl⟩
 rw [← hm] at HD ⊢
 have hmn : m ≤ n := by omega
 obtain ⟨i5, hi5, _, _, _⟩ := info_parts yJ
 have kt := zie (P := Try.prog) 36 5 Try.underlying36 hi5 A n c m hmn hc
 have hmI : (m : Int) ≤ (n : Int) := by omega
 clear hm hle hn hC hi5
 go_enter Try.func123, Try.ntmps123
 go_wp2_with (first | (go_at_call 134; refine HD.out.mono ?_; rintro e w1 ⟨rfl, ⟨k, rfl⟩⟩) | (go_at_call 80; refine (zgF _ _ _ _ (by omega)).mono ?_; rintro e w1 ⟨rfl, rfl⟩))
 go_ret
 exact ⟨rfl, ⟨_, rfl⟩⟩
end Go.Proofs.Ytpeiejkcoadhfaa
