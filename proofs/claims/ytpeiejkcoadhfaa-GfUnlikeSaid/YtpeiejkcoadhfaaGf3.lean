/- The field's methods. -/
import Derived.Test.YtpeiejkcoadhfaaGf2
namespace Go.Proofs.Ytpeiejkcoadhfaa
open Go.RowKit Go.Shelf Go.Proofs.YtpeiejkcoadhfaaW.PrintWords

theorem L_lt (a : Nat) (ha : a < 256) : Gf.L a < 255 := by
  by_cases h : a = 0
  · subst h; decide +kernel
  · exact (Gf.E_L a ha h).2
theorem mul_EL (a b : Nat) (ha : a < 256) (hb : b < 256) (ha0 : a ≠ 0) (hb0 : b ≠ 0) : Gf.mulN a b = Gf.E ((Gf.L a + Gf.L b) % 255) := by
  have h1 := Gf.E_L a ha ha0
  have h2 := Gf.E_L b hb hb0
  have h3 := Gf.mul_E (Gf.L a) h1.2 (Gf.L b) h2.2
  rwa [h1.1, h2.1] at h3

theorem Fld.exp {w : World} {g : Nat} (h : Fld w g) (i : Nat) (hi : i < 510) : w.cell? ⟨g, i, none⟩ = some (.int .u8 (Gf.E (i % 255) : Nat)) := by
  obtain ⟨cs, hc, hcz, he, hl⟩ := h
  obtain ⟨v, hv, hv2⟩ := he i hi
  rw [hv2 (Nat.mod_lt _ (by omega))] at hv
  exact cell_at hc hv
theorem Fld.log {w : World} {g : Nat} (h : Fld w g) (a : Nat) (ha : a < 256) (h0 : a ≠ 0) : w.cell? ⟨g, 510 + a, none⟩ = some (.int .i64 (Gf.L a : Nat)) := by
  obtain ⟨cs, hc, hcz, he, hl⟩ := h
  obtain ⟨v, hv, hv2⟩ := hl a ha
  have h1 := Gf.E_L a ha h0
  rw [hv2 (Gf.L a) h1.2 h1.2 h1.1.symm] at hv
  exact cell_at hc hv
theorem Fld.fr {w W : World} {g : Nat} {S : Nat → Prop} (h : Fld w g) (hf : Fr S w W) (hg : ¬ S g) : Fld W g := by
  obtain ⟨cs, hc, h⟩ := h
  exact ⟨cs, hf.blk hc hg, h⟩
theorem Fld.drew {w : World} {g n : Nat} (h : Fld w g) : Fld (w.drewN n) g := h.fr ((Fr.refl (fun _ => False) w).drewN n) (fun h => h)

set_option maxRecDepth 100000 in
theorem Mul_any (w : World) (g a b : Nat) (hF : Fld w g) (ha : a < 256) (hb : b < 256) : Calls Try.prog 31 #[.pointer (some ⟨g, 0, none⟩), .int .u8 a, .int .u8 b] w fun e w' => e = .returned (.int .u8 (Gf.mulN a b : Nat)) ∧ Drawn0 w w' := by
  by_cases ha0 : a = 0
  · have hx := (Gf.mul_0 b hb).1
    rw [ha0, hx]
    clear hx hF
    go_enter Try.func31, Try.ntmps31
    go_wp2
    go_ret
    exact ⟨rfl, Drawn0.refl _⟩
  by_cases hb0 : b = 0
  · have hx := (Gf.mul_0 a ha).2
    rw [hb0, hx]
    have ha0' : ((a : Int) == 0) = false := by simpa using ha0
    clear hx hF
    go_enter Try.func31, Try.ntmps31
    go_wp2
    go_ret
    exact ⟨rfl, Drawn0.refl _⟩
  have h1 := L_lt a ha
  have h2 := L_lt b hb
  rw [mul_EL a b ha hb ha0 hb0]
  have c1 := hF.log a ha ha0
  have c2 := hF.log b hb hb0
  have c3 := hF.exp (Gf.L a + Gf.L b) (by omega)
  generalize Gf.E ((Gf.L a + Gf.L b) % 255) = v at *
  generalize Gf.L a = i at *
  generalize Gf.L b = j at *
  have ha0' : ((a : Int) == 0) = false := by simpa using ha0
  have hb0' : ((b : Int) == 0) = false := by simpa using hb0
  have hw : IntKind.i64.wrap ((i : Int) + (j : Int)) = (i : Int) + (j : Int) := IntWalk.i64_in _ ⟨by omega, by omega⟩
  have i1 : (0 : Int) ≤ (a : Int) := by omega
  have i2 : (a : Int) < 256 := by omega
  have i3 : (0 : Int) ≤ (b : Int) := by omega
  have i4 : (b : Int) < 256 := by omega
  have i5 : (0 : Int) ≤ (i : Int) + (j : Int) := by omega
  have i6 : (i : Int) + (j : Int) < 510 := by omega
  have i7 : ((i : Int) + (j : Int)).toNat = i + j := by omega
  clear hF ha0 hb0
  go_enter Try.func31, Try.ntmps31
  go_wp2
  go_big_quiet (fail)
  go_wp2
  go_ret
  exact ⟨rfl, ⟨⟨_, rfl⟩⟩⟩

def invN (a : Nat) : Nat := if a = 0 then 0 else Gf.E ((255 - Gf.L a) % 255)
theorem E_lt (i : Nat) : Gf.E i < 256 := Nat.mod_lt _ (by omega)
theorem invN_lt (a : Nat) : invN a < 256 := by
  unfold invN
  split
  · omega
  · exact E_lt _

set_option maxRecDepth 100000 in
theorem Inv_any (w : World) (g a : Nat) (hF : Fld w g) (ha : a < 256) : Calls Try.prog 32 #[.pointer (some ⟨g, 0, none⟩), .int .u8 a] w fun e w' => e = .returned (.tuple #[.int .u8 (invN a : Nat), .bool (decide (a ≠ 0))]) ∧ Drawn0 w w' := by
  by_cases ha0 : a = 0
  · subst ha0
    clear hF
    go_enter Try.func32, Try.ntmps32
    go_wp2
    go_ret2
    exact ⟨rfl, Drawn0.refl _⟩
  have h1 := L_lt a ha
  have hv : invN a = Gf.E ((255 - Gf.L a) % 255) := if_neg ha0
  have hd : decide (a ≠ 0) = true := decide_eq_true ha0
  rw [hv, hd]
  have c1 := hF.log a ha ha0
  have c3 := hF.exp (255 - Gf.L a) (by omega)
  generalize Gf.E ((255 - Gf.L a) % 255) = v at *
  generalize Gf.L a = i at *
  have ha0' : ((a : Int) == 0) = false := by simpa using ha0
  have hw : IntKind.i64.wrap (255 - (i : Int)) = 255 - (i : Int) := IntWalk.i64_in _ ⟨by omega, by omega⟩
  have i1 : (0 : Int) ≤ (a : Int) := by omega
  have i2 : (a : Int) < 256 := by omega
  have i5 : (0 : Int) ≤ 255 - (i : Int) := by omega
  have i6 : 255 - (i : Int) < 510 := by omega
  have i7 : (255 - (i : Int)).toNat = 255 - i := by omega
  clear hF ha0 hv hd
  go_enter Try.func32, Try.ntmps32
  go_wp2
  go_big_quiet (fail)
  go_wp2
  go_ret2
  exact ⟨rfl, ⟨⟨_, rfl⟩⟩⟩

set_option maxRecDepth 100000 in
theorem Div_any (w : World) (g a b : Nat) (hF : Fld w g) (ha : a < 256) (hb : b < 256) : Calls Try.prog 33 #[.pointer (some ⟨g, 0, none⟩), .int .u8 a, .int .u8 b] w fun e w' =>
    e = .returned (.tuple #[.int .u8 (Gf.mulN a (invN b) : Nat), .bool (decide (b ≠ 0))]) ∧ Drawn0 w w' := by
  have hI := Inv_any w g b hF hb
  have hv := invN_lt b
  have hM : ∀ n, Calls Try.prog 31 #[.pointer (some ⟨g, 0, none⟩), .int .u8 a, .int .u8 (invN b : Nat)] (w.drewN n) fun e w' => e = .returned (.int .u8 (Gf.mulN a (invN b) : Nat)) ∧ Drawn0 (w.drewN n) w' := fun n => Mul_any _ g a (invN b) hF.drew ha hv
  generalize Gf.mulN a (invN b) = q at *
  generalize invN b = v at *
  generalize decide (b ≠ 0) = ok at *
  have HI := Aside0.mk hI
  have HM := Aside0.mk hM
  clear hI hM hF
  go_enter Try.func33, Try.ntmps33
  go_wp2_with (first | (go_at_call 32; refine HI.out.mono ?_; rintro e w' ⟨rfl, ⟨⟨n, rfl⟩⟩⟩) | (go_at_call 31; refine (HM.out _).mono ?_; rintro e w' ⟨rfl, ⟨⟨n', rfl⟩⟩⟩))
  go_ret2
  exact ⟨rfl, ⟨⟨_, rfl⟩⟩⟩

def powI (a : Nat) (n : Int) : Nat := if n = 0 then 1 else if a = 0 then 0 else Gf.E (n * (Gf.L a : Int) % 255).toNat
theorem powI_lt (a : Nat) (n : Int) : powI a n < 256 := by
  unfold powI
  split
  · omega
  · split
    · omega
    · exact E_lt _

set_option maxRecDepth 100000 in
theorem Pow_any (w : World) (g a : Nat) (n : Int) (hF : Fld w g) (ha : a < 256) : Calls Try.prog 29 #[.pointer (some ⟨g, 0, none⟩), .int .u8 a, .int .i64 n] w fun e w' =>
    e = .returned (.int .u8 (powI a n : Nat)) ∧ w = w' := by
  by_cases hn : n = 0
  · subst hn
    clear hF
    go_enter Try.func29, Try.ntmps29
    go_wp2
    go_ret
    exact ⟨rfl, rfl⟩
  have hn' : (n == 0) = false := by simpa using hn
  by_cases ha0 : a = 0
  · have hv : powI a n = 0 := by simp [powI, hn, ha0]
    rw [hv, ha0]
    clear hF hv ha0 hn
    go_enter Try.func29, Try.ntmps29
    go_wp2
    go_ret
    exact ⟨rfl, rfl⟩
  have ha0' : ((a : Int) == 0) = false := by simpa using ha0
  have h1 := L_lt a ha
  have hv : powI a n = Gf.E (n * (Gf.L a : Int) % 255).toNat := by simp [powI, hn, ha0]
  rw [hv]
  have c1 := hF.log a ha ha0
  obtain ⟨k, hk⟩ : ∃ k : Nat, k = (n * (Gf.L a : Int) % 255).toNat := ⟨_, rfl⟩
  have hk2 : k < 255 := by rw [hk]; omega
  have c3 := hF.exp k (by omega)
  rw [Nat.mod_eq_of_lt hk2] at c3
  rw [← hk]
  have hkI : (k : Int) = n * (Gf.L a : Int) % 255 := by rw [hk]; omega
  generalize Gf.E k = v at *
  generalize Gf.L a = i at *
  obtain ⟨r, hr⟩ : ∃ r, r = n.tmod 255 := ⟨_, rfl⟩
  have hr1 : -255 < r ∧ r < 255 := by
    rw [hr]
    have h1 := Int.tmod_lt_of_pos n (b := 255) (by omega)
    have h2 := Int.tmod_lt_of_pos (-n) (b := 255) (by omega)
    rw [Int.neg_tmod] at h2
    omega
  have hp : -65000 < r * (i : Int) ∧ r * (i : Int) < 65025 := by
    constructor
    · have := Int.mul_le_mul_of_nonneg_right (a := -254) (b := r) (c := (i : Int)) (by omega) (by omega)
      omega
    · have := Int.mul_le_mul_of_nonneg_right (a := r) (b := 254) (c := (i : Int)) (by omega) (by omega)
      omega
  have hw : IntKind.i64.wrap (r * (i : Int)) = r * (i : Int) := IntWalk.i64_in _ ⟨by omega, by omega⟩
  have hmod : (r * (i : Int)) % 255 = (k : Int) := by
    have h3 : r * (i : Int) = n * (i : Int) - 255 * (n.tdiv 255 * (i : Int)) := by
      rw [hr, Int.tmod_def, Int.sub_mul, Int.mul_assoc]
    rw [h3, hkI]
    omega
  obtain ⟨s, hs⟩ : ∃ s, s = (r * (i : Int)).tmod 255 := ⟨_, rfl⟩
  have hs1 : s = if r * (i : Int) < 0 then -(-(r * (i : Int)) % 255) else r * (i : Int) % 255 := by
    rw [hs]
    split
    · rename_i h
      have h3 : r * (i : Int) = -(-(r * (i : Int))) := by omega
      rw [h3, Int.neg_tmod, Int.tmod_eq_emod_of_nonneg (by omega)]
      simp
    · rename_i h
      rw [Int.tmod_eq_emod_of_nonneg (by omega)]
  obtain ⟨p, hpp⟩ : ∃ p, p = r * (i : Int) := ⟨_, rfl⟩
  rw [← hpp] at hp hw hmod hs hs1
  have hb : s = k ∨ s = (k : Int) - 255 := by
    rw [hs1]; split <;> omega
  have hneg : s < 0 ↔ ¬ s = k := by constructor <;> omega
  have i1 : (0 : Int) ≤ (a : Int) := by omega
  have i2 : (a : Int) < 256 := by omega
  have i3 : (0 : Int) ≤ (k : Int) := by omega
  have i4 : (k : Int) < 510 := by omega
  clear hF ha0 hkI hmod hs1 hv hk hn
  have HP := Aside0.mk hp
  have HR := Aside0.mk hr1
  have hq : n.tmod 255 * (i : Int) = p := by rw [← hr, ← hpp]
  have f1 : (wrap64 (n.tmod 255 * (i : Int))).tmod 255 = s := by rw [hq, IntWalk.wrap64_in _ ⟨by omega, by omega⟩, hs]
  clear hq hpp hr hw hs hp hr1 HP HR
  by_cases hsk : s = k
  · have hlt : ¬ (k : Int) < 0 := by omega
    rw [hsk] at f1
    clear hb hneg hsk
    go_enter Try.func29, Try.ntmps29
    go_wp2
    go_ret
    exact ⟨rfl, rfl⟩
  · have hs2 : s = (k : Int) - 255 := by omega
    have hlt : (k : Int) - 255 < 0 := by omega
    have f2 : wrap64 ((k : Int) - 255 + 255) = k := by rw [IntWalk.wrap64_in _ ⟨by omega, by omega⟩]; omega
    rw [hs2] at f1
    clear hb hneg hsk hs2
    go_enter Try.func29, Try.ntmps29
    go_wp2
    go_ret
    exact ⟨rfl, rfl⟩
end Go.Proofs.Ytpeiejkcoadhfaa
