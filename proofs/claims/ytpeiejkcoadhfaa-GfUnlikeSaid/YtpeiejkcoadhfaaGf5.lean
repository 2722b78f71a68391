/- The five laws of layer 1, walked. -/
import Derived.Test.YtpeiejkcoadhfaaGf4
namespace Go.Proofs.Ytpeiejkcoadhfaa
open Go.RowKit Go.Shelf Go.Proofs.YtpeiejkcoadhfaaW.PrintWords

theorem u8_nat {a : Int} (h : (Lit.int .u8 a).wf = true) : ∃ n : Nat, a = (n : Int) ∧ n < 256 := by
  have h1 : 0 ≤ a ∧ a ≤ 255 := by simpa [Lit.wf, IntKind.min, IntKind.max, IntKind.signed, IntKind.bits] using h
  exact ⟨a.toNat, by omega, by omega⟩
theorem i64_bounds {a : Int} (h : (Lit.int .i64 a).wf = true) : -9223372036854775808 ≤ a ∧ a ≤ 9223372036854775807 := by
  simpa [Lit.wf, IntKind.min, IntKind.max, IntKind.signed, IntKind.bits] using h
theorem i16_bounds {a : Int} (h : (Lit.int .i16 a).wf = true) : -32768 ≤ a ∧ a ≤ 32767 := by
  simpa [Lit.wf, IntKind.min, IntKind.max, IntKind.signed, IntKind.bits] using h
theorem div_mul (a c : Nat) (ha : a < 256) (hc : c < 256) (h0 : c ≠ 0) : Gf.mulN (Gf.mulN a c) (invN c) = a := by
  rw [mul_assoc' a c _ ha hc (invN_lt c), mul_one_inv c hc h0, mul_one' a ha]
theorem mul_div (b a : Nat) (hb : b < 256) (ha : a < 256) (h0 : a ≠ 0) : Gf.mulN (Gf.mulN b (invN a)) a = b := by
  rw [mul_assoc' b _ a hb (invN_lt a) ha, mul_comm' _ a (invN_lt a) ha, mul_one_inv a ha h0, mul_one' b hb]
theorem powI_E (a : Nat) (n : Int) (h0 : a ≠ 0) : powI a n = Gf.E (n * (Gf.L a : Int) % 255).toNat := by
  unfold powI
  split
  · rename_i h; rw [h]; simp [E_zero]
  · rfl
theorem powI_add (a : Nat) (n m : Int) (h0 : a ≠ 0) : Gf.mulN (powI a n) (powI a m) = powI a (n + m) := by
  rw [powI_E a n h0, powI_E a m h0, powI_E a _ h0]
  have h1 : (n * (Gf.L a : Int) % 255).toNat < 255 := by omega
  have h2 : (m * (Gf.L a : Int) % 255).toNat < 255 := by omega
  rw [Gf.mul_E _ h1 _ h2, Int.add_mul]
  congr 1
  omega
theorem pow255 (a : Nat) (h0 : a ≠ 0) : powI a 255 = 1 := by
  rw [powI_E a _ h0, show (255 * (Gf.L a : Int) % 255).toNat = 0 by omega, E_zero]

set_option maxRecDepth 100000 in
set_option maxHeartbeats 1600000 in
theorem pows_law (w : World) (a : Int) (ha : (Lit.int .u8 a).wf = true) (n : Int) (hn : (Lit.int .i64 n).wf = true) :
    Calls Try.prog 3 #[.int .u8 a, .int .i64 n] w fun e w' => e = .returned (.bool true) ∧ Below w.heap.size w w' := by
  obtain ⟨a, rfl, ba⟩ := u8_nat ha
  replace ha := ba
  clear ba
  replace hn := i64_bounds hn
  obtain ⟨v, hv⟩ : ∃ v, v = powI a n := ⟨_, rfl⟩
  have HC : Aside0 (∀ (g : Nat) (W1 : World), Fld W1 g → Ct W1 27 #[] (.bool true) ∧ Ct W1 29 #[.pointer (some ⟨g, 0, none⟩), .int .u8 a, .int .i64 n] (.int .u8 (v : Nat)) ∧ Ct W1 30 #[.int .u8 a, .int .i64 n] (.int .u8 (v : Nat))) :=
    Aside0.mk fun g W1 hF => ⟨answers01 W1, (ct_pow hF a n ha).as (by rw [hv]), (ct_rpow W1 a n ha hn).as (by rw [hv])⟩
  have hN := Aside0.mk (New_any)
  have c0 := answers01 w
  have hf0 := Fr.refl (fun _ => False) w
  have hfr := Fr.refl (fun _ => False) w
  clear hv hn
  go_enter Try.func3, Try.ntmps3
  go_wp2_with (first
    | (go_at_call 28; refine (hN.out _).mono ?_; rintro e W' ⟨g, rfl, -, -, hF, hf⟩; obtain ⟨c0, c1, c2⟩ := HC.out g W' hF; replace hf0 := (hf0.trans' hfr).trans' hf; replace hfr := Fr.refl (fun _ => False) W'; clear hF hf)
    | (go_at_call 27; with_reducible refine c0.use hfr ?_; rintro W' hf; replace hfr := hfr.trans' hf; clear hf)
    | (go_at_call 29; with_reducible refine c1.use hfr ?_; rintro W' hf; replace hfr := hfr.trans' hf; clear hf)
    | (go_at_call 30; with_reducible refine c2.use hfr ?_; rintro W' hf; replace hfr := hfr.trans' hf; clear hf))
  go_ret
  exact ⟨rfl, (hf0.trans' hfr).f_below⟩

set_option maxRecDepth 100000 in
set_option maxHeartbeats 1600000 in
theorem muls_law (w : World) (a : Int) (ha : (Lit.int .u8 a).wf = true) (b : Int) (hb : (Lit.int .u8 b).wf = true) :
    Calls Try.prog 6 #[.int .u8 a, .int .u8 b] w fun e w' => e = .returned (.bool true) ∧ Below w.heap.size w w' := by
  obtain ⟨b, rfl, bb⟩ := u8_nat hb
  replace hb := bb
  clear bb
  by_cases h0 : a = 0
  · subst h0
    clear ha
    have HC : Aside0 (∀ (g : Nat) (W1 : World), Fld W1 g → Ct W1 27 #[] (.bool true) ∧ Ct W1 32 #[.pointer (some ⟨g, 0, none⟩), .int .u8 0] (.tuple #[.int .u8 0, .bool false]) ∧ Ct W1 33 #[.pointer (some ⟨g, 0, none⟩), .int .u8 b, .int .u8 0] (.tuple #[.int .u8 0, .bool false]) ∧ Ct W1 31 #[.pointer (some ⟨g, 0, none⟩), .int .u8 0, .int .u8 b] (.int .u8 0)) :=
      Aside0.mk fun g W1 hF => ⟨answers01 W1, (ct_inv hF 0 (by omega)).as (by rw [show invN 0 = 0 from rfl]; rfl), (ct_div hF b 0 hb (by omega)).as (by rw [show invN 0 = 0 from rfl, (Gf.mul_0 b hb).2]; rfl), (ct_mul hF 0 b (by omega) hb).as (by rw [(Gf.mul_0 b hb).1]; rfl)⟩
    have hN := Aside0.mk (New_any)
    have c0 := answers01 w
    have hf0 := Fr.refl (fun _ => False) w
    have hfr := Fr.refl (fun _ => False) w
    go_enter Try.func6, Try.ntmps6
    go_wp2_with (first
      | (go_at_call 28; refine (hN.out _).mono ?_; rintro e W' ⟨g, rfl, -, -, hF, hf⟩; obtain ⟨c0, c1, c2, c3⟩ := HC.out g W' hF; replace hf0 := (hf0.trans' hfr).trans' hf; replace hfr := Fr.refl (fun _ => False) W'; clear hF hf)
      | (go_at_call 27; with_reducible refine c0.use hfr ?_; rintro W' hf; replace hfr := hfr.trans' hf; clear hf)
      | (go_at_call 32; with_reducible refine c1.use hfr ?_; rintro W' hf; replace hfr := hfr.trans' hf; clear hf)
      | (go_at_call 33; with_reducible refine c2.use hfr ?_; rintro W' hf; replace hfr := hfr.trans' hf; clear hf)
      | (go_at_call 31; with_reducible refine c3.use hfr ?_; rintro W' hf; replace hfr := hfr.trans' hf; clear hf))
    go_ret
    exact ⟨rfl, (hf0.trans' hfr).f_below⟩
  obtain ⟨a, rfl, ba⟩ := u8_nat ha
  replace ha := ba
  clear ba
  have h1 : a ≠ 0 := by omega
  obtain ⟨v, hv⟩ : ∃ v, v = invN a := ⟨_, rfl⟩
  obtain ⟨q, hq⟩ : ∃ q, q = Gf.mulN b (invN a) := ⟨_, rfl⟩
  obtain ⟨m, hm⟩ : ∃ m, m = Gf.mulN a b := ⟨_, rfl⟩
  have hd : decide (a ≠ 0) = true := decide_eq_true h1
  have hq2 : q < 256 := by rw [hq]; exact mulN_lt b _ hb (invN_lt a)
  have HC : Aside0 (∀ (g : Nat) (W1 : World), Fld W1 g → Ct W1 27 #[] (.bool true) ∧ Ct W1 32 #[.pointer (some ⟨g, 0, none⟩), .int .u8 a] (.tuple #[.int .u8 v, .bool true]) ∧ Ct W1 33 #[.pointer (some ⟨g, 0, none⟩), .int .u8 b, .int .u8 a] (.tuple #[.int .u8 q, .bool true]) ∧ Ct W1 31 #[.pointer (some ⟨g, 0, none⟩), .int .u8 a, .int .u8 b] (.int .u8 m) ∧ Ct W1 34 #[.int .u8 a, .int .u8 b] (.int .u8 m) ∧ Ct W1 34 #[.int .u8 q, .int .u8 a] (.int .u8 b) ∧ Ct W1 35 #[.int .u8 a] (.int .u8 v)) :=
    Aside0.mk fun g W1 hF => ⟨answers01 W1, (ct_inv hF a ha).as (by rw [hv, hd]), (ct_div hF b a hb ha).as (by rw [hq, hd]), (ct_mul hF a b ha hb).as (by rw [hm]), (ct_rmul W1 a b ha hb).as (by rw [hm]), (ct_rmul W1 q a hq2 ha).as (by rw [hq, mul_div b a hb ha h1]), (ct_rinv W1 a ha h1).as (by rw [hv])⟩
  have hN := Aside0.mk (New_any)
  have c0 := answers01 w
  have hf0 := Fr.refl (fun _ => False) w
  have hfr := Fr.refl (fun _ => False) w
  have h2 : ((a : Int) == 0) = false := by simpa using h1
  clear hv hq hm hd h0 h1 hq2
  go_enter Try.func6, Try.ntmps6
  go_wp2_with (first
    | (go_at_call 28; refine (hN.out _).mono ?_; rintro e W' ⟨g, rfl, -, -, hF, hf⟩; obtain ⟨c0, c1, c2, c3, c4, c5, c6⟩ := HC.out g W' hF; replace hf0 := (hf0.trans' hfr).trans' hf; replace hfr := Fr.refl (fun _ => False) W'; clear hF hf)
    | (go_at_call 27; with_reducible refine c0.use hfr ?_; rintro W' hf; replace hfr := hfr.trans' hf; clear hf)
    | (go_at_call 32; with_reducible refine c1.use hfr ?_; rintro W' hf; replace hfr := hfr.trans' hf; clear hf)
    | (go_at_call 33; with_reducible refine c2.use hfr ?_; rintro W' hf; replace hfr := hfr.trans' hf; clear hf)
    | (go_at_call 31; with_reducible refine c3.use hfr ?_; rintro W' hf; replace hfr := hfr.trans' hf; clear hf)
    | (go_at_call 34; (first | with_reducible refine c4.use hfr ?_ | with_reducible refine c5.use hfr ?_); rintro W' hf; replace hfr := hfr.trans' hf; clear hf)
    | (go_at_call 35; with_reducible refine c6.use hfr ?_; rintro W' hf; replace hfr := hfr.trans' hf; clear hf))
  go_ret
  exact ⟨rfl, (hf0.trans' hfr).f_below⟩

set_option maxRecDepth 100000 in
set_option maxHeartbeats 1600000 in
theorem laws_law (w : World) (a : Int) (ha : (Lit.int .u8 a).wf = true) (b : Int) (hb : (Lit.int .u8 b).wf = true) (c : Int) (hc : (Lit.int .u8 c).wf = true) :
    Calls Try.prog 4 #[.int .u8 a, .int .u8 b, .int .u8 c] w fun e w' => e = .returned (.bool true) ∧ Below w.heap.size w w' := by
  obtain ⟨a, rfl, ba⟩ := u8_nat ha
  replace ha := ba
  clear ba
  obtain ⟨b, rfl, bb⟩ := u8_nat hb
  replace hb := bb
  clear bb
  obtain ⟨c, rfl, bc⟩ := u8_nat hc
  replace hc := bc
  clear bc
  obtain ⟨ab, hab⟩ : ∃ v, v = Gf.mulN a b := ⟨_, rfl⟩
  obtain ⟨bc, hbc⟩ : ∃ v, v = Gf.mulN b c := ⟨_, rfl⟩
  obtain ⟨ac, hac⟩ : ∃ v, v = Gf.mulN a c := ⟨_, rfl⟩
  obtain ⟨d, hd⟩ : ∃ v, v = b ^^^ c := ⟨_, rfl⟩
  obtain ⟨ad, had⟩ : ∃ v, v = Gf.mulN a d := ⟨_, rfl⟩
  obtain ⟨abc, habc⟩ : ∃ v, v = Gf.mulN a bc := ⟨_, rfl⟩
  have hab2 : ab < 256 := by rw [hab]; exact mulN_lt a b ha hb
  have hbc2 : bc < 256 := by rw [hbc]; exact mulN_lt b c hb hc
  have hac2 : ac < 256 := by rw [hac]; exact mulN_lt a c ha hc
  have hd2 : d < 256 := by rw [hd]; exact Nat.xor_lt_two_pow (n := 8) hb hc
  by_cases h0 : a = 0
  · have z1 : ((ab : Int) == 0) = true := by rw [hab, h0, (Gf.mul_0 b hb).1]; rfl
    have z2 : ((a : Int) == 0) = true := by rw [h0]; rfl
    have HC : Aside0 (∀ (g : Nat) (W1 : World), Fld W1 g → Ct W1 27 #[] (.bool true) ∧ Ct W1 31 #[.pointer (some ⟨g, 0, none⟩), .int .u8 a, .int .u8 b] (.int .u8 ab) ∧ Ct W1 31 #[.pointer (some ⟨g, 0, none⟩), .int .u8 b, .int .u8 a] (.int .u8 ab) ∧ Ct W1 31 #[.pointer (some ⟨g, 0, none⟩), .int .u8 b, .int .u8 c] (.int .u8 bc) ∧ Ct W1 31 #[.pointer (some ⟨g, 0, none⟩), .int .u8 a, .int .u8 bc] (.int .u8 abc) ∧ Ct W1 31 #[.pointer (some ⟨g, 0, none⟩), .int .u8 ab, .int .u8 c] (.int .u8 abc) ∧ Ct W1 31 #[.pointer (some ⟨g, 0, none⟩), .int .u8 a, .int .u8 d] (.int .u8 ad) ∧ Ct W1 31 #[.pointer (some ⟨g, 0, none⟩), .int .u8 a, .int .u8 c] (.int .u8 ac) ∧ Ct W1 31 #[.pointer (some ⟨g, 0, none⟩), .int .u8 a, .int .u8 1] (.int .u8 a)) :=
      Aside0.mk fun g W1 hF => ⟨answers01 W1, (ct_mul hF a b ha hb).as (by rw [hab]), (ct_mul hF b a hb ha).as (by rw [hab, mul_comm' a b ha hb]), (ct_mul hF b c hb hc).as (by rw [hbc]), (ct_mul hF a bc ha hbc2).as (by rw [habc]), (ct_mul hF ab c hab2 hc).as (by rw [habc, hab, hbc, mul_assoc' a b c ha hb hc]), (ct_mul hF a d ha hd2).as (by rw [had]), (ct_mul hF a c ha hc).as (by rw [hac]), (ct_mul hF a 1 ha (by omega)).as (by rw [mul_one' a ha])⟩
    have hN := Aside0.mk (New_any)
    have c0 := answers01 w
    have hf0 := Fr.refl (fun _ => False) w
    have hfr := Fr.refl (fun _ => False) w
    have x1 : bits .xor .u8 (b : Int) (c : Int) = (d : Int) := by rw [hd]; exact u8_xor b c hb hc
    have x2 : bits .xor .u8 (ab : Int) (ac : Int) = (ad : Int) := by rw [u8_xor ab ac hab2 hac2, had, hab, hac, hd, mul_xor_r a b c ha hb hc]
    clear h0
    clear hab hbc habc had hac hd hab2 hbc2 hac2 hd2
    go_enter Try.func4, Try.ntmps4
    go_wp2_with (first
      | (go_at_call 28; refine (hN.out _).mono ?_; rintro e W' ⟨g, rfl, -, -, hF, hf⟩; obtain ⟨c0, c1, c2, c3, c4, c5, c6, c7, c8⟩ := HC.out g W' hF; replace hf0 := (hf0.trans' hfr).trans' hf; replace hfr := Fr.refl (fun _ => False) W'; clear hF hf)
      | (go_at_call 27; with_reducible refine c0.use hfr ?_; rintro W' hf; replace hfr := hfr.trans' hf; clear hf)
      | (go_at_call 31; (first | with_reducible refine c1.use hfr ?_ | with_reducible refine c2.use hfr ?_ | with_reducible refine c3.use hfr ?_ | with_reducible refine c4.use hfr ?_ | with_reducible refine c5.use hfr ?_ | with_reducible refine c6.use hfr ?_ | with_reducible refine c7.use hfr ?_ | with_reducible refine c8.use hfr ?_); rintro W' hf; replace hfr := hfr.trans' hf; clear hf))
    go_ret
    exact ⟨rfl, (hf0.trans' hfr).f_below⟩
  by_cases h1 : b = 0
  · have z1 : ((ab : Int) == 0) = true := by rw [hab, h1, (Gf.mul_0 a ha).2]; rfl
    have z2 : ((a : Int) == 0) = false := by simpa using h0
    have z3 : ((b : Int) == 0) = true := by rw [h1]; rfl
    have HC : Aside0 (∀ (g : Nat) (W1 : World), Fld W1 g → Ct W1 27 #[] (.bool true) ∧ Ct W1 31 #[.pointer (some ⟨g, 0, none⟩), .int .u8 a, .int .u8 b] (.int .u8 ab) ∧ Ct W1 31 #[.pointer (some ⟨g, 0, none⟩), .int .u8 b, .int .u8 a] (.int .u8 ab) ∧ Ct W1 31 #[.pointer (some ⟨g, 0, none⟩), .int .u8 b, .int .u8 c] (.int .u8 bc) ∧ Ct W1 31 #[.pointer (some ⟨g, 0, none⟩), .int .u8 a, .int .u8 bc] (.int .u8 abc) ∧ Ct W1 31 #[.pointer (some ⟨g, 0, none⟩), .int .u8 ab, .int .u8 c] (.int .u8 abc) ∧ Ct W1 31 #[.pointer (some ⟨g, 0, none⟩), .int .u8 a, .int .u8 d] (.int .u8 ad) ∧ Ct W1 31 #[.pointer (some ⟨g, 0, none⟩), .int .u8 a, .int .u8 c] (.int .u8 ac) ∧ Ct W1 31 #[.pointer (some ⟨g, 0, none⟩), .int .u8 a, .int .u8 1] (.int .u8 a)) :=
      Aside0.mk fun g W1 hF => ⟨answers01 W1, (ct_mul hF a b ha hb).as (by rw [hab]), (ct_mul hF b a hb ha).as (by rw [hab, mul_comm' a b ha hb]), (ct_mul hF b c hb hc).as (by rw [hbc]), (ct_mul hF a bc ha hbc2).as (by rw [habc]), (ct_mul hF ab c hab2 hc).as (by rw [habc, hab, hbc, mul_assoc' a b c ha hb hc]), (ct_mul hF a d ha hd2).as (by rw [had]), (ct_mul hF a c ha hc).as (by rw [hac]), (ct_mul hF a 1 ha (by omega)).as (by rw [mul_one' a ha])⟩
    have hN := Aside0.mk (New_any)
    have c0 := answers01 w
    have hf0 := Fr.refl (fun _ => False) w
    have hfr := Fr.refl (fun _ => False) w
    have x1 : bits .xor .u8 (b : Int) (c : Int) = (d : Int) := by rw [hd]; exact u8_xor b c hb hc
    have x2 : bits .xor .u8 (ab : Int) (ac : Int) = (ad : Int) := by rw [u8_xor ab ac hab2 hac2, had, hab, hac, hd, mul_xor_r a b c ha hb hc]
    clear h0 h1
    clear hab hbc habc had hac hd hab2 hbc2 hac2 hd2
    go_enter Try.func4, Try.ntmps4
    go_wp2_with (first
      | (go_at_call 28; refine (hN.out _).mono ?_; rintro e W' ⟨g, rfl, -, -, hF, hf⟩; obtain ⟨c0, c1, c2, c3, c4, c5, c6, c7, c8⟩ := HC.out g W' hF; replace hf0 := (hf0.trans' hfr).trans' hf; replace hfr := Fr.refl (fun _ => False) W'; clear hF hf)
      | (go_at_call 27; with_reducible refine c0.use hfr ?_; rintro W' hf; replace hfr := hfr.trans' hf; clear hf)
      | (go_at_call 31; (first | with_reducible refine c1.use hfr ?_ | with_reducible refine c2.use hfr ?_ | with_reducible refine c3.use hfr ?_ | with_reducible refine c4.use hfr ?_ | with_reducible refine c5.use hfr ?_ | with_reducible refine c6.use hfr ?_ | with_reducible refine c7.use hfr ?_ | with_reducible refine c8.use hfr ?_); rintro W' hf; replace hfr := hfr.trans' hf; clear hf))
    go_ret
    exact ⟨rfl, (hf0.trans' hfr).f_below⟩
  have z0 := mul_ne a b ha hb h0 h1
  rw [← hab] at z0
  have z1 : ((ab : Int) == 0) = false := by simpa using z0
  have z2 : ((a : Int) == 0) = false := by simpa using h0
  have z3 : ((b : Int) == 0) = false := by simpa using h1
  have HC : Aside0 (∀ (g : Nat) (W1 : World), Fld W1 g → Ct W1 27 #[] (.bool true) ∧ Ct W1 31 #[.pointer (some ⟨g, 0, none⟩), .int .u8 a, .int .u8 b] (.int .u8 ab) ∧ Ct W1 31 #[.pointer (some ⟨g, 0, none⟩), .int .u8 b, .int .u8 a] (.int .u8 ab) ∧ Ct W1 31 #[.pointer (some ⟨g, 0, none⟩), .int .u8 b, .int .u8 c] (.int .u8 bc) ∧ Ct W1 31 #[.pointer (some ⟨g, 0, none⟩), .int .u8 a, .int .u8 bc] (.int .u8 abc) ∧ Ct W1 31 #[.pointer (some ⟨g, 0, none⟩), .int .u8 ab, .int .u8 c] (.int .u8 abc) ∧ Ct W1 31 #[.pointer (some ⟨g, 0, none⟩), .int .u8 a, .int .u8 d] (.int .u8 ad) ∧ Ct W1 31 #[.pointer (some ⟨g, 0, none⟩), .int .u8 a, .int .u8 c] (.int .u8 ac) ∧ Ct W1 31 #[.pointer (some ⟨g, 0, none⟩), .int .u8 a, .int .u8 1] (.int .u8 a)) :=
    Aside0.mk fun g W1 hF => ⟨answers01 W1, (ct_mul hF a b ha hb).as (by rw [hab]), (ct_mul hF b a hb ha).as (by rw [hab, mul_comm' a b ha hb]), (ct_mul hF b c hb hc).as (by rw [hbc]), (ct_mul hF a bc ha hbc2).as (by rw [habc]), (ct_mul hF ab c hab2 hc).as (by rw [habc, hab, hbc, mul_assoc' a b c ha hb hc]), (ct_mul hF a d ha hd2).as (by rw [had]), (ct_mul hF a c ha hc).as (by rw [hac]), (ct_mul hF a 1 ha (by omega)).as (by rw [mul_one' a ha])⟩
  have hN := Aside0.mk (New_any)
  have c0 := answers01 w
  have hf0 := Fr.refl (fun _ => False) w
  have hfr := Fr.refl (fun _ => False) w
  have x1 : bits .xor .u8 (b : Int) (c : Int) = (d : Int) := by rw [hd]; exact u8_xor b c hb hc
  have x2 : bits .xor .u8 (ab : Int) (ac : Int) = (ad : Int) := by rw [u8_xor ab ac hab2 hac2, had, hab, hac, hd, mul_xor_r a b c ha hb hc]
  clear h0 h1 z0
  clear hab hbc habc had hac hd hab2 hbc2 hac2 hd2
  go_enter Try.func4, Try.ntmps4
  go_wp2_with (first
    | (go_at_call 28; refine (hN.out _).mono ?_; rintro e W' ⟨g, rfl, -, -, hF, hf⟩; obtain ⟨c0, c1, c2, c3, c4, c5, c6, c7, c8⟩ := HC.out g W' hF; replace hf0 := (hf0.trans' hfr).trans' hf; replace hfr := Fr.refl (fun _ => False) W'; clear hF hf)
    | (go_at_call 27; with_reducible refine c0.use hfr ?_; rintro W' hf; replace hfr := hfr.trans' hf; clear hf)
    | (go_at_call 31; (first | with_reducible refine c1.use hfr ?_ | with_reducible refine c2.use hfr ?_ | with_reducible refine c3.use hfr ?_ | with_reducible refine c4.use hfr ?_ | with_reducible refine c5.use hfr ?_ | with_reducible refine c6.use hfr ?_ | with_reducible refine c7.use hfr ?_ | with_reducible refine c8.use hfr ?_); rintro W' hf; replace hfr := hfr.trans' hf; clear hf))
  go_ret
  exact ⟨rfl, (hf0.trans' hfr).f_below⟩

set_option maxRecDepth 100000 in
set_option maxHeartbeats 1600000 in
theorem order_law (w : World) (a : Int) (ha : (Lit.int .u8 a).wf = true) (n : Int) (hn : (Lit.int .i16 n).wf = true) (m : Int) (hm : (Lit.int .i16 m).wf = true) :
    Calls Try.prog 5 #[.int .u8 a, .int .i16 n, .int .i16 m] w fun e w' => e = .returned (.bool true) ∧ Below w.heap.size w w' := by
  replace hn := i16_bounds hn
  replace hm := i16_bounds hm
  have s0 : wrap64 n = n := IntWalk.wrap64_in _ ⟨by omega, by omega⟩
  have s1 : wrap64 m = m := IntWalk.wrap64_in _ ⟨by omega, by omega⟩
  have s2 : wrap64 (n + m) = n + m := IntWalk.wrap64_in _ ⟨by omega, by omega⟩
  by_cases h0 : a = 0
  · subst h0
    clear ha
    obtain ⟨v, hv⟩ : ∃ v, v = powI 0 n := ⟨_, rfl⟩
    have HC : Aside0 (∀ (g : Nat) (W1 : World), Fld W1 g → Ct W1 27 #[] (.bool true) ∧ Ct W1 29 #[.pointer (some ⟨g, 0, none⟩), .int .u8 0, .int .i64 n] (.int .u8 (v : Nat)) ∧ Ct W1 30 #[.int .u8 0, .int .i64 n] (.int .u8 (v : Nat))) :=
      Aside0.mk fun g W1 hF => ⟨answers01 W1, (ct_pow hF 0 n (by omega)).as (by rw [hv]), (ct_rpow W1 0 n (by omega) ⟨by omega, by omega⟩).as (by rw [hv])⟩
    have hN := Aside0.mk (New_any)
    have c0 := answers01 w
    have hf0 := Fr.refl (fun _ => False) w
    have hfr := Fr.refl (fun _ => False) w
    clear hv
    go_enter Try.func5, Try.ntmps5
    go_wp2_with (first
      | (go_at_call 28; refine (hN.out _).mono ?_; rintro e W' ⟨g, rfl, -, -, hF, hf⟩; obtain ⟨c0, c1, c2⟩ := HC.out g W' hF; replace hf0 := (hf0.trans' hfr).trans' hf; replace hfr := Fr.refl (fun _ => False) W'; clear hF hf)
      | (go_at_call 27; with_reducible refine c0.use hfr ?_; rintro W' hf; replace hfr := hfr.trans' hf; clear hf)
      | (go_at_call 29; with_reducible refine c1.use hfr ?_; rintro W' hf; replace hfr := hfr.trans' hf; clear hf)
      | (go_at_call 30; with_reducible refine c2.use hfr ?_; rintro W' hf; replace hfr := hfr.trans' hf; clear hf))
    go_ret
    exact ⟨rfl, (hf0.trans' hfr).f_below⟩
  obtain ⟨a, rfl, ba⟩ := u8_nat ha
  replace ha := ba
  clear ba
  have h1 : a ≠ 0 := by omega
  obtain ⟨x, hx⟩ : ∃ v, v = powI a n := ⟨_, rfl⟩
  obtain ⟨y, hy⟩ : ∃ v, v = powI a m := ⟨_, rfl⟩
  obtain ⟨z, hz⟩ : ∃ v, v = powI a (n + m) := ⟨_, rfl⟩
  have hx2 : x < 256 := by rw [hx]; exact powI_lt a n
  have hy2 : y < 256 := by rw [hy]; exact powI_lt a m
  have HC : Aside0 (∀ (g : Nat) (W1 : World), Fld W1 g → Ct W1 27 #[] (.bool true) ∧ Ct W1 29 #[.pointer (some ⟨g, 0, none⟩), .int .u8 a, .int .i64 255] (.int .u8 1) ∧ Ct W1 29 #[.pointer (some ⟨g, 0, none⟩), .int .u8 a, .int .i64 n] (.int .u8 x) ∧ Ct W1 29 #[.pointer (some ⟨g, 0, none⟩), .int .u8 a, .int .i64 m] (.int .u8 y) ∧ Ct W1 29 #[.pointer (some ⟨g, 0, none⟩), .int .u8 a, .int .i64 (n + m)] (.int .u8 z) ∧ Ct W1 31 #[.pointer (some ⟨g, 0, none⟩), .int .u8 x, .int .u8 y] (.int .u8 z)) :=
    Aside0.mk fun g W1 hF => ⟨answers01 W1, (ct_pow hF a 255 ha).as (by rw [pow255 a h1]; rfl), (ct_pow hF a n ha).as (by rw [hx]), (ct_pow hF a m ha).as (by rw [hy]), (ct_pow hF a (n + m) ha).as (by rw [hz]), (ct_mul hF x y hx2 hy2).as (by rw [hx, hy, hz, powI_add a n m h1])⟩
  have hN := Aside0.mk (New_any)
  have c0 := answers01 w
  have hf0 := Fr.refl (fun _ => False) w
  have hfr := Fr.refl (fun _ => False) w
  have h2 : ((a : Int) == 0) = false := by simpa using h1
  clear hx hy hz hx2 hy2 h0 h1
  go_enter Try.func5, Try.ntmps5
  go_wp2_with (first
    | (go_at_call 28; refine (hN.out _).mono ?_; rintro e W' ⟨g, rfl, -, -, hF, hf⟩; obtain ⟨c0, c1, c2, c3, c4, c5⟩ := HC.out g W' hF; replace hf0 := (hf0.trans' hfr).trans' hf; replace hfr := Fr.refl (fun _ => False) W'; clear hF hf)
    | (go_at_call 27; with_reducible refine c0.use hfr ?_; rintro W' hf; replace hfr := hfr.trans' hf; clear hf)
    | (go_at_call 29; (first | with_reducible refine c1.use hfr ?_ | with_reducible refine c2.use hfr ?_ | with_reducible refine c3.use hfr ?_ | with_reducible refine c4.use hfr ?_); rintro W' hf; replace hfr := hfr.trans' hf; clear hf)
    | (go_at_call 31; with_reducible refine c5.use hfr ?_; rintro W' hf; replace hfr := hfr.trans' hf; clear hf))
  go_ret
  exact ⟨rfl, (hf0.trans' hfr).f_below⟩

set_option maxRecDepth 100000 in
set_option maxHeartbeats 1600000 in
theorem unlike_law (w : World) (a : Int) (ha : (Lit.int .u8 a).wf = true) (b : Int) (hb : (Lit.int .u8 b).wf = true) (c : Int) (hc : (Lit.int .u8 c).wf = true) :
    Calls Try.prog 7 #[.int .u8 a, .int .u8 b, .int .u8 c] w fun e w' => e = .returned (.bool true) ∧ Below w.heap.size w w' := by
  obtain ⟨a, rfl, ba⟩ := u8_nat ha
  replace ha := ba
  clear ba
  obtain ⟨b, rfl, bb⟩ := u8_nat hb
  replace hb := bb
  clear bb
  by_cases h0 : c = 0
  · subst h0
    clear hc
    have HC : Aside0 (∀ (g : Nat) (W1 : World), Fld W1 g → Ct W1 27 #[] (.bool true) ∧ Ct W1 31 #[.pointer (some ⟨g, 0, none⟩), .int .u8 a, .int .u8 0] (.int .u8 0)) :=
      Aside0.mk fun g W1 hF => ⟨answers01 W1, (ct_mul hF a 0 ha (by omega)).as (by rw [(Gf.mul_0 a ha).2]; rfl)⟩
    have hN := Aside0.mk (New_any)
    have c0 := answers01 w
    have hf0 := Fr.refl (fun _ => False) w
    have hfr := Fr.refl (fun _ => False) w
    go_enter Try.func7, Try.ntmps7
    go_wp2_with (first
      | (go_at_call 28; refine (hN.out _).mono ?_; rintro e W' ⟨g, rfl, -, -, hF, hf⟩; obtain ⟨c0, c1⟩ := HC.out g W' hF; replace hf0 := (hf0.trans' hfr).trans' hf; replace hfr := Fr.refl (fun _ => False) W'; clear hF hf)
      | (go_at_call 27; with_reducible refine c0.use hfr ?_; rintro W' hf; replace hfr := hfr.trans' hf; clear hf)
      | (go_at_call 31; with_reducible refine c1.use hfr ?_; rintro W' hf; replace hfr := hfr.trans' hf; clear hf))
    go_ret
    exact ⟨rfl, (hf0.trans' hfr).f_below⟩
  obtain ⟨c, rfl, bc⟩ := u8_nat hc
  replace hc := bc
  clear bc
  have h1 : c ≠ 0 := by omega
  have hd : decide (c ≠ 0) = true := decide_eq_true h1
  obtain ⟨ac, hac⟩ : ∃ v, v = Gf.mulN a c := ⟨_, rfl⟩
  have hac2 : ac < 256 := by rw [hac]; exact mulN_lt a c ha hc
  have h2 : ((c : Int) == 0) = false := by simpa using h1
  by_cases hab : a = b
  · subst hab
    have HC : Aside0 (∀ (g : Nat) (W1 : World), Fld W1 g → Ct W1 27 #[] (.bool true) ∧ Ct W1 31 #[.pointer (some ⟨g, 0, none⟩), .int .u8 a, .int .u8 c] (.int .u8 ac) ∧ Ct W1 33 #[.pointer (some ⟨g, 0, none⟩), .int .u8 ac, .int .u8 c] (.tuple #[.int .u8 a, .bool true])) :=
      Aside0.mk fun g W1 hF => ⟨answers01 W1, (ct_mul hF a c ha hc).as (by rw [hac]), (ct_div hF ac c hac2 hc).as (by rw [hac, div_mul a c ha hc h1, hd])⟩
    have hN := Aside0.mk (New_any)
    have c0 := answers01 w
    have hf0 := Fr.refl (fun _ => False) w
    have hfr := Fr.refl (fun _ => False) w
    clear hac hac2 hd h0 h1
    go_enter Try.func7, Try.ntmps7
    go_wp2_with (first
      | (go_at_call 28; refine (hN.out _).mono ?_; rintro e W' ⟨g, rfl, -, -, hF, hf⟩; obtain ⟨c0, c1, c3⟩ := HC.out g W' hF; replace hf0 := (hf0.trans' hfr).trans' hf; replace hfr := Fr.refl (fun _ => False) W'; clear hF hf)
      | (go_at_call 27; with_reducible refine c0.use hfr ?_; rintro W' hf; replace hfr := hfr.trans' hf; clear hf)
      | (go_at_call 31; with_reducible refine c1.use hfr ?_; rintro W' hf; replace hfr := hfr.trans' hf; clear hf)
      | (go_at_call 33; with_reducible refine c3.use hfr ?_; rintro W' hf; replace hfr := hfr.trans' hf; clear hf))
    go_ret
    exact ⟨rfl, (hf0.trans' hfr).f_below⟩
  obtain ⟨bc, hbc⟩ : ∃ v, v = Gf.mulN b c := ⟨_, rfl⟩
  have z1 : ((a : Int) == (b : Int)) = false := beq_eq_false_iff_ne.2 (by omega)
  have z2 : ((ac : Int) == (bc : Int)) = false := by
    have : ac ≠ bc := fun h => hab (mul_cancel a b c ha hb hc h1 (by rw [← hac, ← hbc, h]))
    exact beq_eq_false_iff_ne.2 (by omega)
  have HC : Aside0 (∀ (g : Nat) (W1 : World), Fld W1 g → Ct W1 27 #[] (.bool true) ∧ Ct W1 31 #[.pointer (some ⟨g, 0, none⟩), .int .u8 a, .int .u8 c] (.int .u8 ac) ∧ Ct W1 31 #[.pointer (some ⟨g, 0, none⟩), .int .u8 b, .int .u8 c] (.int .u8 bc) ∧ Ct W1 33 #[.pointer (some ⟨g, 0, none⟩), .int .u8 ac, .int .u8 c] (.tuple #[.int .u8 a, .bool true])) :=
    Aside0.mk fun g W1 hF => ⟨answers01 W1, (ct_mul hF a c ha hc).as (by rw [hac]), (ct_mul hF b c hb hc).as (by rw [hbc]), (ct_div hF ac c hac2 hc).as (by rw [hac, div_mul a c ha hc h1, hd])⟩
  have hN := Aside0.mk (New_any)
  have c0 := answers01 w
  have hf0 := Fr.refl (fun _ => False) w
  have hfr := Fr.refl (fun _ => False) w
  clear hac hac2 hbc hd h0 h1 hab
  go_enter Try.func7, Try.ntmps7
  go_wp2_with (first
    | (go_at_call 28; refine (hN.out _).mono ?_; rintro e W' ⟨g, rfl, -, -, hF, hf⟩; obtain ⟨c0, c1, c2, c3⟩ := HC.out g W' hF; replace hf0 := (hf0.trans' hfr).trans' hf; replace hfr := Fr.refl (fun _ => False) W'; clear hF hf)
    | (go_at_call 27; with_reducible refine c0.use hfr ?_; rintro W' hf; replace hfr := hfr.trans' hf; clear hf)
    | (go_at_call 31; (first | with_reducible refine c1.use hfr ?_ | with_reducible refine c2.use hfr ?_); rintro W' hf; replace hfr := hfr.trans' hf; clear hf)
    | (go_at_call 33; with_reducible refine c3.use hfr ?_; rintro W' hf; replace hfr := hfr.trans' hf; clear hf))
  go_ret
  exact ⟨rfl, (hf0.trans' hfr).f_below⟩

end Go.Proofs.Ytpeiejkcoadhfaa
