/- The law DealOthers, walked. -/
import Derived.Test.YtpeiejkcoadhfaaDkG
set_option linter.all false
namespace Go.Proofs.Ytpeiejkcoadhfaa
open Go.RowKit Go.Shelf Go.Proofs.YtpeiejkcoadhfaaW.PrintWords Go.Proofs.YtpeiejkcoadhfaaW.PrintMore
open Go.BigFrame
attribute [local go_sem] Oper.semAt_some

theorem SV_false {W : World} {b N : Nat} {qs : List (List F)} : SV W b N none 0 0 false qs := by
  unfold SV
  rw [if_neg (by simp)]
  exact ⟨rfl, rfl, rfl⟩
theorem Blinds_any (w : World) (g N T K : Nat) (E Rm target : Int) (cols : Nat) (A : Option Addr) (n c : Nat) (rnd : List F) (hF : Fld w g) (hr : Kd.C fk w A n rnd) (hc : n ≤ c) (hN : N ≤ 1000) (hT : T ≤ 1000) (hK : K ≤ 1000) (hTK : 1 ≤ T + K) (hcl : cols ≤ 100000) (ok : Bool) (hok : ok = (decide (0 ≤ target ∧ target < (N : Int)) && decide (n = eachN T K 3 * cols))) :
    Calls Try.prog 59 #[.pointer (some ⟨g, 0, none⟩), parV N T K E Rm, .int .i64 target, .int .i64 cols, .slice A n c] w fun e w' => ∃ Y l cp, e = .returned (.tuple #[.slice Y l cp, .bool ok]) ∧ SV w' w.heap.size N Y l cp ok (dealtL cols (eachN T K 3) (lin (ptF target.toNat)) rnd) ∧ Fr (fun _ => False) w w' := by
  by_cases h : 0 ≤ target ∧ target < (N : Int)
  · obtain ⟨t, rfl⟩ := Int.eq_ofNat_of_zero_le h.1
    rw [decide_eq_true h, Bool.true_and] at hok
    exact Blinds_in w g N T K E Rm t cols A n c rnd hF hr hc (by omega) hN hT hK hTK hcl ok hok
  · rw [decide_eq_false h, Bool.false_and] at hok
    subst hok
    refine (Blinds_out w g N T K E Rm target cols A n c (by omega)).mono ?_
    rintro e w' ⟨rfl, hf⟩
    exact ⟨_, _, _, rfl, SV_false, hf⟩
theorem beq_nat (a b : Nat) : ((a : Int) == (b : Int)) = decide (a = b) := by
  by_cases h : a = b
  · subst h; simp
  · rw [decide_eq_false h]; exact beq_eq_false_iff_ne.mpr (by omega)
theorem u8_mod {cols : Int} (h : (Lit.int .u8 cols).wf = true) : ∃ n q : Nat, cols = (n : Int) ∧ n < 256 ∧ (n : Int) % 10 = (q : Int) ∧ q ≤ 9 := by
  obtain ⟨n, rfl, hn⟩ := u8_nt h
  exact ⟨n, n % 10, rfl, hn, by omega, by omega⟩
theorem each2 (T K : Nat) : eachN T K 2 = T := by simp [eachN]
theorem each3 (T K : Nat) : eachN T K 3 = T + K - 1 := by simp [eachN]
theorem each4 (T K : Nat) : eachN T K 4 = T + K := by simp [eachN]

set_option maxRecDepth 100000 in
set_option maxHeartbeats 6400000 in
theorem others_law (w : World) (cs : Array Value) (p : Par) (hK : kpar.K w p cs.toList) (hw : wfPar p) (target : Int) (htg : (Lit.int .i64 target).wf = true) (cols : Int) (hcols : (Lit.int .u8 cols).wf = true)
    (R : Option Addr) (m mc : Nat) (lr : List Int) (hlr : lr.length = m) (hCr : Kd.C u8 w R m lr) (hmc : m ≤ mc) (hwr : ∀ a ∈ lr, (Lit.int .u8 a).wf = true) :
    Calls Try.prog 18 #[.agg cs, .int .i64 target, .int .u8 cols, .slice R m mc] w fun e w' => e = .returned (.bool true) ∧ Below w.heap.size w w' := by
  rw [par_cs hK]
  obtain ⟨N, T, K, E, Rm⟩ := p
  have hNb := i64_bd hw.1
  obtain ⟨rnd, rfl⟩ := bytes_F lr hwr
  have hr := C_bs.1 hCr
  have hmx := Kd.C_max hr
  have htb := i64_bd htg
  have HGR := Aside0.mk (fun W => RGood_any W N T K E Rm hNb)
  have HAN := Aside0.mk answers10
  obtain ⟨cn, q, rfl, hcn, hq, hq9⟩ := u8_mod hcols
  clear hCr hwr hlr hw hK htg hcols
  have hu48 := Try.underlying48
  by_cases hg : goodB N T K E Rm = true
  · obtain ⟨N, T, K, rfl, rfl, rfl, hn, ht1, ht, hk1, hk, hnk, htk⟩ := gd_nat (good_true hg)
    rw [hg] at HGR
    obtain ⟨w0, hw0, hz0, a0, hb0⟩ := heap1 w (Obj.cells #[.int .i64 N, .int .i64 T, .int .i64 K, .int .i64 E, .int .i64 Rm] 48)
    obtain ⟨s, hs⟩ : ∃ s, s = w.heap.size := ⟨_, rfl⟩
    rw [← hs] at a0
    have HG : Aside0 (∀ W, Fr (fun _ => False) w0 W → W.cell? ⟨s, 0, none⟩ = some (.int .i64 N) ∧ W.cell? ⟨s, 1, none⟩ = some (.int .i64 T) ∧ W.cell? ⟨s, 2, none⟩ = some (.int .i64 K) ∧ W.cell? ⟨s, 3, none⟩ = some (.int .i64 E) ∧ W.cell? ⟨s, 4, none⟩ = some (.int .i64 Rm)) :=
      ⟨fun W hW => by
        have h1 := hW.blk a0 (fun h => h)
        exact ⟨cell_at h1 rfl, cell_at h1 rfl, cell_at h1 rfl, cell_at h1 rfl, cell_at h1 rfl⟩⟩
    have HB : Aside0 (∀ W, Fr (fun _ => False) w0 W → Below w.heap.size w W) := ⟨fun W hW => hb0.trans (hW.f_below.mono hb0.size)⟩
    have HS := Aside0.mk hs
    have HW0 := Aside0.mk hw0
    by_cases h40 : N ≤ 40
    · have HNW := Aside0.mk (fun W => New_any W)
      obtain ⟨ok1, hok1⟩ : ∃ ok, ok = decide (m = T * q) := ⟨_, rfl⟩
      obtain ⟨okm, hokm⟩ : ∃ ok, ok = decide (m = (T + K - 1) * q) := ⟨_, rfl⟩
      obtain ⟨ok3, hok3⟩ : ∃ ok, ok = decide (m = (T + K) * q) := ⟨_, rfl⟩
      obtain ⟨ok2, hok2⟩ : ∃ ok, ok = (decide (0 ≤ target ∧ target < (N : Int)) && okm) := ⟨_, rfl⟩
      have HZE := Aside0.mk (fun W g (hW : Fr (fun _ => False) w0 W) (hF : Fld W g) => Zeros_any W g N T K E Rm q R m mc rnd hF (Kd.C_below hr (HB.out W hW)) hmc (by omega) (by omega) (by omega) (by omega) (by omega) ok1 (by rw [each2]; exact hok1))
      have HBL := Aside0.mk (fun W g (hW : Fr (fun _ => False) w0 W) (hF : Fld W g) => Blinds_any W g N T K E Rm target q R m mc rnd hF (Kd.C_below hr (HB.out W hW)) hmc (by omega) (by omega) (by omega) (by omega) (by omega) ok2 (by rw [each3, ← hokm]; exact hok2))
      have HMA := Aside0.mk (fun W g (hW : Fr (fun _ => False) w0 W) (hF : Fld W g) => Masks_any W g N T K E Rm q R m mc rnd hF (Kd.C_below hr (HB.out W hW)) hmc (by omega) (by omega) (by omega) (by omega) (by omega) ok3 (by rw [each4]; exact hok3))
      have hm1 : T * q ≤ 255 * 9 := Nat.mul_le_mul ht hq9
      have hm2 : (T + K - 1) * q ≤ 510 * 9 := Nat.mul_le_mul (by omega) hq9
      have hm3 : (T + K) * q ≤ 510 * 9 := Nat.mul_le_mul (by omega) hq9
      have HI2 : Aside0 (∀ W X l cp b, Fr (fun _ => False) w0 W → SV W b N X l cp ok1 (dealtL q (eachN T K 2) (roots (secL N K)) rnd) → Calls Try.prog 61 #[parV N T K E Rm, .slice X l cp, .bool ok1, .int .i64 2, .int .i64 target, .int .i64 q, .slice R m mc] W fun e w' => e = .returned (.bool true) ∧ Fr (fun _ => False) W w') := ⟨fun W X l cp b hW hsv =>
        is_any W N T K E Rm 2 target q X l cp ok1 R m mc b rnd 0 (by simpa [factorL] using hsv) (Kd.C_below hr (HB.out W hW)) hmc (by omega) (by omega) (by omega) (by omega) (by omega)
          (fun h => by rw [each2]; have := of_decide_eq_true (hok1 ▸ h); omega) (fun h => by have := of_decide_eq_true (hok1 ▸ h); omega) (fun _ h => absurd h (by decide))⟩
      have HI3 : Aside0 (∀ W X l cp b, Fr (fun _ => False) w0 W → SV W b N X l cp ok2 (dealtL q (eachN T K 3) (lin (ptF target.toNat)) rnd) → Calls Try.prog 61 #[parV N T K E Rm, .slice X l cp, .bool ok2, .int .i64 3, .int .i64 target, .int .i64 q, .slice R m mc] W fun e w' => e = .returned (.bool true) ∧ Fr (fun _ => False) W w') := ⟨fun W X l cp b hW hsv => by
        have hx : ok2 = true → (0 ≤ target ∧ target < (N : Int)) ∧ m = (T + K - 1) * q := fun h => by
          rw [hok2, Bool.and_eq_true] at h
          exact ⟨of_decide_eq_true h.1, of_decide_eq_true (hokm ▸ h.2)⟩
        refine is_any W N T K E Rm 3 target q X l cp ok2 R m mc b rnd (ptF target.toNat) (by simpa [factorL] using hsv) (Kd.C_below hr (HB.out W hW)) hmc (by omega) (by omega) (by omega) (by omega) (by omega)
          (fun h => by rw [each3]; have := (hx h).2; omega) (fun h => by have := (hx h).2; omega) (fun h _ => ?_)
        have := (hx h).1
        rw [ptF_v]
        unfold wrap64
        omega⟩
      have HI4 : Aside0 (∀ W X l cp b, Fr (fun _ => False) w0 W → SV W b N X l cp ok3 (dealtL q (eachN T K 4) [1] rnd) → Calls Try.prog 61 #[parV N T K E Rm, .slice X l cp, .bool ok3, .int .i64 4, .int .i64 target, .int .i64 q, .slice R m mc] W fun e w' => e = .returned (.bool true) ∧ Fr (fun _ => False) W w') := ⟨fun W X l cp b hW hsv =>
        is_any W N T K E Rm 4 target q X l cp ok3 R m mc b rnd 0 (by simpa [factorL] using hsv) (Kd.C_below hr (HB.out W hW)) hmc (by omega) (by omega) (by omega) (by omega) (by omega)
          (fun h => by rw [each4]; have := of_decide_eq_true (hok3 ▸ h); omega) (fun h => by have := of_decide_eq_true (hok3 ▸ h); omega) (fun _ h => absurd h (by decide))⟩
      have e1 := beq_nat m (T * q)
      have e2 := beq_nat m ((T + K - 1) * q)
      have e3 := beq_nat m ((T + K) * q)
      rw [← hok1] at e1
      rw [← hokm] at e2
      rw [← hok3] at e3
      have x1 : IntKind.i64.wrap ((T : Int) * (q : Int)) = ((T * q : Nat) : Int) := by rw [← Int.natCast_mul, IntWalk.i64_in _ ⟨by omega, by omega⟩]
      have x2 : IntKind.i64.wrap (((T : Int) + (K : Int) - 1) * (q : Int)) = (((T + K - 1) * q : Nat) : Int) := by
        rw [show (T : Int) + (K : Int) - 1 = ((T + K - 1 : Nat) : Int) from by omega, ← Int.natCast_mul, IntWalk.i64_in _ ⟨by omega, by omega⟩]
      have x3 : IntKind.i64.wrap (((T : Int) + (K : Int)) * (q : Int)) = (((T + K) * q : Nat) : Int) := by
        rw [← Int.natCast_add, ← Int.natCast_mul, IntWalk.i64_in _ ⟨by omega, by omega⟩]
      obtain ⟨b1, hb1⟩ : ∃ b, b = T * q := ⟨_, rfl⟩
      obtain ⟨b2, hb2⟩ : ∃ b, b = (T + K - 1) * q := ⟨_, rfl⟩
      obtain ⟨b3, hb3⟩ : ∃ b, b = (T + K) * q := ⟨_, rfl⟩
      rw [← hb1] at e1 x1
      rw [← hb2] at e2 x2
      rw [← hb3] at e3 x3
      have h40I : ¬ (40 : Int) < (N : Int) := by omega
      by_cases hin : 0 ≤ target ∧ target < (N : Int)
      · rw [decide_eq_true hin, Bool.true_and] at hok2
        subst hok2
        obtain ⟨hi0, hi1⟩ := hin
        clear a0 hb0 hz0 hw0 hs hr hg hok1 hokm hok3 hb1 hb2 hb3 hm1 hm2 hm3 hmx h40
        unfold parV at *
        go_enter Try.func18, Try.ntmps18
        go_wp2_with (first
          | (go_at_call 44; rw [← HW0.out, ← HS.out]; with_reducible refine (HGR.out _).mono ?_; rintro e W1 ⟨rfl, hb1⟩; have HF1 := Aside0.mk (Fr.of_below hb1 (fun _ => False)); obtain ⟨v0, v1, v2, v3, v4⟩ := HG.out W1 HF1.out; clear hb1)
          | (go_at_call 28; with_reducible refine (HNW.out _).mono ?_; rintro e W2 ⟨g, rfl, -, -, hF, hf2⟩; have HF2 := Aside0.mk (HF1.out.trans' hf2); obtain ⟨u0, u1, u2, u3, u4⟩ := HG.out W2 HF2.out; have HZE2 := Aside0.mk (HZE.out W2 g HF2.out hF); have HFl := Aside0.mk hF; clear hf2 hF)
          | (go_at_call 58; with_reducible refine HZE2.out.mono ?_; rintro e W3 ⟨Y3, l3, c3, rfl, hsv3, hf3⟩; have HF3 := Aside0.mk (HF2.out.trans' hf3); have HF23 := Aside0.mk hf3; obtain ⟨t0, t1, t2, t3, t4⟩ := HG.out W3 HF3.out; have HSV3 := Aside0.mk hsv3; have HBL3 := Aside0.mk (HBL.out W3 g HF3.out (HFl.out.fr hf3 (fun h => h))); clear hf3 hsv3)
          | (go_at_call 59; with_reducible refine HBL3.out.mono ?_; rintro e W4 ⟨Y4, l4, c4, rfl, hsv4, hf4⟩; have HF4 := Aside0.mk (HF3.out.trans' hf4); have HF34 := Aside0.mk hf4; have HF24 := Aside0.mk (HF23.out.trans' hf4); obtain ⟨s0, s1, s2, s3, s4⟩ := HG.out W4 HF4.out; have HSV4 := Aside0.mk hsv4; have HMA4 := Aside0.mk (HMA.out W4 g HF4.out (HFl.out.fr HF24.out (fun h => h))); clear hf4 hsv4)
          | (go_at_call 60; with_reducible refine HMA4.out.mono ?_; rintro e W5 ⟨Y5, l5, c5, rfl, hsv5, hf5⟩; have HF5 := Aside0.mk (HF4.out.trans' hf5); have HF45 := Aside0.mk hf5; obtain ⟨r0, r1, r2, r3, r4⟩ := HG.out W5 HF5.out; have HSV5 := Aside0.mk hsv5; clear hf5 hsv5)
          | (go_at_call 42; with_reducible refine (HAN.out _).mono ?_; rintro e W6 ⟨rfl, hf6⟩; have HF6 := Aside0.mk (HF5.out.trans' hf6); obtain ⟨p0, p1, p2, p3, p4⟩ := HG.out W6 HF6.out; have J2 := Aside0.mk (HI2.out W6 Y3 l3 c3 _ HF6.out (SV_fr HSV3.out (HF34.out.trans' (HF45.out.trans' hf6)))); have HSV46 := Aside0.mk (SV_fr HSV4.out (HF45.out.trans' hf6)); have HSV56 := Aside0.mk (SV_fr HSV5.out hf6); clear hf6)
          | (go_at_call 61; first
              | (with_reducible refine J2.out.mono ?_; rintro e W7 ⟨rfl, hf7⟩; have HF7 := Aside0.mk (HF6.out.trans' hf7); obtain ⟨o0, o1, o2, o3, o4⟩ := HG.out W7 HF7.out; have J3 := Aside0.mk (HI3.out W7 Y4 l4 c4 _ HF7.out (SV_fr HSV46.out hf7)); have HSV57 := Aside0.mk (SV_fr HSV56.out hf7); clear hf7)
              | (with_reducible refine J3.out.mono ?_; rintro e W8 ⟨rfl, hf8⟩; have HF8 := Aside0.mk (HF7.out.trans' hf8); obtain ⟨n0, n1, n2, n3, n4⟩ := HG.out W8 HF8.out; have J4 := Aside0.mk (HI4.out W8 Y5 l5 c5 _ HF8.out (SV_fr HSV57.out hf8)); clear hf8)
              | (with_reducible refine J4.out.mono ?_; rintro e W9 ⟨rfl, hf9⟩; have HF9 := Aside0.mk (HF8.out.trans' hf9); clear hf9)))
        go_ret
        exact ⟨by first | rfl | simp, HB.out _ HF9.out⟩
      · rw [decide_eq_false hin, Bool.false_and] at hok2
        subst hok2
        by_cases hi0 : target < 0
        · clear a0 hb0 hz0 hw0 hs hr hg hok1 hokm hok3 hb1 hb2 hb3 hm1 hm2 hm3 hmx h40 hin
          unfold parV at *
          go_enter Try.func18, Try.ntmps18
          go_wp2_with (first
            | (go_at_call 44; rw [← HW0.out, ← HS.out]; with_reducible refine (HGR.out _).mono ?_; rintro e W1 ⟨rfl, hb1⟩; have HF1 := Aside0.mk (Fr.of_below hb1 (fun _ => False)); obtain ⟨v0, v1, v2, v3, v4⟩ := HG.out W1 HF1.out; clear hb1)
            | (go_at_call 28; with_reducible refine (HNW.out _).mono ?_; rintro e W2 ⟨g, rfl, -, -, hF, hf2⟩; have HF2 := Aside0.mk (HF1.out.trans' hf2); obtain ⟨u0, u1, u2, u3, u4⟩ := HG.out W2 HF2.out; have HZE2 := Aside0.mk (HZE.out W2 g HF2.out hF); have HFl := Aside0.mk hF; clear hf2 hF)
            | (go_at_call 58; with_reducible refine HZE2.out.mono ?_; rintro e W3 ⟨Y3, l3, c3, rfl, hsv3, hf3⟩; have HF3 := Aside0.mk (HF2.out.trans' hf3); have HF23 := Aside0.mk hf3; obtain ⟨t0, t1, t2, t3, t4⟩ := HG.out W3 HF3.out; have HSV3 := Aside0.mk hsv3; have HBL3 := Aside0.mk (HBL.out W3 g HF3.out (HFl.out.fr hf3 (fun h => h))); clear hf3 hsv3)
            | (go_at_call 59; with_reducible refine HBL3.out.mono ?_; rintro e W4 ⟨Y4, l4, c4, rfl, hsv4, hf4⟩; have HF4 := Aside0.mk (HF3.out.trans' hf4); have HF34 := Aside0.mk hf4; have HF24 := Aside0.mk (HF23.out.trans' hf4); obtain ⟨s0, s1, s2, s3, s4⟩ := HG.out W4 HF4.out; have HSV4 := Aside0.mk hsv4; have HMA4 := Aside0.mk (HMA.out W4 g HF4.out (HFl.out.fr HF24.out (fun h => h))); clear hf4 hsv4)
            | (go_at_call 60; with_reducible refine HMA4.out.mono ?_; rintro e W5 ⟨Y5, l5, c5, rfl, hsv5, hf5⟩; have HF5 := Aside0.mk (HF4.out.trans' hf5); have HF45 := Aside0.mk hf5; obtain ⟨r0, r1, r2, r3, r4⟩ := HG.out W5 HF5.out; have HSV5 := Aside0.mk hsv5; clear hf5 hsv5)
            | (go_at_call 42; with_reducible refine (HAN.out _).mono ?_; rintro e W6 ⟨rfl, hf6⟩; have HF6 := Aside0.mk (HF5.out.trans' hf6); obtain ⟨p0, p1, p2, p3, p4⟩ := HG.out W6 HF6.out; have J2 := Aside0.mk (HI2.out W6 Y3 l3 c3 _ HF6.out (SV_fr HSV3.out (HF34.out.trans' (HF45.out.trans' hf6)))); have HSV46 := Aside0.mk (SV_fr HSV4.out (HF45.out.trans' hf6)); have HSV56 := Aside0.mk (SV_fr HSV5.out hf6); clear hf6)
            | (go_at_call 61; first
                | (with_reducible refine J2.out.mono ?_; rintro e W7 ⟨rfl, hf7⟩; have HF7 := Aside0.mk (HF6.out.trans' hf7); obtain ⟨o0, o1, o2, o3, o4⟩ := HG.out W7 HF7.out; have J3 := Aside0.mk (HI3.out W7 Y4 l4 c4 _ HF7.out (SV_fr HSV46.out hf7)); have HSV57 := Aside0.mk (SV_fr HSV56.out hf7); clear hf7)
                | (with_reducible refine J3.out.mono ?_; rintro e W8 ⟨rfl, hf8⟩; have HF8 := Aside0.mk (HF7.out.trans' hf8); obtain ⟨n0, n1, n2, n3, n4⟩ := HG.out W8 HF8.out; have J4 := Aside0.mk (HI4.out W8 Y5 l5 c5 _ HF8.out (SV_fr HSV57.out hf8)); clear hf8)
                | (with_reducible refine J4.out.mono ?_; rintro e W9 ⟨rfl, hf9⟩; have HF9 := Aside0.mk (HF8.out.trans' hf9); clear hf9)))
          go_ret
          exact ⟨by first | rfl | simp, HB.out _ HF9.out⟩
        · have hi1 : (N : Int) ≤ target := by omega
          have hi2 : 0 ≤ target := by omega
          clear a0 hb0 hz0 hw0 hs hr hg hok1 hokm hok3 hb1 hb2 hb3 hm1 hm2 hm3 hmx h40 hin hi0
          unfold parV at *
          go_enter Try.func18, Try.ntmps18
          go_wp2_with (first
            | (go_at_call 44; rw [← HW0.out, ← HS.out]; with_reducible refine (HGR.out _).mono ?_; rintro e W1 ⟨rfl, hb1⟩; have HF1 := Aside0.mk (Fr.of_below hb1 (fun _ => False)); obtain ⟨v0, v1, v2, v3, v4⟩ := HG.out W1 HF1.out; clear hb1)
            | (go_at_call 28; with_reducible refine (HNW.out _).mono ?_; rintro e W2 ⟨g, rfl, -, -, hF, hf2⟩; have HF2 := Aside0.mk (HF1.out.trans' hf2); obtain ⟨u0, u1, u2, u3, u4⟩ := HG.out W2 HF2.out; have HZE2 := Aside0.mk (HZE.out W2 g HF2.out hF); have HFl := Aside0.mk hF; clear hf2 hF)
            | (go_at_call 58; with_reducible refine HZE2.out.mono ?_; rintro e W3 ⟨Y3, l3, c3, rfl, hsv3, hf3⟩; have HF3 := Aside0.mk (HF2.out.trans' hf3); have HF23 := Aside0.mk hf3; obtain ⟨t0, t1, t2, t3, t4⟩ := HG.out W3 HF3.out; have HSV3 := Aside0.mk hsv3; have HBL3 := Aside0.mk (HBL.out W3 g HF3.out (HFl.out.fr hf3 (fun h => h))); clear hf3 hsv3)
            | (go_at_call 59; with_reducible refine HBL3.out.mono ?_; rintro e W4 ⟨Y4, l4, c4, rfl, hsv4, hf4⟩; have HF4 := Aside0.mk (HF3.out.trans' hf4); have HF34 := Aside0.mk hf4; have HF24 := Aside0.mk (HF23.out.trans' hf4); obtain ⟨s0, s1, s2, s3, s4⟩ := HG.out W4 HF4.out; have HSV4 := Aside0.mk hsv4; have HMA4 := Aside0.mk (HMA.out W4 g HF4.out (HFl.out.fr HF24.out (fun h => h))); clear hf4 hsv4)
            | (go_at_call 60; with_reducible refine HMA4.out.mono ?_; rintro e W5 ⟨Y5, l5, c5, rfl, hsv5, hf5⟩; have HF5 := Aside0.mk (HF4.out.trans' hf5); have HF45 := Aside0.mk hf5; obtain ⟨r0, r1, r2, r3, r4⟩ := HG.out W5 HF5.out; have HSV5 := Aside0.mk hsv5; clear hf5 hsv5)
            | (go_at_call 42; with_reducible refine (HAN.out _).mono ?_; rintro e W6 ⟨rfl, hf6⟩; have HF6 := Aside0.mk (HF5.out.trans' hf6); obtain ⟨p0, p1, p2, p3, p4⟩ := HG.out W6 HF6.out; have J2 := Aside0.mk (HI2.out W6 Y3 l3 c3 _ HF6.out (SV_fr HSV3.out (HF34.out.trans' (HF45.out.trans' hf6)))); have HSV46 := Aside0.mk (SV_fr HSV4.out (HF45.out.trans' hf6)); have HSV56 := Aside0.mk (SV_fr HSV5.out hf6); clear hf6)
            | (go_at_call 61; first
                | (with_reducible refine J2.out.mono ?_; rintro e W7 ⟨rfl, hf7⟩; have HF7 := Aside0.mk (HF6.out.trans' hf7); obtain ⟨o0, o1, o2, o3, o4⟩ := HG.out W7 HF7.out; have J3 := Aside0.mk (HI3.out W7 Y4 l4 c4 _ HF7.out (SV_fr HSV46.out hf7)); have HSV57 := Aside0.mk (SV_fr HSV56.out hf7); clear hf7)
                | (with_reducible refine J3.out.mono ?_; rintro e W8 ⟨rfl, hf8⟩; have HF8 := Aside0.mk (HF7.out.trans' hf8); obtain ⟨n0, n1, n2, n3, n4⟩ := HG.out W8 HF8.out; have J4 := Aside0.mk (HI4.out W8 Y5 l5 c5 _ HF8.out (SV_fr HSV57.out hf8)); clear hf8)
                | (with_reducible refine J4.out.mono ?_; rintro e W9 ⟨rfl, hf9⟩; have HF9 := Aside0.mk (HF8.out.trans' hf9); clear hf9)))
          go_ret
          exact ⟨by first | rfl | simp, HB.out _ HF9.out⟩
    · have h40I : (40 : Int) < (N : Int) := by omega
      clear a0 hb0 hz0 hw0 hs hr hg hmx h40
      unfold parV at *
      go_enter Try.func18, Try.ntmps18
      go_wp2_with (first | (go_at_call 44; rw [← HW0.out, ← HS.out]; with_reducible refine (HGR.out _).mono ?_; rintro e W1 ⟨rfl, hb1⟩; have HF1 := Aside0.mk (Fr.of_below hb1 (fun _ => False)); obtain ⟨v0, v1, v2, v3, v4⟩ := HG.out W1 HF1.out; clear hb1) | (go_at_call 42; with_reducible refine (HAN.out _).mono ?_; rintro e W2 ⟨rfl, hf2⟩))
      go_ret
      exact ⟨rfl, HB.out _ (HF1.out.trans' hf2)⟩
  · have hg' : goodB N T K E Rm = false := by simpa using hg
    rw [hg'] at HGR
    unfold parV at *
    clear hg hg' hr hNb hmx
    go_enter Try.func18, Try.ntmps18
    go_wp2_with (first | (go_at_call 44; with_reducible refine (HGR.out _).mono ?_; rintro e W1 ⟨rfl, hb1⟩; have HF1 := Aside0.mk (Fr.of_below hb1 (fun _ => False)); clear hb1) | (go_at_call 42; with_reducible refine (HAN.out _).mono ?_; rintro e W2 ⟨rfl, hf2⟩))
    go_ret
    exact ⟨rfl, (((Fr.refl (fun _ => False) w).alloc _).trans' (HF1.out.trans' hf2)).f_below⟩
end Go.Proofs.Ytpeiejkcoadhfaa
