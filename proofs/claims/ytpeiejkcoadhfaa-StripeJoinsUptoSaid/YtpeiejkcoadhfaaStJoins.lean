/- The law StripeJoins, walked (printed by wip/stjoins.py). -/
import Derived.Test.YtpeiejkcoadhfaaStArgs
import Derived.Test.YtpeiejkcoadhfaaStCounts
namespace Go.Proofs.Ytpeiejkcoadhfaa
open Go.RowKit Go.Shelf Go.Proofs.YtpeiejkcoadhfaaW.PrintWords Go.Proofs.YtpeiejkcoadhfaaW.PrintMore
open Go.BigFrame

theorem anyNe_snoc (xss : List (List Int)) (K : Int) (j : Nat) (h : j < xss.length) (h0 : anyNe (xss.take j) K = false) : ((((xss.getD j []).length : Nat) : Int) == K) = !anyNe (xss.take (j + 1)) K := by
  unfold anyNe at *
  rw [List.take_add_one, getD_get xss j h, List.any_append, h0]
  simp [bne]
theorem anyNe_take (xss : List (List Int)) (K : Int) (j : Nat) (h : anyNe xss K = false) : anyNe (xss.take j) K = false := by
  unfold anyNe at *
  rw [List.any_eq_false] at *
  exact fun x hx => h x (List.mem_of_mem_take hx)

set_option maxRecDepth 100000 in
set_option maxHeartbeats 1600000 in
theorem joins_neg (w : World) (A : Option Addr) (n c : Nat) (hnm : n ≤ 9223372036854775807) (size k : Int) (h : size < 0) (hJ : Calls Try.prog 39 #[.slice A n c, .int .i64 size, .int .i64 k] w fun e w' => e = .returned (.tuple #[.slice none 0 0, .bool false]) ∧ Below w.heap.size w w') :
    Calls Try.prog 10 #[.slice A n c, .int .i64 size, .int .i64 k] w fun e w' => e = .returned (.bool true) ∧ Below w.heap.size w w' := by
  have h1 : (size == 0) = false := by simp; omega
  have HJ := Aside0.mk hJ
  clear hJ
  have HA := Aside0.mk answers09
  go_enter Try.func10, Try.ntmps10
  go_wp2_with fail
  refine HJ.out.mono ?_
  rintro e w1 ⟨rfl, hb1⟩
  have HB1 := Aside0.mk hb1
  clear hb1
  rcases Nat.eq_zero_or_pos n with hn0 | hn0
  · subst hn0
    go_wp2_with fail
    go_loop [9, 11] (fun v9 v11 => v9 = .bool false ∧ v11 = .int .i64 0) (fun _ _ => 0)
    case atStart => exact ⟨rfl, rfl⟩
    case round =>
      obtain ⟨rfl, rfl⟩ := hrel
      go_wp2_with (go_at_call 36; refine (HA.out _).mono ?_; rintro e w2 ⟨rfl, hb2⟩; have HB2 := Aside0.mk hb2; clear hb2)
      go_ret
      exact ⟨rfl, (HB1.out.trans ((below_alloc (Below.refl _ _) _).mono HB1.out.size)).trans (HB2.out.mono (by have := HB1.out.size; simp; omega))⟩
  · have hn0I : 0 < (n : Int) := by omega
    go_wp2_with fail
    go_loop [9, 11] (fun v9 v11 => v9 = .bool false ∧ v11 = .int .i64 0) (fun _ _ => 0)
    case atStart => exact ⟨rfl, rfl⟩
    case round =>
      obtain ⟨rfl, rfl⟩ := hrel
      go_wp2_with (go_at_call 36; refine (HA.out _).mono ?_; rintro e w2 ⟨rfl, hb2⟩; have HB2 := Aside0.mk hb2; clear hb2)
      go_ret
      exact ⟨rfl, (HB1.out.trans ((below_alloc (Below.refl _ _) _).mono HB1.out.size)).trans (HB2.out.mono (by have := HB1.out.size; simp; omega))⟩

set_option maxRecDepth 100000 in
set_option maxHeartbeats 1600000 in
theorem joins_zk (w : World) (A : Option Addr) (n c : Nat) (hnm : n ≤ 9223372036854775807) (k : Int) (h : k < 1) (hJ : Calls Try.prog 39 #[.slice A n c, .int .i64 0, .int .i64 k] w fun e w' => e = .returned (.tuple #[.slice none 0 0, .bool false]) ∧ Below w.heap.size w w') :
    Calls Try.prog 10 #[.slice A n c, .int .i64 0, .int .i64 k] w fun e w' => e = .returned (.bool true) ∧ Below w.heap.size w w' := by
  have HJ := Aside0.mk hJ
  clear hJ
  have HA := Aside0.mk answers09
  go_enter Try.func10, Try.ntmps10
  go_wp2_with fail
  refine HJ.out.mono ?_
  rintro e w1 ⟨rfl, hb1⟩
  have HB1 := Aside0.mk hb1
  clear hb1
  rcases Nat.eq_zero_or_pos n with hn0 | hn0
  · subst hn0
    go_wp2_with fail
    go_loop [9, 11] (fun v9 v11 => v9 = .bool false ∧ v11 = .int .i64 0) (fun _ _ => 0)
    case atStart => exact ⟨rfl, rfl⟩
    case round =>
      obtain ⟨rfl, rfl⟩ := hrel
      go_wp2_with (go_at_call 36; refine (HA.out _).mono ?_; rintro e w2 ⟨rfl, hb2⟩; have HB2 := Aside0.mk hb2; clear hb2)
      go_ret
      exact ⟨rfl, (HB1.out.trans ((below_alloc (Below.refl _ _) _).mono HB1.out.size)).trans (HB2.out.mono (by have := HB1.out.size; simp; omega))⟩
  · have hn0I : 0 < (n : Int) := by omega
    go_wp2_with fail
    go_loop [9, 11] (fun v9 v11 => v9 = .bool false ∧ v11 = .int .i64 0) (fun _ _ => 0)
    case atStart => exact ⟨rfl, rfl⟩
    case round =>
      obtain ⟨rfl, rfl⟩ := hrel
      go_wp2_with (go_at_call 36; refine (HA.out _).mono ?_; rintro e w2 ⟨rfl, hb2⟩; have HB2 := Aside0.mk hb2; clear hb2)
      go_ret
      exact ⟨rfl, (HB1.out.trans ((below_alloc (Below.refl _ _) _).mono HB1.out.size)).trans (HB2.out.mono (by have := HB1.out.size; simp; omega))⟩

set_option maxRecDepth 100000 in
set_option maxHeartbeats 1600000 in
theorem joins_pk (w : World) (A : Option Addr) (n c : Nat) (hnm : n ≤ 9223372036854775807) (size k : Int) (h0 : 0 < size) (h : k < 1) (hJ : Calls Try.prog 39 #[.slice A n c, .int .i64 size, .int .i64 k] w fun e w' => e = .returned (.tuple #[.slice none 0 0, .bool false]) ∧ Below w.heap.size w w') :
    Calls Try.prog 10 #[.slice A n c, .int .i64 size, .int .i64 k] w fun e w' => e = .returned (.bool true) ∧ Below w.heap.size w w' := by
  have h1 : (size == 0) = false := by simp; omega
  have HJ := Aside0.mk hJ
  clear hJ
  have HA := Aside0.mk answers09
  go_enter Try.func10, Try.ntmps10
  go_wp2_with fail
  refine HJ.out.mono ?_
  rintro e w1 ⟨rfl, hb1⟩
  have HB1 := Aside0.mk hb1
  clear hb1
  rcases Nat.eq_zero_or_pos n with hn0 | hn0
  · subst hn0
    go_wp2_with fail
    go_loop [9, 11] (fun v9 v11 => v9 = .bool false ∧ v11 = .int .i64 0) (fun _ _ => 0)
    case atStart => exact ⟨rfl, rfl⟩
    case round =>
      obtain ⟨rfl, rfl⟩ := hrel
      go_wp2_with (go_at_call 36; refine (HA.out _).mono ?_; rintro e w2 ⟨rfl, hb2⟩; have HB2 := Aside0.mk hb2; clear hb2)
      go_ret
      exact ⟨rfl, (HB1.out.trans ((below_alloc (Below.refl _ _) _).mono HB1.out.size)).trans (HB2.out.mono (by have := HB1.out.size; simp; omega))⟩
  · have hn0I : 0 < (n : Int) := by omega
    go_wp2_with fail
    go_loop [9, 11] (fun v9 v11 => v9 = .bool false ∧ v11 = .int .i64 0) (fun _ _ => 0)
    case atStart => exact ⟨rfl, rfl⟩
    case round =>
      obtain ⟨rfl, rfl⟩ := hrel
      go_wp2_with (go_at_call 36; refine (HA.out _).mono ?_; rintro e w2 ⟨rfl, hb2⟩; have HB2 := Aside0.mk hb2; clear hb2)
      go_ret
      exact ⟨rfl, (HB1.out.trans ((below_alloc (Below.refl _ _) _).mono HB1.out.size)).trans (HB2.out.mono (by have := HB1.out.size; simp; omega))⟩

set_option maxRecDepth 100000 in
set_option maxHeartbeats 1600000 in
theorem joins_zn (w : World) (A : Option Addr) (n c : Nat) (hnm : n ≤ 9223372036854775807) (k : Int) (h : 1 ≤ k) (hn : 0 < n) (hJ : Calls Try.prog 39 #[.slice A n c, .int .i64 0, .int .i64 k] w fun e w' => e = .returned (.tuple #[.slice none 0 0, .bool false]) ∧ Below w.heap.size w w') :
    Calls Try.prog 10 #[.slice A n c, .int .i64 0, .int .i64 k] w fun e w' => e = .returned (.bool true) ∧ Below w.heap.size w w' := by
  have h1 : ((n : Int) == 0) = false := by simp; omega
  have h2 : (n == 0) = false := by simp; omega
  have hn0 := hn
  have HJ := Aside0.mk hJ
  clear hJ
  have HA := Aside0.mk answers09
  go_enter Try.func10, Try.ntmps10
  go_wp2_with fail
  refine HJ.out.mono ?_
  rintro e w1 ⟨rfl, hb1⟩
  have HB1 := Aside0.mk hb1
  clear hb1
  have hn0I : 0 < (n : Int) := by omega
  go_wp2_with fail
  go_loop [9, 11] (fun v9 v11 => v9 = .bool false ∧ v11 = .int .i64 0) (fun _ _ => 0)
  case atStart => exact ⟨rfl, rfl⟩
  case round =>
    obtain ⟨rfl, rfl⟩ := hrel
    go_wp2_with (go_at_call 36; refine (HA.out _).mono ?_; rintro e w2 ⟨rfl, hb2⟩; have HB2 := Aside0.mk hb2; clear hb2)
    go_ret
    exact ⟨rfl, (HB1.out.trans ((below_alloc (Below.refl _ _) _).mono HB1.out.size)).trans (HB2.out.mono (by have := HB1.out.size; simp; omega))⟩

set_option maxRecDepth 100000 in
set_option maxHeartbeats 1600000 in
theorem joins_pn (w : World) (A : Option Addr) (n c : Nat) (hnm : n ≤ 9223372036854775807) (a b q : Nat) (ha : 0 < a) (ham : a ≤ 9223372036854775807) (hb : 0 < b) (hq : ((a : Int) - 1) / (b : Int) = (q : Int)) (hn : n ≠ q + 1) (hJ : Calls Try.prog 39 #[.slice A n c, .int .i64 a, .int .i64 b] w fun e w' => e = .returned (.tuple #[.slice none 0 0, .bool false]) ∧ Below w.heap.size w w') :
    Calls Try.prog 10 #[.slice A n c, .int .i64 a, .int .i64 b] w fun e w' => e = .returned (.bool true) ∧ Below w.heap.size w w' := by
  have h1 : ((a : Int) == 0) = false := by simp; omega
  have h2 : (a == 0) = false := by simp; omega
  have h3 : (((n : Int) - 1) == (q : Int)) = false := by simp; omega
  have h4 : 1 ≤ (b : Int) := by omega
  have h5 : 0 < (a : Int) := by omega
  clear hn
  have HJ := Aside0.mk hJ
  clear hJ
  have HA := Aside0.mk answers09
  go_enter Try.func10, Try.ntmps10
  go_wp2_with fail
  refine HJ.out.mono ?_
  rintro e w1 ⟨rfl, hb1⟩
  have HB1 := Aside0.mk hb1
  clear hb1
  rcases Nat.eq_zero_or_pos n with hn0 | hn0
  · subst hn0
    go_wp2_with fail
    go_loop [9, 11] (fun v9 v11 => v9 = .bool false ∧ v11 = .int .i64 0) (fun _ _ => 0)
    case atStart => exact ⟨rfl, rfl⟩
    case round =>
      obtain ⟨rfl, rfl⟩ := hrel
      go_wp2_with (go_at_call 36; refine (HA.out _).mono ?_; rintro e w2 ⟨rfl, hb2⟩; have HB2 := Aside0.mk hb2; clear hb2)
      go_ret
      exact ⟨rfl, (HB1.out.trans ((below_alloc (Below.refl _ _) _).mono HB1.out.size)).trans (HB2.out.mono (by have := HB1.out.size; simp; omega))⟩
  · have hn0I : 0 < (n : Int) := by omega
    go_wp2_with fail
    go_loop [9, 11] (fun v9 v11 => v9 = .bool false ∧ v11 = .int .i64 0) (fun _ _ => 0)
    case atStart => exact ⟨rfl, rfl⟩
    case round =>
      obtain ⟨rfl, rfl⟩ := hrel
      go_wp2_with (go_at_call 36; refine (HA.out _).mono ?_; rintro e w2 ⟨rfl, hb2⟩; have HB2 := Aside0.mk hb2; clear hb2)
      go_ret
      exact ⟨rfl, (HB1.out.trans ((below_alloc (Below.refl _ _) _).mono HB1.out.size)).trans (HB2.out.mono (by have := HB1.out.size; simp; omega))⟩

set_option maxRecDepth 100000 in
set_option maxHeartbeats 4000000 in
theorem joins_ne (w : World) (A : Option Addr) (n c : Nat) (xss : List (List Int)) (hC : Kd.C u8s w A n xss) (ht : xss.flatten.length ≤ 1048576) (a b q : Nat) (ha : 0 < a) (ham : a ≤ 9223372036854775807) (hb : 0 < b) (hq : ((a : Int) - 1) / (b : Int) = (q : Int)) (hn : n = q + 1) (hne : anyNe xss (b : Int) = true) (hJ : Calls Try.prog 39 #[.slice A n c, .int .i64 a, .int .i64 b] w fun e w' => e = .returned (.tuple #[.slice none 0 0, .bool false]) ∧ Below w.heap.size w w') :
    Calls Try.prog 10 #[.slice A n c, .int .i64 a, .int .i64 b] w fun e w' => e = .returned (.bool true) ∧ Below w.heap.size w w' := by
  have h1 : ((a : Int) == 0) = false := by simp; omega
  have h2 : (a == 0) = false := by simp; omega
  have h3 : (((n : Int) - 1) == (q : Int)) = true := by simp; omega
  have h4 : 1 ≤ (b : Int) := by omega
  have h5 : 0 < (a : Int) := by omega
  have hnm := Kd.C_max hC
  have HC := Aside0.mk hC
  have HN := Aside0.mk (Kd.C_len hC)
  have HT := Aside0.mk ht
  have HA := Aside0.mk answers09
  clear hC ht hn
  have HNE := Aside0.mk hne
  have HJ := Aside0.mk hJ
  clear hJ hne
  go_enter Try.func10, Try.ntmps10
  go_wp2_with fail
  refine HJ.out.mono ?_
  rintro e w1 ⟨rfl, hb1⟩
  have HB1 := Aside0.mk hb1
  clear hb1
  go_wp2_with fail
  clear hq h1 h2 h3
  go_loopw [9, 10, 11] (fun v9 v10 v11 wr => ∃ (j m : Nat) (x : Bool) (B : Option Addr) (d : Nat), j ≤ n ∧ v11 = .int .i64 j ∧ v9 = .bool x ∧ v10 = .slice B m d ∧ m ≤ 1048576 ∧ Aside0 (m = (xss.take j).flatten.length) ∧ Aside0 (Kd.R u8 5 wr w1.heap.size (fun _ => True) (.slice B m d) (xss.take j).flatten) ∧ Aside0 (Below w.heap.size w wr) ∧ Aside0 (Below w1.heap.size w1 wr) ∧ Aside0 (x = !anyNe (xss.take j) (b : Int))) (fun _ _ v11 _ => n - (intOf v11).toNat)
  case atStart => exact ⟨0, 0, true, some ⟨w1.heap.size, 0, none⟩, 0, by omega, rfl, rfl, rfl, by omega, ⟨by simp⟩, ⟨by have := R_empty u8 5 w1 w1.heap.size (Nat.le_refl _); simpa using this⟩, ⟨HB1.out.trans ((below_alloc (Below.refl _ _) _).mono HB1.out.size)⟩, ⟨below_alloc (Below.refl _ _) _⟩, ⟨rfl⟩⟩
  case round =>
    obtain ⟨j, m, x, B, d, hj, rfl, rfl, rfl, hm, HM, HR, HB, HW, HX⟩ := hrel
    cases x with
    | false =>
      by_cases hjn : j < n
      · go_wp2_with (go_at_call 36; refine (HA.out _).mono ?_; rintro e w2 ⟨rfl, hb2⟩; have HB2 := Aside0.mk hb2; clear hb2)
        go_ret
        exact ⟨rfl, HB.out.trans (HB2.out.mono HB.out.size)⟩
      · go_wp2_with (go_at_call 36; refine (HA.out _).mono ?_; rintro e w2 ⟨rfl, hb2⟩; have HB2 := Aside0.mk hb2; clear hb2)
        go_ret
        exact ⟨rfl, HB.out.trans (HB2.out.mono HB.out.size)⟩
    | true =>
      by_cases hlt : j < n
      · have hs1 := sum_len xss j (by rw [HN.out]; exact hlt)
        obtain ⟨ad, A0, c0, rfl, hx, hl0, hC0⟩ := row_at (Kd.C_below HC.out HB.out) j hlt
        have hm2 : m + (xss.getD j []).length ≤ 1048576 := by
          have h1 := flat_le xss (j + 1)
          have h3 := HT.out
          have h4 := HM.out
          omega
        have hml := HM.out
        obtain ⟨v', W', hrun, hq, hg, hat⟩ := R_append_row (P := Try.prog) (Value.int .u8) (0 : Int) wr w1.heap.size 36 36 5 _ 1 Try.underlying36 info5 rfl (c := c0) HR.out hC0 (by rw [← hml]; omega) (by omega) HW.out.size (fun _ _ => trivial)
        have hx2 : Aside0 (((((xss.getD j []).length : Nat) : Int) == (b : Int)) = !anyNe (xss.take (j + 1)) (b : Int)) := ⟨anyNe_snoc xss (b : Int) j (by rw [HN.out]; exact hlt) (by have := HX.out; simpa using this)⟩
        rw [← take_snoc_flat xss j (by rw [HN.out]; exact hlt)] at hq
        obtain ⟨B', d', rfl⟩ := Kd.R_slice hq
        rw [hs1, ← hml] at hq hrun
        have hbw := HW.out.grown hg HW.out.size (fun i hi => Kd.R_base HR.out i hi)
        have hbl := HB.out.grown hg HB.out.size (fun i hi => Nat.le_trans HB1.out.size (Kd.R_base HR.out i hi))
        generalize (xss.getD j []).length = q at *
        obtain ⟨x2, hx3⟩ : ∃ x2, ((q : Int) == (b : Int)) = x2 := ⟨_, rfl⟩
        rw [hx3] at hx2
        have HR' := Aside0.mk hrun
        have HT' := Aside0.mk (And.intro hs1 (And.intro hq (And.intro hbl hbw)))
        have HM' := Aside0.mk hml
        clear hrun hs1 hq hbl hbw hat hg hC0 hml hl0
        go_wp2_with (at_builtin; refine wpList_append_run rfl _ _ _ _ rfl rfl rfl HR'.out ?_)
        go_roundw
        case rel => exact ⟨j + 1, m + q, x2, B', d', by omega, by go_num, rfl, rfl, hm2, ⟨by rw [HT'.out.1, ← HM'.out]⟩, ⟨HT'.out.2.1⟩, ⟨HT'.out.2.2.1⟩, ⟨HT'.out.2.2.2⟩, ⟨hx2.out⟩⟩
        case measure => simp [intOf]; omega
      · obtain rfl : j = n := by omega
        have e : xss.take j = xss := List.take_of_length_le (by rw [HN.out]; exact Nat.le_refl _)
        exfalso
        have h1 := HX.out
        rw [e, HNE.out] at h1
        exact absurd h1 (by simp)

set_option maxRecDepth 100000 in
set_option maxHeartbeats 4000000 in
theorem joins_all (w : World) (A : Option Addr) (n c : Nat) (xss : List (List Int)) (hC : Kd.C u8s w A n xss) (ht : xss.flatten.length ≤ 1048576) (a b q : Nat) (ha : 0 < a) (ham : a ≤ 9223372036854775807) (hb : 0 < b) (hq : ((a : Int) - 1) / (b : Int) = (q : Int)) (hn : n = q + 1) (hat : a ≤ xss.flatten.length) (hne : anyNe xss (b : Int) = false) (hJ : Calls Try.prog 39 #[.slice A n c, .int .i64 a, .int .i64 b] w fun e w' => ∃ B, e = .returned (.tuple #[.slice B a a, .bool true]) ∧ Rd w' w.heap.size B a (xss.flatten.take a) ∧ Below w.heap.size w w') :
    Calls Try.prog 10 #[.slice A n c, .int .i64 a, .int .i64 b] w fun e w' => e = .returned (.bool true) ∧ Below w.heap.size w w' := by
  have h1 : ((a : Int) == 0) = false := by simp; omega
  have h2 : (a == 0) = false := by simp; omega
  have h3 : (((n : Int) - 1) == (q : Int)) = true := by simp; omega
  have h4 : 1 ≤ (b : Int) := by omega
  have h5 : 0 < (a : Int) := by omega
  have hnm := Kd.C_max hC
  have HC := Aside0.mk hC
  have HN := Aside0.mk (Kd.C_len hC)
  have HT := Aside0.mk ht
  have HA := Aside0.mk answers09
  clear hC ht hn
  have HNE := Aside0.mk hne
  have HJ := Aside0.mk hJ
  have HAT := Aside0.mk hat
  clear hJ hne hat
  go_enter Try.func10, Try.ntmps10
  go_wp2_with fail
  refine HJ.out.mono ?_
  rintro e w1 ⟨BJ, rfl, hRd, hb1⟩
  have HB1 := Aside0.mk hb1
  have HRD := Aside0.mk hRd.1
  clear hb1 hRd
  go_wp2_with fail
  clear hq h1 h2 h3
  go_loopw [9, 10, 11] (fun v9 v10 v11 wr => ∃ (j m : Nat) (x : Bool) (B : Option Addr) (d : Nat), j ≤ n ∧ v11 = .int .i64 j ∧ v9 = .bool x ∧ v10 = .slice B m d ∧ m ≤ 1048576 ∧ Aside0 (m = (xss.take j).flatten.length) ∧ Aside0 (Kd.R u8 5 wr w1.heap.size (fun _ => True) (.slice B m d) (xss.take j).flatten) ∧ Aside0 (Below w.heap.size w wr) ∧ Aside0 (Below w1.heap.size w1 wr) ∧ Aside0 (x = !anyNe (xss.take j) (b : Int))) (fun _ _ v11 _ => n - (intOf v11).toNat)
  case atStart => exact ⟨0, 0, true, some ⟨w1.heap.size, 0, none⟩, 0, by omega, rfl, rfl, rfl, by omega, ⟨by simp⟩, ⟨by have := R_empty u8 5 w1 w1.heap.size (Nat.le_refl _); simpa using this⟩, ⟨HB1.out.trans ((below_alloc (Below.refl _ _) _).mono HB1.out.size)⟩, ⟨below_alloc (Below.refl _ _) _⟩, ⟨rfl⟩⟩
  case round =>
    obtain ⟨j, m, x, B, d, hj, rfl, rfl, rfl, hm, HM, HR, HB, HW, HX⟩ := hrel
    cases x with
    | false =>
      exfalso
      have h1 := HX.out
      have h2 := anyNe_take xss (b : Int) j HNE.out
      rw [h2] at h1
      exact absurd h1 (by simp)
    | true =>
      by_cases hlt : j < n
      · have hs1 := sum_len xss j (by rw [HN.out]; exact hlt)
        obtain ⟨ad, A0, c0, rfl, hx, hl0, hC0⟩ := row_at (Kd.C_below HC.out HB.out) j hlt
        have hm2 : m + (xss.getD j []).length ≤ 1048576 := by
          have h1 := flat_le xss (j + 1)
          have h3 := HT.out
          have h4 := HM.out
          omega
        have hml := HM.out
        obtain ⟨v', W', hrun, hq, hg, hat⟩ := R_append_row (P := Try.prog) (Value.int .u8) (0 : Int) wr w1.heap.size 36 36 5 _ 1 Try.underlying36 info5 rfl (c := c0) HR.out hC0 (by rw [← hml]; omega) (by omega) HW.out.size (fun _ _ => trivial)
        have hx2 : Aside0 (((((xss.getD j []).length : Nat) : Int) == (b : Int)) = !anyNe (xss.take (j + 1)) (b : Int)) := ⟨anyNe_snoc xss (b : Int) j (by rw [HN.out]; exact hlt) (by have := HX.out; simpa using this)⟩
        rw [← take_snoc_flat xss j (by rw [HN.out]; exact hlt)] at hq
        obtain ⟨B', d', rfl⟩ := Kd.R_slice hq
        rw [hs1, ← hml] at hq hrun
        have hbw := HW.out.grown hg HW.out.size (fun i hi => Kd.R_base HR.out i hi)
        have hbl := HB.out.grown hg HB.out.size (fun i hi => Nat.le_trans HB1.out.size (Kd.R_base HR.out i hi))
        generalize (xss.getD j []).length = q at *
        obtain ⟨x2, hx3⟩ : ∃ x2, ((q : Int) == (b : Int)) = x2 := ⟨_, rfl⟩
        rw [hx3] at hx2
        have HR' := Aside0.mk hrun
        have HT' := Aside0.mk (And.intro hs1 (And.intro hq (And.intro hbl hbw)))
        have HM' := Aside0.mk hml
        clear hrun hs1 hq hbl hbw hat hg hC0 hml hl0
        go_wp2_with (at_builtin; refine wpList_append_run rfl _ _ _ _ rfl rfl rfl HR'.out ?_)
        go_roundw
        case rel => exact ⟨j + 1, m + q, x2, B', d', by omega, by go_num, rfl, rfl, hm2, ⟨by rw [HT'.out.1, ← HM'.out]⟩, ⟨HT'.out.2.1⟩, ⟨HT'.out.2.2.1⟩, ⟨HT'.out.2.2.2⟩, ⟨hx2.out⟩⟩
        case measure => simp [intOf]; omega
      · obtain rfl : j = n := by omega
        have e : xss.take j = xss := List.take_of_length_le (by rw [HN.out]; exact Nat.le_refl _)
        have hmt := HM.out
        have hrt := HR.out
        rw [e] at hmt hrt
        have had : a ≤ m := by rw [hmt]; exact HAT.out
        have hmd := (Kd.R_reads' hrt).2.1
        obtain ⟨i5, hi5, _, _, _⟩ := info_parts info5
        have kt := to_run (P := Try.prog) 36 5 Try.underlying36 hi5 B m d a had hmd
        have hc1 := to_C (0 : Int) a (R_C (hmt ▸ hrt)) HAT.out
        have HC1 := Aside0.mk hc1
        have HC2 := Aside0.mk (Kd.C_below HRD.out HW.out)
        have q0 := fun m : After wr => Kd.C_string (P := Try.prog) (c := a) Try.underlying36 Try.underlying5 Try.underlying9 (Kd.C_below HC2.out m.below)
        have q1 := fun m : After wr => Kd.C_string (P := Try.prog) (c := d) Try.underlying36 Try.underlying5 Try.underlying9 (Kd.C_below HC1.out m.below)
        have hamI : (a : Int) ≤ (m : Int) := by omega
        clear hmt hrt hc1 hi5 e
        go_wp2
        refine wp_region_after wr (by kernel_rfl) (by kernel_rfl) (Below.refl _ _) ?_
        repeat (first | go_big_quiet_skip | (go_big_quiet_want; go_big_quiet_op; first | go_big_quiet_on | (apply Exists.intro; refine ⟨fun m => ?_, ?_⟩; (go_at_call 36; exact after_call (answers09 _)); go_big_quiet_on)))
        refine wpQuiet_nil ?_
        rintro _ ⟨m, rfl⟩
        go_wp2
        go_ret
        exact ⟨rfl, HB.out.trans (m.below.mono HB.out.size)⟩

set_option maxRecDepth 100000 in
set_option maxHeartbeats 4000000 in
theorem joins_zero (w : World) (A : Option Addr) (c : Nat) (k : Int) (h : 1 ≤ k) (hJ : Calls Try.prog 39 #[.slice A 0 c, .int .i64 0, .int .i64 k] w fun e w' => ∃ B, e = .returned (.tuple #[.slice B 0 0, .bool true]) ∧ Rd w' w.heap.size B 0 [] ∧ Below w.heap.size w w') :
    Calls Try.prog 10 #[.slice A 0 c, .int .i64 0, .int .i64 k] w fun e w' => e = .returned (.bool true) ∧ Below w.heap.size w w' := by
  have HJ := Aside0.mk hJ
  clear hJ
  go_enter Try.func10, Try.ntmps10
  go_wp2_with fail
  refine HJ.out.mono ?_
  rintro e w1 ⟨BJ, rfl, hRd, hb1⟩
  have HB1 := Aside0.mk hb1
  have HRD := Aside0.mk hRd.1
  clear hb1 hRd
  go_wp2_with fail
  go_loop [9, 10, 11] (fun v9 v10 v11 => v9 = .bool true ∧ v10 = .slice (some ⟨w1.heap.size, 0, none⟩) 0 0 ∧ v11 = .int .i64 0) (fun _ _ _ => 0)
  case atStart => exact ⟨rfl, rfl, rfl⟩
  case round =>
    obtain ⟨rfl, rfl, rfl⟩ := hrel
    obtain ⟨i5, hi5, _, _, _⟩ := info_parts info5
    have kt : ∀ W : World, (Instr.slice 36 (.slice (some ⟨w1.heap.size, 0, none⟩) 0 0) none (some (.int .i64 0)) none).run Try.prog W = .ok (.slice (some ⟨w1.heap.size, 0, none⟩) 0 0) W := fun W => to_run (P := Try.prog) 36 5 Try.underlying36 hi5 (some ⟨w1.heap.size, 0, none⟩) 0 0 0 (by decide) (by decide) W
    obtain ⟨wr, hwr⟩ : ∃ wr, wr = w1.alloc (.cells #[] 5) := ⟨_, rfl⟩
    have hHB : Below w.heap.size w wr := by rw [hwr]; exact HB1.out.trans ((below_alloc (Below.refl _ _) _).mono HB1.out.size)
    have hc1 : Kd.C u8 wr (some ⟨w1.heap.size, 0, none⟩) 0 [] := by
      have h := R_empty u8 5 w1 w1.heap.size (Nat.le_refl _)
      rw [hwr]
      exact R_C h
    have hc2 : Kd.C u8 wr BJ 0 [] := by rw [hwr]; exact Kd.C_alloc HRD.out _
    have HC1 := Aside0.mk hc1
    have HC2 := Aside0.mk hc2
    have HB := Aside0.mk hHB
    have q0 := fun m : After wr => Kd.C_string (P := Try.prog) (c := 0) Try.underlying36 Try.underlying5 Try.underlying9 (Kd.C_below HC2.out m.below)
    have q1 := fun m : After wr => Kd.C_string (P := Try.prog) (c := 0) Try.underlying36 Try.underlying5 Try.underlying9 (Kd.C_below HC1.out m.below)
    clear hc1 hc2 hi5 hHB
    rw [← hwr]
    clear hwr
    go_wp2
    refine wp_region_after wr (by kernel_rfl) (by kernel_rfl) (Below.refl _ _) ?_
    repeat (first | go_big_quiet_skip | (go_big_quiet_want; go_big_quiet_op; first | go_big_quiet_on | (apply Exists.intro; refine ⟨fun m => ?_, ?_⟩; (go_at_call 36; exact after_call (answers09 _)); go_big_quiet_on)))
    refine wpQuiet_nil ?_
    rintro _ ⟨m, rfl⟩
    go_wp2
    go_ret
    exact ⟨rfl, HB.out.trans (m.below.mono HB.out.size)⟩
theorem mu_rows (l : List (List Int)) : l.flatten.length ≤ (l.map fun r => (r.map fun _ => 1).sum + 1).sum := by
  induction l with
  | nil => simp
  | cons r l ih =>
    rw [List.flatten_cons, List.length_append, List.map_cons, List.sum_cons, sum_ones]
    omega
theorem anyNe_all (xss : List (List Int)) (b : Nat) (h : anyNe xss (b : Int) = false) : ∀ c ∈ xss, c.length = b := by
  unfold anyNe at h
  rw [List.any_eq_false] at h
  intro c hc
  have := h c hc
  simp at this
  omega
theorem joins_law (w : World) (A : Option Addr) (len c : Nat) (l : List (List Int)) (hl : l.length = len) (hC : Kd.C u8s w A len l) (hlc : len ≤ c) (_ : ∀ r ∈ l, ∀ a ∈ r, (Lit.int .u8 a).wf = true) (hm : (l.map fun r => (r.map fun _ => 1).sum + 1).sum + 1 ≤ 1048576)
    (size : Int) (hs : (Lit.int .i64 size).wf = true) (k : Int) (hk : (Lit.int .i64 k).wf = true) :
    Calls Try.prog 10 #[.slice A len c, .int .i64 size, .int .i64 k] w fun e w' => e = .returned (.bool true) ∧ Below w.heap.size w w' := by
  obtain ⟨hs0, hs1⟩ := i64_bd hs
  obtain ⟨hk0, hk1⟩ := i64_bd hk
  have hnm := Kd.C_max hC
  have hfl : l.flatten.length ≤ 1048576 := Nat.le_trans (mu_rows l) (by omega)
  by_cases h1 : size < 0
  · exact joins_neg w A len c hnm size k h1 (Join_arg w _ A len c rfl size k (.inl h1))
  by_cases h2 : k < 1
  · by_cases h3 : size = 0
    · subst h3
      exact joins_zk w A len c hnm k h2 (Join_arg w _ A len c rfl 0 k (.inr h2))
    · exact joins_pk w A len c hnm size k (by omega) h2 (Join_arg w _ A len c rfl size k (.inr h2))
  obtain ⟨a, rfl⟩ := Int.eq_ofNat_of_zero_le (show 0 ≤ size by omega)
  obtain ⟨b, rfl⟩ := Int.eq_ofNat_of_zero_le (show 0 ≤ k by omega)
  have hb : 0 < b := by omega
  by_cases h3 : a = 0
  · subst h3
    have hz := ncol_zero b hb
    by_cases h4 : len = 0
    · subst h4
      obtain rfl : l = [] := List.eq_nil_of_length_eq_zero hl
      exact joins_zero w A c b (by omega) (Join_yes w A 0 c [] hC hlc 0 b hb (by omega) hz.symm rfl (by simp) (by simp))
    · exact joins_zn w A len c hnm b (by omega) (by omega) (Join_count w A len c 0 b hb (by omega) (by rw [hz]; exact h4))
  · obtain ⟨q, hq⟩ : ∃ q, q = (a - 1) / b := ⟨_, rfl⟩
    have hn := ncol_pos a b hb (by omega)
    rw [← hq] at hn
    have hqI : ((a : Int) - 1) / (b : Int) = (q : Int) := by rw [hq, Int.natCast_ediv, Int.natCast_sub (by omega)]; rfl
    by_cases h4 : len = q + 1
    · rcases hne : anyNe l (b : Int) with _ | _
      · have hlen := flat_length l b (anyNe_all l b hne)
        rw [hl] at hlen
        have hle : a ≤ l.flatten.length := by
          rw [hlen, h4]
          exact (ncol_lo a b q hb hn).2
        exact joins_all w A len c l hC hfl a b q (by omega) (by omega) hb hqI h4 hle hne (Join_yes w A len c l hC hlc a b hb (by omega) (h4.trans hn.symm) hne (by omega) hle)
      · exact joins_ne w A len c l hC hfl a b q (by omega) (by omega) hb hqI h4 hne (Join_len w A len c l hC hlc a b hb (by omega) (h4.trans hn.symm) hne)
    · exact joins_pn w A len c hnm a b q (by omega) (by omega) hb hqI h4 (Join_count w A len c a b hb (by omega) (by rw [hn]; exact h4))
end Go.Proofs.Ytpeiejkcoadhfaa
