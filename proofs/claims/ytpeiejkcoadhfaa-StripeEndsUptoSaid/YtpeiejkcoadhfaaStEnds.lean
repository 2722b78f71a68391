/- The law StripeEnds, walked. -/
import Derived.Test.YtpeiejkcoadhfaaStArgs
import Derived.Test.YtpeiejkcoadhfaaStCounts
namespace Go.Proofs.Ytpeiejkcoadhfaa
open Go.RowKit Go.Shelf Go.Proofs.YtpeiejkcoadhfaaW.PrintWords Go.Proofs.YtpeiejkcoadhfaaW.PrintMore
open Go.BigFrame

theorem ncol_snoc (len k : Nat) (hk : 0 < k) : ncol (len + 1) k = ncol len k + (if len % k = 0 then 1 else 0) := by
  rw [ncol_pos (len + 1) k hk (by omega), Nat.add_sub_cancel, ncol_div len k hk]
  split <;> split <;> omega
theorem colOf_snoc (xs : List Int) (x : Int) (k j : Nat) (h : (j + 1) * k ≤ xs.length) : colOf (xs ++ [x]) k j = colOf xs k j := by
  have hp : (j + 1) * k = j * k + k := by rw [Nat.add_mul, Nat.one_mul]
  rw [colOf_full _ _ _ h, colOf_full _ _ _ (by rw [List.length_append]; simp; omega), List.drop_append_of_le_length (by omega), List.take_append_of_le_length (by rw [List.length_drop]; omega)]
theorem split_snoc (xs : List Int) (x : Int) (k n : Nat) (hk : 0 < k) (hn : ncol xs.length k = n + 1) : (splitL (xs ++ [x]) k).take n = (splitL xs k).take n := by
  obtain ⟨h1, _⟩ := ncol_lo _ _ _ hk hn
  unfold splitL
  rw [← List.map_take, ← List.map_take, List.take_range, List.take_range]
  have e1 : min n (ncol (xs ++ [x]).length k) = n := by
    rw [List.length_append, List.length_singleton, ncol_snoc _ _ hk]
    omega
  have e2 : min n (ncol xs.length k) = n := by omega
  rw [e1, e2]
  apply List.map_congr_left
  intro j hj
  have hj := List.mem_range.1 hj
  refine colOf_snoc xs x k j ?_
  have := Nat.mul_le_mul_right k (show j + 1 ≤ n by omega)
  omega
/-- The last column behind the document's end. -/
theorem colOf_end (xs : List Int) (k j i : Nat) (h1 : xs.length - j * k ≤ i) (h2 : i < k) : (colOf xs k j).getD i 0 = 0 := by
  unfold colOf
  have hl : ((xs.drop (j * k)).take k).length ≤ i := by rw [List.length_take, List.length_drop]; omega
  rw [List.getD_eq_getElem?_getD, List.getElem?_append_right hl, List.getElem?_replicate]
  split <;> rfl

/-- What the second split is given: the document and a byte. -/
theorem more_run (w1 : World) (A : Option Addr) (len c : Nat) (l : List Int) (x : Int) (hC : Kd.C u8 w1 A len l) (hl : len ≤ 1048576) :
    ∃ B1 d1 W1 B2 d2 W2, (Builtin.append_ #[36, 36] 36 #[.slice (some ⟨w1.heap.size, 0, none⟩) 0 0, .slice A len c]).run Try.prog (w1.alloc (.cells #[] 5)) = .ok (.slice B1 len d1) W1 ∧
      (Builtin.append_ #[36, 36] 36 #[.slice B1 len d1, .slice (some ⟨W1.heap.size, 0, none⟩) 1 1]).run Try.prog (W1.alloc (.cells #[.int .u8 x] 5)) = .ok (.slice B2 (len + 1) d2) W2 ∧ Kd.C u8 W2 B2 (len + 1) (l ++ [x]) ∧ len + 1 ≤ d2 ∧ Below w1.heap.size w1 W2 := by
  obtain rfl : l.length = len := Kd.C_len hC
  obtain ⟨v1, W1, hrun1, hq1, hg1, _⟩ := R_append_row (P := Try.prog) (Value.int .u8) (0 : Int) (w1.alloc (.cells #[] 5)) w1.heap.size 36 36 5 _ 1 Try.underlying36 info5 rfl (c := c) (R_empty u8 5 w1 w1.heap.size (Nat.le_refl _)) (Kd.C_alloc hC _) (by simp; omega) (by omega) (by simp) (fun _ _ => trivial)
  rw [List.nil_append] at hq1
  obtain ⟨B1, d1, rfl⟩ := Kd.R_slice hq1
  have hb1 : Below w1.heap.size w1 W1 := (below_alloc (Below.refl _ _) _).grown hg1 (by simp) (fun i hi => by have : w1.heap.size = i := by simpa [Value.ownBlock] using hi
                                                                                                              omega)
  obtain ⟨v2, W2, hrun2, hq2, hg2, _⟩ := R_run1 (P := Try.prog) u8 (W := W1) w1.heap.size 36 36 5 _ 1 Try.underlying36 info5 rfl (by decide) (by omega) (.slice B1 l.length d1) l x [.int .u8 x] (fun _ => True) (fun _ => False) rfl (fun _ h => h.elim) (fun _ _ => trivial) hq1 hb1.size (by omega)
  obtain ⟨B2, d2, rfl⟩ := Kd.R_slice hq2
  have hlen : (l ++ [x]).length = l.length + 1 := by simp
  rw [hlen] at hq2 hrun2
  exact ⟨B1, d1, W1, B2, d2, W2, hrun1, hrun2, R_C hq2, (Kd.R_reads' hq2).2.1, hb1.grown hg2 hb1.size (fun i hi => Kd.R_base hq1 i hi)⟩

set_option maxRecDepth 100000 in
set_option maxHeartbeats 1600000 in
theorem ends_law (w : World) (A : Option Addr) (len c : Nat) (l : List Int) (hl : l.length = len) (hC : Kd.C u8 w A len l) (hlc : len ≤ c) (_ : ∀ x ∈ l, (Lit.int .u8 x).wf = true) (hm : (l.map fun _ => 1).sum + 1 ≤ 1048576) (k : Int) (hk : (Lit.int .u8 k).wf = true) (x : Int) (_ : (Lit.int .u8 x).wf = true) :
    Calls Try.prog 12 #[.slice A len c, .int .u8 k, .int .u8 x] w fun e w' => e = .returned (.bool true) ∧ Below w.heap.size w w' := by
  obtain ⟨k, rfl, hk2⟩ := u8_nt hk
  clear hk
  rw [sum_ones, hl] at hm
  have HA := Aside0.mk answers09
  by_cases h0 : k = 0
  · subst h0
    clear hC hl hk2
    go_enter Try.func12, Try.ntmps12
    go_wp2_with (go_at_call 36; refine (HA.out _).mono ?_; rintro e w1 ⟨rfl, hb1⟩)
    go_ret
    exact ⟨rfl, hb1⟩
  · have hk1 : 0 < k := by omega
    have hkI : ((k : Int) == 0) = false := by simp; omega
    have hkI2 : (k == 0) = false := by simp; omega
    have c1 := Split_any w A len c k l hC hlc hk1 (by omega) (by omega)
    by_cases hz : len = 0
    · subst hz
      obtain rfl : l = [] := List.eq_nil_of_length_eq_zero hl
      rw [ncol_zero k hk1] at c1
      have HC := Aside0.mk hC
      have HC1 := Aside0.mk c1
      clear c1 hC hl h0
      go_enter Try.func12, Try.ntmps12
      go_wp2_with fail
      refine HC1.out.mono ?_
      rintro e w1 ⟨B, d, rfl, _, hf⟩
      obtain ⟨B1, d1, W1, B2, d2, W2, hrun1, hrun2, hC2, hd2, hb2⟩ := more_run w1 A 0 c [] x (C_fr (0 : Int) HC.out hf (fun _ _ _ h => h)) (by omega)
      have c2 := Split_any W2 B2 1 d2 k [x] hC2 hd2 hk1 (by omega) (by omega)
      rw [ncol_snoc 0 k hk1, ncol_zero k hk1, if_pos (Nat.zero_mod k)] at c2
      have HR1 := Aside0.mk hrun1
      have HR2 := Aside0.mk hrun2
      have HC2 := Aside0.mk c2
      have HB2 := Aside0.mk (hf.below_ hb2)
      clear hf hrun1 hrun2 hC2 hd2 hb2 c2
      go_wp2_with (first | (at_builtin; refine wpList_append_run rfl (.tmp 19) (.tmp 20) 36 36 rfl rfl rfl HR1.out ?_) | (at_builtin; refine wpList_append_run rfl (.tmp 21) (.tmp 23) 36 36 rfl rfl rfl HR2.out ?_))
      refine HC2.out.mono ?_
      rintro e w3 ⟨B3, d3, rfl, _, hf3⟩
      have HB3 := Aside0.mk (HB2.out.trans' hf3)
      clear hf3
      go_wp2_with (go_at_call 36; refine (HA.out _).mono ?_; rintro e w4 ⟨rfl, hb4⟩; have HB4 := Aside0.mk (HB3.out.below_ hb4); clear hb4)
      go_ret
      exact ⟨rfl, HB4.out.below (Nat.le_refl _) (fun _ h => h.elim)⟩
    · obtain ⟨n, hn⟩ : ∃ n, ncol len k = n + 1 := ⟨(len - 1) / k, ncol_pos len k hk1 (by omega)⟩
      rw [hn] at c1
      obtain ⟨hp1, hp2⟩ := ncol_lo len k n hk1 hn
      obtain ⟨p, hp⟩ : ∃ p, p = n * k := ⟨_, rfl⟩
      have hpI : (n : Int) * (k : Int) = (p : Int) := by rw [hp]; simp
      have hnl : n ≤ p := by rw [hp]; exact Nat.le_mul_of_pos_right n hk1
      have hpl : p < len := by rw [hp]; exact hp1
      have hpk : len ≤ p + k := by rw [hp]; rw [Nat.add_mul, Nat.one_mul] at hp2; exact hp2
      have hend : Aside0 (∀ i, len - p ≤ i → i < k → (colOf l k n).getD i 0 = 0) := ⟨fun i h1 h2 => colOf_end l k n i (by rw [hl, ← hp]; exact h1) h2⟩
      obtain ⟨q, hq⟩ : ∃ q, q = (if len % k = 0 then 1 else 0) := ⟨_, rfl⟩
      have hsn := split_snoc l x k n hk1 (by rw [hl]; exact hn)
      have HSN := Aside0.mk hsn
      have HC := Aside0.mk hC
      have HC1 := Aside0.mk c1
      have HL := Aside0.mk hl
      have HP := Aside0.mk hp
      have HNC := Aside0.mk hn
      have HQ := Aside0.mk hq
      clear c1 hC hl h0 hp hp1 hp2 hn hz hq hsn
      go_enter Try.func12, Try.ntmps12
      go_wp2_with fail
      refine HC1.out.mono ?_
      rintro e w1 ⟨B, d, rfl, hS, hf⟩
      obtain ⟨B1, d1, W1, B2, d2, W2, hrun1, hrun2, hC2, hd2, hb2⟩ := more_run w1 A len c l x (C_fr (0 : Int) HC.out hf (fun _ _ _ h => h)) (by omega)
      have c2 := Split_any W2 B2 (len + 1) d2 k (l ++ [x]) hC2 hd2 hk1 (by omega) (by omega)
      rw [ncol_snoc len k hk1, HNC.out, ← HQ.out] at c2
      have HR1 := Aside0.mk hrun1
      have HR2 := Aside0.mk hrun2
      have HC2 := Aside0.mk c2
      have HB2 := Aside0.mk (hf.below_ hb2)
      have HS2 := Aside0.mk (Kd.S_below hS hb2)
      clear hf hrun1 hrun2 hC2 hd2 hb2 c2 hS
      go_wp2_with (first | (at_builtin; refine wpList_append_run rfl (.tmp 19) (.tmp 20) 36 36 rfl rfl rfl HR1.out ?_) | (at_builtin; refine wpList_append_run rfl (.tmp 21) (.tmp 23) 36 36 rfl rfl rfl HR2.out ?_))
      refine HC2.out.mono ?_
      rintro e w3 ⟨B3, d3, rfl, hS3, hf3⟩
      have HB3 := Aside0.mk (HB2.out.trans' hf3)
      have hS4 := S_fr HS2.out hf3 (fun _ _ _ _ h => h)
      have hd := (Kd.S_reads' hS4).2.1
      have hd3 := (Kd.S_reads' hS3).2.1
      have hsl : (splitL l k).length = n + 1 := by rw [splitL_length, HL.out, HNC.out]
      have hC4 := (Kd.S_reads' hS4).2.2
      rw [hsl] at hC4
      obtain ⟨ad, A0, c0, rfl, hx4, hl0, hC0⟩ := row_at hC4 n (by omega)
      have hgd : (splitL l k).getD n [] = colOf l k n := by
        rw [List.getD_eq_getElem?_getD, splitL_get _ _ _ (by rw [HL.out, HNC.out]; omega)]; rfl
      rw [hgd, colOf_length] at hx4 hl0 hC0
      obtain ⟨ad0, rfl, hcell⟩ := (Kd.reads_of_C (enc := Value.int .u8) (d := (0 : Int)) (h1 := fun _ => rfl) hC0).2.2 hk1
      have HCELL := Aside0.mk hcell
      have ht4 := (Kd.S_reads' (Kd.S_take (m := n) hS4 (by rw [hsl]; omega))).2.2
      have ht3 := (Kd.S_reads' (Kd.S_take (m := n) hS3 (by rw [splitL_length, List.length_append, HL.out, List.length_singleton, ncol_snoc len k hk1, HNC.out]; omega))).2.2
      rw [HSN.out] at ht3
      have htl : ((splitL l k).take n).length = n := by rw [List.length_take, hsl]; omega
      rw [htl] at ht3 ht4
      have HSM := Aside0.mk (And.intro ht3 ht4)
      obtain ⟨i36, hi36, _, _, _⟩ := info_parts info36
      have k1 := to_run (P := Try.prog) 37 36 Try.underlying37 hi36 (some ad) (n + 1) d n (by omega) hd
      have k2 := to_run (P := Try.prog) 37 36 Try.underlying37 hi36 B3 (n + 1 + q) d3 n (by omega) hd3
      have hn1 : ((n : Int) + 1 == 0) = false := by simp; omega
      have hn2 : (n + 1 == 0) = false := by simp
      have hplI : (p : Int) ≤ (len : Int) := by omega
      clear hf3 hS4 hS3 hC4 hC0 hgd hsl hcell ht3 ht4 htl hi36 hl0
      go_wp2
      go_loop [10] (fun v10 => ∃ (i : Nat), v10 = .int .i64 i ∧ len - p ≤ i ∧ i ≤ k) (fun v10 => k - (intOf v10).toNat)
      case atStart => exact ⟨len - p, by congr 1; omega, by omega, by omega⟩
      case round =>
        obtain ⟨i, rfl, hi0, hik⟩ := hrel
        by_cases hlt : i < k
        · have hc := HCELL.out i hlt
          rw [hend.out i hi0 hlt] at hc
          go_wp2
          go_round
          case rel => exact ⟨i + 1, by go_num, by omega, by omega⟩
          case measure => simp [intOf]; omega
        · obtain rfl : i = k := by omega
          have hq := HQ.out
          by_cases hmod : len % i = 0
          · rw [if_pos hmod] at hq
            subst hq
            have hmI : ((len : Int) % (i : Int) == 0) = true := by simp; omega
            clear hmod
            go_wp2
            refine wp_region_after w3 (by kernel_rfl) (by kernel_rfl) (Below.refl _ _) ?_
            repeat (first | go_big_quiet_skip | (go_big_quiet_want; go_big_quiet_op; first | go_big_quiet_on | (apply Exists.intro; refine ⟨fun m => ?_, ?_⟩; (first | (go_at_call 36; exact after_call (answers09 _)) | (go_at_call 40; exact after_drawn (same_yes _ _ _ _ _ _ _ (Kd.C_below HSM.out.1 m.below) (Kd.C_below HSM.out.2 m.below)))); go_big_quiet_on)))
            refine wpQuiet_nil ?_
            rintro _ ⟨m, rfl⟩
            go_wp2
            go_ret
            exact ⟨rfl, (HB3.out.below_ m.below).below (Nat.le_refl _) (fun _ h => h.elim)⟩
          · rw [if_neg hmod] at hq
            subst hq
            have hmI : ((len : Int) % (i : Int) == 0) = false := by simp; omega
            clear hmod
            go_wp2
            refine wp_region_after w3 (by kernel_rfl) (by kernel_rfl) (Below.refl _ _) ?_
            repeat (first | go_big_quiet_skip | (go_big_quiet_want; go_big_quiet_op; first | go_big_quiet_on | (apply Exists.intro; refine ⟨fun m => ?_, ?_⟩; (first | (go_at_call 36; exact after_call (answers09 _)) | (go_at_call 40; exact after_drawn (same_yes _ _ _ _ _ _ _ (Kd.C_below HSM.out.1 m.below) (Kd.C_below HSM.out.2 m.below)))); go_big_quiet_on)))
            refine wpQuiet_nil ?_
            rintro _ ⟨m, rfl⟩
            go_wp2
            go_ret
            exact ⟨rfl, (HB3.out.below_ m.below).below (Nat.le_refl _) (fun _ h => h.elim)⟩
end Go.Proofs.Ytpeiejkcoadhfaa
