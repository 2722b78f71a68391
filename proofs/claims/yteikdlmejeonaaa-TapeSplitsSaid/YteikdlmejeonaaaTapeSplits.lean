/- The law TapeSplits: what is taken in two parts is what is taken at once. -/
import Derived.Test.YteikdlmejeonaaaTapeAns
import Derived.Test.YteikdlmejeonaaaTapeArgs
namespace Go.Proofs.Yteikdlmejeonaaa
open Go.RowKit Go.Proofs.YteikdlmejeonaaaW.PrintWords

theorem str_add (l : List Int) (n m : Nat) : strOfNums (List.take n l) ++ strOfNums (List.take m (List.drop n l)) = strOfNums (List.take (n + m) l) := by
  apply ByteArray.ext
  apply Array.toList_inj.1
  rw [ByteArray.data_append, Array.toList_append, strOfNums_data, strOfNums_data, strOfNums_data, ← List.map_append, ← List.take_add]

theorem splits_law (w : World) (A : Option Addr) (len c : Nat) (l : List Int) (hl : l.length = len) (hC : Kd.C u8 w A len l) (_ : len ≤ c) (_ : ∀ x ∈ l, (Lit.int .u8 x).wf = true) (n : Int) (hn : (Lit.int .u8 n).wf = true) (m : Int) (hm : (Lit.int .u8 m).wf = true) :
    Calls Try.prog 6 #[.slice A len c, .int .u8 n, .int .u8 m] w fun e w' => e = .returned (.bool true) ∧ Below w.heap.size w w' := by
  have bn : 0 ≤ n ∧ n ≤ 255 := by simpa [Lit.wf, IntKind.min, IntKind.max, IntKind.signed, IntKind.bits] using hn
  have bm : 0 ≤ m ∧ m ≤ 255 := by simpa [Lit.wf, IntKind.min, IntKind.max, IntKind.signed, IntKind.bits] using hm
  obtain ⟨bn0, bn1⟩ := bn
  obtain ⟨bm0, bm1⟩ := bm
  clear hn hm
  by_cases h1 : 1000 < len
  · go_enter Try.func6, Try.ntmps6
    go_wp2_with (go_at_call 12; refine (answers_any _).mono ?_; rintro e w1 ⟨rfl, hb⟩; have HB := Aside0.mk hb; clear hb)
    go_ret
    exact ⟨rfl, HB.out⟩
  · by_cases h2 : (len : Int) < n + m
    · go_enter Try.func6, Try.ntmps6
      go_wp2_with (go_at_call 12; refine (answers_any _).mono ?_; rintro e w1 ⟨rfl, hb⟩; have HB := Aside0.mk hb; clear hb)
      go_ret
      exact ⟨rfl, HB.out⟩
    · obtain ⟨n, rfl⟩ := Int.eq_ofNat_of_zero_le bn0
      obtain ⟨m, rfl⟩ := Int.eq_ofNat_of_zero_le bm0
      have HL := Aside0.mk hl
      have HC := Aside0.mk hC
      clear hl hC
      go_enter Try.func6, Try.ntmps6
      go_wp2_with (go_at_call 7; refine (new_any _).mono ?_; rintro e w1 ⟨rfl, rfl⟩)
      obtain ⟨W2, hW2⟩ : ∃ W2, (w.alloc (.cells #[.slice none 0 0, .int .i64 0] 39)).alloc (.cells #[.slice none 0 0, .int .i64 0] 39) = W2 := ⟨_, rfl⟩
      have hb2 : Below w.heap.size w W2 := by rw [← hW2]; exact below_alloc (below_alloc (Below.refl _ _) _) _
      have hz2 : W2.heap.size = w.heap.size + 2 := by rw [← hW2]; simp
      have hs2 : Tp W2 w.heap.size w.heap.size none 0 [] 0 := by rw [← hW2]; exact tp_fr (tp_new w w.heap.size (Nat.le_refl _)) (Fr.of_below (below_alloc (Below.refl _ _) _) (fun _ => False)) (fun _ _ h => h)
      have ht2 : Tp W2 w.heap.size (w.heap.size + 1) none 0 [] 0 := by
        rw [← hW2]
        have := tp_new (w.alloc (.cells #[.slice none 0 0, .int .i64 0] 39)) w.heap.size (by simp)
        rwa [World.size_alloc] at this
      rw [hW2]
      have HB2 := Aside0.mk hb2
      have HZ2 := Aside0.mk hz2
      have HS2 := Aside0.mk hs2
      have HT2 := Aside0.mk ht2
      clear hb2 hz2 hs2 ht2 hW2
      -- s.Add(b)
      refine (add_ok _ _ _ _ _ _ _ HS2.out _ _ _ l (Kd.C_below HC.out HB2.out) HB2.out.size (by simp; omega)).mono ?_
      rintro e W3 ⟨A1, c1, rfl, hs3, hf3, hk3⟩
      have HS3 := Aside0.mk hs3
      have HB3 := Aside0.mk (HB2.out.trans (hf3.below (B := w.heap.size) HB2.out.size (fun k hk => (ts_lt HS2.out k hk).2)))
      have HT3 := Aside0.mk (tp_fr HT2.out hf3 (fun k hk hk' => by
        rcases hk with rfl | ⟨a, e, _⟩
        · rcases hk' with hk' | ⟨a, e, _⟩
          · omega
          · cases e
        · cases e))
      have HK3 := Aside0.mk (show ∀ k, TS w.heap.size A1 k → k ≠ w.heap.size + 1 from fun k hk e => by
        rcases hk3 k hk with (h | ⟨a, e, _⟩) | h
        · omega
        · cases e
        · have := HZ2.out; omega)
      have HZ3 := Aside0.mk hf3.size
      clear hs3 hf3 hk3
      go_wp2_with fail
      -- t.Add(b)
      refine (add_ok _ _ _ _ _ _ _ HT3.out _ _ _ l (Kd.C_below HC.out HB3.out) HB3.out.size (by simp; omega)).mono ?_
      rintro e W4 ⟨A2, c2, rfl, ht4, hf4, hk4⟩
      have HT4 := Aside0.mk ht4
      have HB4 := Aside0.mk (HB3.out.trans (hf4.below (B := w.heap.size) HB3.out.size (fun k hk => (ts_lt HT3.out k hk).2)))
      have HS4 := Aside0.mk (tp_fr HS3.out hf4 (fun k hk hk' => by
        rcases hk' with h | ⟨a, e, _⟩
        · exact HK3.out k hk h
        · cases e))
      have HD4 := Aside0.mk (show ∀ k, TS (w.heap.size + 1) A2 k → k ≠ w.heap.size from fun k hk e => by
        rcases hk4 k hk with (h | ⟨a, e, _⟩) | h
        · omega
        · cases e
        · have := HZ3.out; have := HZ2.out; omega)
      clear ht4 hf4 hk4
      go_wp2_with fail
      -- s.Take(n)
      refine (take_ok _ _ _ _ _ _ _ HS4.out n (by simp [HL.out]; omega) (by simp [HL.out]; omega) (by omega)).mono ?_
      rintro e W5 ⟨A3, c3, X, d1, rfl, hs5, hx5, hf5, hk5⟩
      have HS5 := Aside0.mk hs5
      have HX5 := Aside0.mk hx5
      have HB5 := Aside0.mk (HB4.out.trans (hf5.below (B := w.heap.size) HB4.out.size (fun k hk => by omega)))
      have HT5 := Aside0.mk (tp_fr HT4.out hf5 (fun k hk hk' => HD4.out k hk hk'))
      have HZ5 := Aside0.mk (Nat.lt_of_lt_of_le (tp_lt HS4.out) (Nat.le_refl _))
      have HY5 := Aside0.mk (Nat.lt_of_lt_of_le (tp_lt HT4.out) (Nat.le_refl _))
      have HV5 := Aside0.mk hf5.size
      have HK5 := Aside0.mk hk5
      clear hs5 hx5 hf5 hk5
      go_wp2_with fail
      -- s.Take(m)
      refine (take_ok _ _ _ _ _ _ _ HS5.out m (by simp [HL.out]; omega) (by simp [HL.out]; omega) (by omega)).mono ?_
      rintro e W6 ⟨A4, c4, Y, d2, rfl, hs6, hy6, hf6, hk6⟩
      have HS6 := Aside0.mk hs6
      have HY6 := Aside0.mk hy6
      have HB6 := Aside0.mk (HB5.out.trans (hf6.below (B := w.heap.size) HB5.out.size (fun k hk => by omega)))
      have HT6 := Aside0.mk (tp_fr HT5.out hf6 (fun k hk hk' => HD4.out k hk hk'))
      have HX6 := Aside0.mk (R_fr HX5.out hf6 (fun k _ hk _ e => by have := HZ5.out; omega))
      have HW6 := Aside0.mk hf6.size
      have HK6 := Aside0.mk hk6
      clear hs6 hy6 hf6 hk6
      go_wp2_with fail
      rw [← Int.natCast_add]
      -- t.Take(n + m)
      refine (take_ok _ _ _ _ _ _ _ HT6.out (n + m) (by simp [HL.out]; omega) (by simp [HL.out]; omega) (by omega)).mono ?_
      rintro e W7 ⟨A5, c5, Z, d3, rfl, ht7, hz7, hf7, hk7⟩
      have HT7 := Aside0.mk ht7
      have HU7 := Aside0.mk hz7
      have HB7 := Aside0.mk (HB6.out.trans (hf7.below (B := w.heap.size) HB6.out.size (fun k hk => by omega)))
      have HS7 := Aside0.mk (tp_fr HS6.out hf7 (fun k hk hk' => by
        subst hk'
        have h5 := HK6.out _ hk
        exact HK3.out _ (HK5.out _ h5) rfl))
      have HX7 := Aside0.mk (R_fr HX6.out hf7 (fun k _ hk _ e => by have := HY5.out; omega))
      have HY7 := Aside0.mk (R_fr HY6.out hf7 (fun k _ hk _ e => by have := HY5.out; have := HV5.out; omega))
      clear ht7 hz7 hf7 hk7
      go_wp2_with fail
      refine (answers_any _).mono ?_
      rintro e W8 ⟨rfl, hb8⟩
      have HB8 := Aside0.mk (HB7.out.trans (hb8.mono HB7.out.size))
      have HS8 := Aside0.mk (tp_fr HS7.out (Fr.of_below hb8 (fun _ => False)) (fun _ _ h => h))
      have HT8 := Aside0.mk (tp_fr HT7.out (Fr.of_below hb8 (fun _ => False)) (fun _ _ h => h))
      have hx := Kd.C_string (P := Try.prog) (c := d1) Try.underlying25 Try.underlying5 Try.underlying9 (R_C (Kd.R_below HX7.out hb8))
      have hy := Kd.C_string (P := Try.prog) (c := d2) Try.underlying25 Try.underlying5 Try.underlying9 (R_C (Kd.R_below HY7.out hb8))
      have hz := Kd.C_string (P := Try.prog) (c := d3) Try.underlying25 Try.underlying5 Try.underlying9 (R_C (Kd.R_below HU7.out hb8))
      clear hb8
      have hadd := str_add l n m
      have hsz : (strOfNums (List.take n l)).size + (strOfNums (List.take m (List.drop n l))).size ≤ 1000 := by rw [strOfNums_size, strOfNums_size, List.length_take, List.length_take, List.length_drop]; have := HL.out; omega
      go_wp2_with (first | (go_at_call 10; refine (left_any _ _ _ _ _ _ _ (by first | exact HS8.out | exact HT8.out)).mono ?_; rintro e w' ⟨rfl, rfl⟩) | (go_at_call 11; refine (used_any _ _ _ _ _ _ _ (by first | exact HS8.out | exact HT8.out)).mono ?_; rintro e w' ⟨rfl, rfl⟩))
      go_ret
      exact ⟨rfl, HB8.out⟩
end Go.Proofs.Yteikdlmejeonaaa
