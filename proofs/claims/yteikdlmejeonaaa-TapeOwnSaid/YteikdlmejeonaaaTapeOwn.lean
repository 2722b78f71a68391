/- The law TapeOwn: what is added may be changed behind its back, and what is taken, too. -/
import Derived.Test.YteikdlmejeonaaaTapeAns
import Derived.Test.YteikdlmejeonaaaTapeArgs
namespace Go.Proofs.Yteikdlmejeonaaa
open Go.RowKit Go.Proofs.YteikdlmejeonaaaW.PrintWords Go.Proofs.YteikdlmejeonaaaW.PrintMore
open Go.BigFrame
/-- The lesser of two, under a name. -/
def nmin (x y : Nat) : Nat := if y < x then y else x
theorem min2_nat (k k' : IntKind) (x y : Nat) : Builtin.min2 (.int k (x : Int)) (.int k' (y : Int)) = pure (.int k (nmin x y : Int)) := by
  rw [min2_int]
  congr 2
  unfold nmin
  by_cases h : y < x
  · rw [if_pos h, if_pos (by omega)]
  · rw [if_neg h, if_neg (by omega)]
attribute [local go_sem] min2_nat min_two

theorem own_law (w : World) (A : Option Addr) (len c : Nat) (l : List Int) (hl : l.length = len) (hC : Kd.C u8 w A len l) (hlc : len ≤ c) (_ : ∀ x ∈ l, (Lit.int .u8 x).wf = true) (n : Int) (hn : (Lit.int .u8 n).wf = true) :
    Calls Try.prog 4 #[.slice A len c, .int .u8 n] w fun e w' => e = .returned (.bool true) ∧ Below w.heap.size w w' := by
  have bn : 0 ≤ n ∧ n ≤ 255 := by simpa [Lit.wf, IntKind.min, IntKind.max, IntKind.signed, IntKind.bits] using hn
  obtain ⟨bn0, bn1⟩ := bn
  clear hn
  by_cases h1 : 1000 < len
  · go_enter Try.func4, Try.ntmps4
    go_wp2_with (go_at_call 12; refine (answers_any _).mono ?_; rintro e w1 ⟨rfl, hb⟩; have HB := Aside0.mk hb; clear hb)
    go_ret
    exact ⟨rfl, HB.out⟩
  · obtain ⟨n, rfl⟩ := Int.eq_ofNat_of_zero_le bn0
    obtain ⟨q, hqn, hql, hmn⟩ : ∃ q : Nat, q ≤ n ∧ q ≤ len ∧ nmin n len = q := ⟨nmin n len, by unfold nmin; split <;> omega, by unfold nmin; split <;> omega, rfl⟩
    have HC := Aside0.mk hC
    have HLC := Aside0.mk hlc
    -- the row b
    have hC1 := Kd.C_below hC (below_alloc (below_alloc (Below.refl _ _) (.cells #[.slice none 0 0, .int .i64 0] 39)) (.cells #[] 5))
    have hRe := R_empty u8 5 (w.alloc (.cells #[.slice none 0 0, .int .i64 0] 39)) (w.heap.size + 1) (by simp)
    have hT1 := tp_fr (tp_new w w.heap.size (Nat.le_refl _)) (Fr.of_below (below_alloc (Below.refl _ _) (.cells #[] 5)) (fun _ => False)) (fun _ _ h => h)
    have hb1 : Below w.heap.size w ((w.alloc (.cells #[.slice none 0 0, .int .i64 0] 39)).alloc (.cells #[] 5)) := below_alloc (below_alloc (Below.refl _ _) _) _
    obtain ⟨v', w1, hrun, hq, hg, hat⟩ := R_append_row (P := Try.prog) (Value.int .u8) 0 _ (w.heap.size + 1) 25 25 5 _ 1 Try.underlying25 info5 rfl (c := c) hRe (by rw [← hl] at hC1; exact hC1) (by simp; omega) (by omega) (by simp) (fun _ _ => trivial)
    obtain ⟨B, d, rfl⟩ := Kd.R_slice hq
    rw [List.nil_append, hl] at hq hrun
    rw [World.size_alloc] at hrun hg hat
    have hf1 : Fr (fun k => k = w.heap.size + 1) ((w.alloc (.cells #[.slice none 0 0, .int .i64 0] 39)).alloc (.cells #[] 5)) w1 := Fr.of_grown hg (fun k hk => .inl (by simpa [Value.ownBlock] using hk.symm))
    have HB1 := Aside0.mk (hb1.trans (hf1.below (B := w.heap.size) hb1.size (fun k hk => by omega)))
    have HT1 := Aside0.mk (tp_fr hT1 hf1 (fun k hk e => by
      rcases hk with rfl | ⟨a, e, _⟩
      · omega
      · cases e))
    have HR := Aside0.mk hrun
    have HQ := Aside0.mk hq
    have HL := Aside0.mk hl
    clear hrun hq hC hC1 hRe hlc hl hT1 hb1 hf1 hg hat
    go_enter Try.func4, Try.ntmps4
    go_wp2_with (first | (go_at_call 7; refine (new_any _).mono ?_; rintro e w1 ⟨rfl, rfl⟩) | (at_builtin; refine wpList_append_run rfl _ _ _ _ rfl rfl rfl HR.out ?_))
    refine (add_ok _ _ _ _ _ _ _ HT1.out _ _ _ l (R_C HQ.out) HB1.out.size (by simp; omega)).mono ?_
    rintro e W2 ⟨A1, c1, rfl, ht2, hf2, hk2⟩
    have HT2 := Aside0.mk ht2
    have HQ2 := Aside0.mk (R_fr HQ.out hf2 (fun k _ hk _ h => by
      rcases h with rfl | ⟨a, e, _⟩
      · omega
      · cases e))
    have HB2 := Aside0.mk (HB1.out.trans (hf2.below (B := w.heap.size) HB1.out.size (fun k hk => (ts_lt HT1.out k hk).2)))
    have HK2 := Aside0.mk (show ∀ k, TS w.heap.size A1 k → ¬ OB B k from fun k hk hob => by
      have h := ob_base (Kd.Q_of_R HQ.out) k hob
      rcases hk2 k hk with (h' | ⟨a, e, _⟩) | h'
      · omega
      · cases e
      · omega)
    clear ht2 hf2 hk2
    go_wp2_with fail
    go_loopw [7] (fun i wr => ∃ (k : Nat) (ys : List Int), k ≤ len ∧ i = .int .i64 k ∧ Aside0 (Kd.R u8 5 wr (w.heap.size + 1) (fun _ => True) (.slice B len d) ys) ∧ Aside0 (Fr (OB B) W2 wr)) (fun i _ => len - (intOf i).toNat)
    case atStart => exact ⟨0, l, Nat.zero_le _, rfl, HQ2, ⟨Fr.refl _ _⟩⟩
    case round =>
      obtain ⟨k, ys, hk, rfl, HY, HF⟩ := hrel
      by_cases hlt : k < len
      · obtain ⟨gb, eB, hgb, _, _, hx, hfz, hset⟩ := R_at (0 : Int) HY.out k hlt
        have HS := Aside0.mk hset
        have HE := Aside0.mk eB
        clear hset
        subst eB
        go_wp2
        go_roundw
        case rel => exact ⟨k + 1, _, by omega, by go_num, ⟨HS.out _⟩, ⟨HF.out.set_ (p := ⟨gb, k, none⟩) (.inl ⟨_, rfl, rfl⟩) _⟩⟩
        case measure => simp [intOf]; omega
      · go_wp2_with fail
        have HT3 := Aside0.mk (tp_fr HT2.out HF.out (fun k hk hk' => HK2.out k hk hk'))
        have HB3 := Aside0.mk (HB2.out.trans (HF.out.below (B := w.heap.size) HB2.out.size (fun k hk => by have := (ob_base (Kd.Q_of_R HQ.out) k hk).1; omega)))
        refine (take_ok _ _ _ _ _ _ _ HT3.out q (by simp [HL.out]; omega) (by simp [HL.out]; omega) (by omega)).mono ?_
        rintro e W4 ⟨A4, c4, X, d4, rfl, ht4, hx4, hf4, hk4⟩
        have HT4 := Aside0.mk ht4
        have HX4 := Aside0.mk hx4
        have HB4 := Aside0.mk (HB3.out.trans (hf4.below (B := w.heap.size) HB3.out.size (fun k hk => by omega)))
        have HK4 := Aside0.mk (show ∀ k, TS w.heap.size A4 k → ¬ OB X k from fun k hk hob => by
          have h := ob_base (Kd.Q_of_R hx4) k hob
          have h5 := (ts_lt HT3.out k (hk4 k hk)).1
          omega)
        have HJ4 := Aside0.mk (show ∀ k, OB X k → w.heap.size ≤ k from fun k hob => by
          have h := ob_base (Kd.Q_of_R hx4) k hob
          have h5 := HB3.out.size
          omega)
        clear ht4 hx4 hf4 hk4
        go_wp2_with fail
        go_loopw [11] (fun i wr => ∃ (k : Nat) (ys : List Int), k ≤ q ∧ i = .int .i64 k ∧ Aside0 (Kd.R u8 5 wr 0 (fun _ => True) (.slice X q d4) ys) ∧ Aside0 (Fr (OB X) W4 wr)) (fun i _ => q - (intOf i).toNat)
        case atStart => exact ⟨0, _, Nat.zero_le _, rfl, ⟨Kd.R_lower HX4.out (Nat.zero_le _)⟩, ⟨Fr.refl _ _⟩⟩
        case round =>
          obtain ⟨k2, ys2, hk2, rfl, HY2, HF2⟩ := hrel
          by_cases hlt2 : k2 < q
          · obtain ⟨gb, eB, hgb, _, _, hx, hfz, hset⟩ := R_at (0 : Int) HY2.out k2 hlt2
            have HS := Aside0.mk hset
            clear hset
            subst eB
            go_wp2
            go_roundw
            case rel => exact ⟨k2 + 1, _, by omega, by go_num, ⟨HS.out _⟩, ⟨HF2.out.set_ (p := ⟨gb, k2, none⟩) (.inl ⟨_, rfl, rfl⟩) _⟩⟩
            case measure => simp [intOf]; omega
          · have HT5 := Aside0.mk (tp_fr HT4.out HF2.out (fun k hk hk' => HK4.out k hk hk'))
            have HB5 := Aside0.mk (HB4.out.trans (HF2.out.below (B := w.heap.size) HB4.out.size (fun k hk => HJ4.out k hk)))
            have hsub : (len : Int) - (q : Int) = ((len - q : Nat) : Int) := by omega
            go_wp2_with fail
            refine (take_ok _ _ _ _ _ _ _ HT5.out (len - q) (by simp [HL.out]) (by simp [HL.out]; omega) (by omega)).mono ?_
            rintro e W6 ⟨A6, c6, Y, d6, rfl, ht6, hy6, hf6, hk6⟩
            have HY6 := Aside0.mk hy6
            have HB6 := Aside0.mk (HB5.out.trans (hf6.below (B := w.heap.size) HB5.out.size (fun k hk => by omega)))
            clear ht6 hy6 hf6 hk6 hsub
            go_wp2_with fail
            obtain ⟨i5, hi5, _, hs5, _⟩ := info_parts info5
            have kf := cut_from (P := Try.prog) 25 5 .i64 Try.underlying25 hi5 1 hs5 A len c (q : Int) (by omega) (by omega)
            have hdr := (Kd.reads_of_C (enc := Value.int .u8) (d := (0 : Int)) (h1 := fun _ => rfl) HC.out).drop_ q hql HLC.out
            rw [Int.toNat_natCast, Nat.mul_one] at kf
            obtain ⟨A9, hA9⟩ : ∃ A9, (if c = q then A else A.map (·.add q)) = A9 := ⟨_, rfl⟩
            rw [hA9] at kf hdr
            have HDR := Aside0.mk (Kd.C_of_reads (d := (0 : Int)) (h1 := fun _ => rfl) hdr)
            have HY7 := Aside0.mk (show Kd.C u8 W6 Y (len - q) (List.drop q l) from by
              have h := R_C HY6.out
              rwa [List.nil_append, List.take_of_length_le (by rw [List.length_drop, HL.out]; exact Nat.le_refl _)] at h)
            clear hdr hA9 hi5 hs5
            have hy8 := fun m : After W6 => Kd.C_string (P := Try.prog) (c := d6) Try.underlying25 Try.underlying5 Try.underlying9 (Kd.C_below HY7.out m.below)
            have hz8 := fun m : After W6 => Kd.C_string (P := Try.prog) (c := c - q) Try.underlying25 Try.underlying5 Try.underlying9 (Kd.C_below HDR.out (HB6.out.trans (m.below.mono HB6.out.size)))
            refine wp_region_after W6 (by kernel_rfl) (by kernel_rfl) (Below.refl _ _) ?_
            repeat (first | go_big_quiet_skip | (go_big_quiet_want; go_big_quiet_op; first | go_big_quiet_on | (apply Exists.intro; refine ⟨fun m => ?_, ?_⟩; (go_at_call 12; exact after_call (answers_any _)); go_big_quiet_on)))
            refine wpQuiet_nil ?_
            rintro _ ⟨m, rfl⟩
            go_wp2
            go_ret
            exact ⟨rfl, HB6.out.trans (m.below.mono HB6.out.size)⟩
end Go.Proofs.Yteikdlmejeonaaa
