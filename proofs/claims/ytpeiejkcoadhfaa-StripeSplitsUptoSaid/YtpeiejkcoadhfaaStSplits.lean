/- The law StripeSplits, walked. -/
import Derived.Test.YtpeiejkcoadhfaaStArgs
namespace Go.Proofs.Ytpeiejkcoadhfaa
open Go.RowKit Go.Shelf Go.Proofs.YtpeiejkcoadhfaaW.PrintWords Go.Proofs.YtpeiejkcoadhfaaW.PrintMore

set_option maxRecDepth 100000 in
set_option maxHeartbeats 1600000 in
theorem splits_law (w : World) (A : Option Addr) (len c : Nat) (l : List Int) (hl : l.length = len) (hC : Kd.C u8 w A len l) (hlc : len ≤ c) (_ : ∀ x ∈ l, (Lit.int .u8 x).wf = true) (hm : (l.map fun _ => 1).sum + 1 ≤ 1048576) (k : Int) (hk : (Lit.int .u8 k).wf = true) :
    Calls Try.prog 8 #[.slice A len c, .int .u8 k] w fun e w' => e = .returned (.bool true) ∧ Below w.heap.size w w' := by
  obtain ⟨k, rfl, hk2⟩ := u8_nt hk
  clear hk
  rw [sum_ones, hl] at hm
  have HA := Aside0.mk answers09
  by_cases h0 : k = 0
  · subst h0
    have HS := Aside0.mk (fun w v => Split_zero w v 0 (by decide))
    have HN := Aside0.mk (fun w => Columns_no w (len : Int) 0 (.inr (by decide)))
    clear hC hl hk2
    go_enter Try.func8, Try.ntmps8
    go_wp2_with fail
    refine (HA.out _).mono ?_
    rintro e w1 ⟨rfl, hb1⟩
    have HB1 := Aside0.mk hb1
    clear hb1
    go_wp2_with fail
    refine (HS.out _ _).mono ?_
    rintro e w2 ⟨rfl, hb2⟩
    have HB2 := Aside0.mk (HB1.out.trans (hb2.mono HB1.out.size))
    clear hb2
    go_wp2_with (go_at_call 38; refine (HN.out _).mono ?_; rintro e w1 ⟨rfl, rfl⟩)
    go_ret
    exact ⟨rfl, HB2.out⟩
  · have hk1 : 0 < k := by omega
    have hkI : ((k : Int) == 0) = false := by simp; omega
    have hkI2 : (k == 0) = false := by simp; omega
    have HC := Aside0.mk hC
    have HL := Aside0.mk hl
    have c1 := Split_any w A len c k l hC hlc hk1 (by omega) (by omega)
    have HN := Aside0.mk (fun w => Columns_yes w len k hk1 (by omega))
    obtain ⟨n, hn⟩ : ∃ n, n = ncol len k := ⟨_, rfl⟩
    have hnl : n ≤ len := hn ▸ ncol_le len k hk1
    rw [← hn] at c1 HN
    have HC1 := Aside0.mk c1
    have HE := Aside0.mk hn
    clear hC hl c1 hn h0
    go_enter Try.func8, Try.ntmps8
    go_wp2_with fail
    refine HC1.out.mono ?_
    rintro e w1 ⟨B, d, rfl, hS, hf⟩
    have HF1 := Aside0.mk hf
    have HS1 := Aside0.mk (Kd.S_reads' hS).2.2
    have hnd := (Kd.S_reads' hS).2.1
    have hsl : (splitL l k).length = n := by rw [splitL_length, HL.out, HE.out]
    rw [hsl] at HS1
    have hflat : (splitL l k).flatten.length = n * k := by rw [flat_length _ k (splitL_all l k), hsl]
    have hnk : n * k ≤ 1048576 * 255 := Nat.mul_le_mul (by omega) (by omega)
    have hlen : len ≤ n * k := by
      rcases Nat.lt_or_ge (n * k) len with h | h
      · have := (lt_ncol n len k hk1).2 h
        rw [HE.out] at this; exact absurd this (Nat.lt_irrefl _)
      · exact h
    have hany : anyNe (splitL l k) (k : Int) = false := anyNe_no _ _ (fun i hi => by
      have : (splitL l k).getD i [] ∈ splitL l k := List.mem_of_getElem? (getD_get _ i hi)
      rw [splitL_all l k _ this]; simp)
    have c2 := Join_yes w1 B n d (splitL l k) HS1.out hnd len k hk1 (by omega) HE.out hany (by rw [hflat]; omega) (by rw [hflat]; exact hlen)
    have hfl : (splitL l k).flatten.take len = l := by rw [← HL.out]; exact flat_split l k hk1
    rw [hfl] at c2
    have HC2 := Aside0.mk c2
    clear c2 hfl hany hlen hnk hflat hsl hS hf
    go_wp2_with fail
    refine HC2.out.mono ?_
    rintro e w2 ⟨B2, rfl, hR, hb2⟩
    have HR := Aside0.mk hR.1
    have HB2 := Aside0.mk hb2
    clear hR hb2
    go_wp2_with fail
    refine (HA.out _).mono ?_
    rintro e w3 ⟨rfl, hb3⟩
    have HF3 := Aside0.mk ((HF1.out.below_ HB2.out).below_ hb3)
    have HB3 := Aside0.mk (HB2.out.trans (hb3.mono HB2.out.size))
    have HR3 := Aside0.mk (Kd.C_below HR.out hb3)
    clear hb3
    obtain ⟨q, hq⟩ := rsplit_f l k hk1 (by omega) (by rw [HL.out]; omega)
    have c4 := PDealSecret.shamrockref06_Split.calls q A c l k _ w3 (by rw [HL.out]; exact C_fr (0 : Int) HC.out HF3.out (fun _ _ _ h => h)) (by rw [HL.out]; exact hlc) hq
    rw [HL.out] at c4
    have HC4 := Aside0.mk c4
    clear c4 hq
    go_wp2_with fail
    refine HC4.out.mono ?_
    rintro e w4 ⟨v4, rfl, hS4, hb4⟩
    obtain ⟨B4, d4, hv4, _, hC4⟩ := Kd.S_reads hS4
    have hsl : (splitL l k).length = n := by rw [splitL_length, HL.out, HE.out]
    rw [hsl] at hC4 hv4
    subst hv4
    have HC5 := Aside0.mk (same_yes w4 B B4 n d d4 (splitL l k) (Kd.C_below (Kd.C_below HS1.out HB3.out) hb4) hC4)
    have HF4 := Aside0.mk (HF3.out.below_ hb4)
    have HR4 := Aside0.mk (Kd.C_below HR3.out hb4)
    clear hb4 hC4 hS4 hsl
    go_wp2_with fail
    refine HC5.out.mono ?_
    rintro e w5 ⟨rfl, hd5⟩
    have hb5 := hd5.below
    have HF5 := Aside0.mk (HF4.out.below_ hb5)
    have q0 := Kd.C_string (P := Try.prog) (c := len) Try.underlying36 Try.underlying5 Try.underlying9 (Kd.C_below HR4.out hb5)
    have q1 := Kd.C_string (P := Try.prog) (c := c) Try.underlying36 Try.underlying5 Try.underlying9 (C_fr (0 : Int) HC.out HF5.out (fun _ _ _ h => h))
    clear hd5 hb5
    go_wp2_with (go_at_call 38; refine (HN.out _).mono ?_; rintro e w1 ⟨rfl, rfl⟩)
    go_ret
    exact ⟨rfl, HF5.out.below (Nat.le_refl _) (fun _ h => h.elim)⟩
end Go.Proofs.Ytpeiejkcoadhfaa
