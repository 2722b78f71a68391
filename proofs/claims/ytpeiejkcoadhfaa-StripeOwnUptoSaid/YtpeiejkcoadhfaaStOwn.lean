/- The law StripeOwn, walked. -/
import Derived.Test.YtpeiejkcoadhfaaStArgs
import Derived.StillTailTactics
import Derived.Outline
namespace Go.Proofs.Ytpeiejkcoadhfaa
open Go.RowKit Go.Shelf Go.Proofs.YtpeiejkcoadhfaaW.PrintWords Go.Proofs.YtpeiejkcoadhfaaW.PrintMore
open Go.BigFrame

/-- A byte of a row of a row of rows of one's own: read, and stored into. -/
theorem S_byte {W : World} {base : Nat} {ok : Nat → Prop} {ad : Addr} {n cap : Nat} {xss : List (List Int)} (h : Kd.S u8s 36 W base ok (.slice (some ad) n cap) xss) (i j : Nat) (hi : i < n) (hj : j < (xss.getD i []).length) :
    ∃ gb c0 v, W.cell? (ad.add i) = some (.slice (some ⟨gb, 0, none⟩) (xss.getD i []).length c0) ∧ W.cell? ⟨gb, j, none⟩ = some (.int .u8 v) ∧ W.frozen? ⟨gb, j, none⟩ = false ∧ ok gb ∧
      ∀ x : Int, Kd.S u8s 36 (W.setCell ⟨gb, j, none⟩ (.int .u8 x)) base ok (.slice (some ad) n cap) (xss.set i ((xss.getD i []).set j x)) := by
  obtain ⟨oki, c, hcl, hM, hcc, hoki, hback⟩ := Kd.S_borrow h ([] : List Int) (i : Int) (by omega) (by omega)
  rw [Int.toNat_natCast] at hM hcc hback
  obtain ⟨v, rfl, hR⟩ := hM
  obtain ⟨B, c0, rfl⟩ := Kd.R_slice hR
  obtain ⟨gb, rfl, hgb, hlt, hokg, hx, hfz, _⟩ := R_at (0 : Int) hR j hj
  have h0 := hcc 0 _ rfl
  rw [show u8s.sz = 1 from rfl, Nat.mul_one, Nat.add_zero] at h0
  refine ⟨gb, c0, _, h0, hx, hfz, (hoki gb hokg).1, fun x => ?_⟩
  obtain ⟨hp, hg⟩ := Kd.R_putg hR (j : Int) x
  rw [Int.toNat_natCast] at hp hg
  have := hback hg (fun k hk => by injection hk with hk; subst hk; exact hokg) (Kd.M_row hp)
  exact this
/-- Rows alike in number and lengths. -/
def Rows (n k : Nat) (xss : List (List Int)) : Prop := xss.length = n ∧ ∀ r ∈ xss, r.length = k
theorem rows_get {n k : Nat} {xss : List (List Int)} (h : Rows n k xss) (i : Nat) (hi : i < n) : (xss.getD i []).length = k :=
  h.2 _ (List.mem_of_getElem? (getD_get _ i (by rw [h.1]; exact hi)))
theorem rows_set {n k : Nat} {xss : List (List Int)} (h : Rows n k xss) (i j : Nat) (x : Int) (hi : i < n) : Rows n k (xss.set i ((xss.getD i []).set j x)) := by
  refine ⟨by rw [List.length_set]; exact h.1, fun r hr => ?_⟩
  rcases List.mem_or_eq_of_mem_set hr with hr | rfl
  · exact h.2 r hr
  · rw [List.length_set]; exact rows_get h i hi

set_option maxRecDepth 100000 in
set_option maxHeartbeats 1600000 in
theorem own_law (w : World) (A : Option Addr) (len c : Nat) (l : List Int) (hl : l.length = len) (hC : Kd.C u8 w A len l) (hlc : len ≤ c) (_ : ∀ x ∈ l, (Lit.int .u8 x).wf = true) (hm : (l.map fun _ => 1).sum + 1 ≤ 1048576) (k : Int) (hk : (Lit.int .u8 k).wf = true) :
    Calls Try.prog 11 #[.slice A len c, .int .u8 k] w fun e w' => e = .returned (.bool true) ∧ Below w.heap.size w w' := by
  obtain ⟨k, rfl, hk2⟩ := u8_nt hk
  clear hk
  rw [sum_ones, hl] at hm
  have HA := Aside0.mk answers09
  -- b
  obtain ⟨v1, W1, hrun1, hq1, hg1, _⟩ := R_append_row (P := Try.prog) (Value.int .u8) (0 : Int) (w.alloc (.cells #[] 5)) w.heap.size 36 36 5 _ 1 Try.underlying36 info5 rfl (c := c) (R_empty u8 5 w w.heap.size (Nat.le_refl _)) (by rw [hl]; exact Kd.C_alloc hC _) (by rw [hl]; simp; omega) (by omega) (by simp) (fun _ _ => trivial)
  rw [hl] at hrun1
  rw [List.nil_append] at hq1
  obtain ⟨B1, d1, rfl⟩ := Kd.R_slice hq1
  rw [hl] at hq1 hrun1
  have hb1 : Below w.heap.size w W1 := (below_alloc (Below.refl _ _) _).grown hg1 (by simp) (fun i hi => by have : w.heap.size = i := by simpa [Value.ownBlock] using hi
                                                                                                            omega)
  have hC1 := R_C hq1
  have hd1 : len ≤ d1 := by have := (Kd.R_reads' hq1).2.1; omega
  have hob : ∀ j, OB B1 j → w.heap.size ≤ j ∧ j < W1.heap.size := fun j hj => ⟨(ob_base (Kd.Q_of_R hq1) j hj).1, (ob_base (Kd.Q_of_R hq1) j hj).2.1⟩
  have HR1 := Aside0.mk hrun1
  have HB1 := Aside0.mk hb1
  have HC := Aside0.mk hC
  have HC1 := Aside0.mk hC1
  have HOB := Aside0.mk hob
  have HL := Aside0.mk hl
  clear hrun1 hb1 hC hC1 hob hq1 hg1 hl
  by_cases h0 : k = 0
  · subst h0
    have HS := Aside0.mk (fun w v => Split_zero w v 0 (by decide))
    clear hk2
    go_enter Try.func11, Try.ntmps11
    go_wp2_with (at_builtin; refine wpList_append_run rfl _ _ _ _ rfl rfl rfl HR1.out ?_)
    refine (HS.out _ _).mono ?_
    rintro e w2 ⟨rfl, hb2⟩
    have HB2 := Aside0.mk (HB1.out.trans (hb2.mono HB1.out.size))
    have HC2 := Aside0.mk (Kd.C_below HC1.out hb2)
    clear hb2
    go_wp2_with fail
    refine (HS.out _ _).mono ?_
    rintro e w3 ⟨rfl, hb3⟩
    have HB3 := Aside0.mk (HB2.out.trans (hb3.mono HB2.out.size))
    have HC3 := Aside0.mk (Kd.C_below HC2.out hb3)
    clear hb3
    go_wp2
    go_loop [8] (fun v8 => v8 = .int .i64 0) (fun _ => 0)
    case atStart => rfl
    case round =>
      subst hrel
      go_wp2_with fail
      refine (HA.out _).mono ?_
      rintro e w4 ⟨rfl, hb4⟩
      have HB4 := Aside0.mk (HB3.out.trans (hb4.mono HB3.out.size))
      have q0 := Kd.C_string (P := Try.prog) (c := d1) Try.underlying36 Try.underlying5 Try.underlying9 (Kd.C_below HC3.out hb4)
      have q1 := Kd.C_string (P := Try.prog) (c := c) Try.underlying36 Try.underlying5 Try.underlying9 (Kd.C_below HC.out HB4.out)
      clear hb4
      go_wp2_with fail
      refine (HS.out _ _).mono ?_
      rintro e w5 ⟨rfl, hb5⟩
      have HB5 := Aside0.mk (HB4.out.trans (hb5.mono HB4.out.size))
      clear hb5
      go_wp2_with fail
      have hn : Kd.C u8s w5 none 0 [] := Kd.C_nil u8s w5
      refine (same_yes w5 none none 0 0 0 [] hn hn).mono ?_
      rintro e w6 ⟨rfl, hd6⟩
      have HB6 := Aside0.mk (HB5.out.trans (hd6.below.mono HB5.out.size))
      clear hd6 hn
      go_wp2
      go_ret
      exact ⟨rfl, HB6.out⟩
  · have hk1 : 0 < k := by omega
    have c1 := Split_any W1 B1 len d1 k l HC1.out hd1 hk1 (by omega) (by omega)
    obtain ⟨n, hn⟩ : ∃ n, n = ncol len k := ⟨_, rfl⟩
    have hnl : n ≤ len := hn ▸ ncol_le len k hk1
    have hrw : Aside0 (Rows n k (splitL l k)) := ⟨by rw [splitL_length, HL.out, hn], splitL_all l k⟩
    rw [← hn] at c1
    have HC2 := Aside0.mk c1
    have HN := Aside0.mk hn
    clear c1 hn h0
    go_enter Try.func11, Try.ntmps11
    go_wp2_with (at_builtin; refine wpList_append_run rfl _ _ _ _ rfl rfl rfl HR1.out ?_)
    refine HC2.out.mono ?_
    rintro e w2 ⟨B, d, rfl, hS2, hf2⟩
    have c3 := Split_any w2 B1 len d1 k l (C_fr (0 : Int) HC1.out hf2 (fun _ _ _ h => h)) hd1 hk1 (by omega) (by omega)
    rw [← HN.out] at c3
    have HC3 := Aside0.mk c3
    have HF2 := Aside0.mk hf2
    have HS2 := Aside0.mk hS2
    clear c3 hf2 hS2
    go_wp2_with fail
    refine HC3.out.mono ?_
    rintro e w3 ⟨B3, d3, rfl, hS3, hf3⟩
    have HF3 := Aside0.mk (HF2.out.trans' hf3)
    have HS3 := Aside0.mk hS3
    have HS4 := Aside0.mk (S_fr (Kd.S_mono (Kd.S_bound HS2.out) (fun j hj => (⟨hj.1, hj.2.2.1⟩ : W1.heap.size ≤ j ∧ j < w2.heap.size))) hf3 (fun _ _ _ _ h => h))
    clear hS3 hf3
    have hnd := (Kd.S_reads' HS4.out).2.1
    go_wp2
    go_loopw [8] (fun v8 wr => ∃ (i : Nat) (xss : List (List Int)), i ≤ n ∧ v8 = .int .i64 i ∧ Aside0 (Rows n k xss) ∧ Aside0 (Kd.S u8s 36 wr W1.heap.size (fun j => W1.heap.size ≤ j ∧ j < w2.heap.size) (.slice B n d) xss) ∧ Aside0 (Fr (fun j => W1.heap.size ≤ j ∧ j < w2.heap.size) w3 wr)) (fun v8 _ => n - (intOf v8).toNat)
    case atStart => exact ⟨0, _, by omega, rfl, hrw, HS4, ⟨Fr.refl _ _⟩⟩
    case round =>
      obtain ⟨i, xss, hi, rfl, HX, HS, HF⟩ := hrel
      obtain ⟨wo, rfl⟩ : ∃ wo : World, wo = wr := ⟨_, rfl⟩
      by_cases hlt : i < n
      · obtain ⟨ad, _, _, rfl, _, _, _⟩ := row_at (HX.out.1 ▸ (Kd.S_reads' HS.out).2.2 : Kd.C u8s wo B n xss) i hlt
        go_wp2
        go_loopw [9] (fun v9 wr => ∃ (j : Nat) (yss : List (List Int)), j ≤ k ∧ v9 = .int .i64 j ∧ Aside0 (Rows n k yss) ∧ Aside0 (Kd.S u8s 36 wr W1.heap.size (fun j => W1.heap.size ≤ j ∧ j < w2.heap.size) (.slice (some ad) n d) yss) ∧ Aside0 (Fr (fun j => W1.heap.size ≤ j ∧ j < w2.heap.size) w3 wr)) (fun v9 _ => k - (intOf v9).toNat)
        case atStart => exact ⟨0, xss, by omega, rfl, HX, HS, HF⟩
        case round =>
          obtain ⟨j, yss, hj, rfl, HY, HT, HG⟩ := hrel
          by_cases hjk : j < k
          · obtain ⟨gb, c0, v, h1, h2, h3, h4, h5⟩ := S_byte HT.out i j hlt (by rw [rows_get HY.out i hlt]; exact hjk)
            rw [rows_get HY.out i hlt] at h1
            have H5 := Aside0.mk h5
            have H4 := Aside0.mk h4
            clear h5 h4
            go_wp2
            go_still_tail 13, (by kernel_rfl)
            change wpList _ _ _ _ _ wr.drew
            go_wp2
            go_roundw
            case rel => exact ⟨j + 1, _, by omega, by go_num, ⟨rows_set HY.out i j _ hlt⟩, ⟨Kd.S_drew (H5.out _)⟩, ⟨(HG.out.set_ (p := ⟨gb, j, none⟩) (.inl H4.out) _).drew⟩⟩
            case measure => simp [intOf]; omega
          · obtain rfl : j = k := by omega
            obtain ⟨ad', A0, c0, e, h1, _, _⟩ := row_at (HY.out.1 ▸ (Kd.S_reads' HT.out).2.2 : Kd.C u8s wr (some ad) n yss) i hlt
            injection e with e
            subst e
            rw [rows_get HY.out i hlt] at h1
            go_wp2
            go_roundw
            case rel => exact ⟨i + 1, yss, by omega, by go_num, HY, HT, HG⟩
            case measure => simp [intOf]; omega
      · obtain rfl : i = n := by omega
        go_wp2_with fail
        refine (HA.out _).mono ?_
        rintro e w4 ⟨rfl, hb4⟩
        have hf4 : Fr (fun j => W1.heap.size ≤ j ∧ j < w2.heap.size) w3 w4 := HF.out.below_ hb4
        have HF4 := Aside0.mk ((Fr.of_below HB1.out (fun _ => False)).trans (HF3.out.trans hf4 (fun j hj => .inr hj.1)) (fun _ h => .inr h.elim))
        have hC3 := C_fr (0 : Int) HC1.out HF3.out (fun _ _ _ h => h)
        have q0 := Kd.C_string (P := Try.prog) (c := d1) Try.underlying36 Try.underlying5 Try.underlying9 (C_fr (0 : Int) hC3 hf4 (fun ad ha _ h => by have := (HOB.out ad.block ⟨ad, ha, rfl⟩).2; omega))
        have hC4 := C_fr (0 : Int) HC.out HF4.out (fun _ _ _ h => h)
        have q1 := Kd.C_string (P := Try.prog) (c := c) Try.underlying36 Try.underlying5 Try.underlying9 hC4
        have c5 := Split_any w4 A len c k l hC4 hlc hk1 (by omega) (by omega)
        rw [← HN.out] at c5
        have HC5 := Aside0.mk c5
        have HM4 := Aside0.mk (S_fr HS3.out hf4 (fun j hj _ _ h => by omega))
        clear hb4 hf4 hC3 hC4 c5
        go_wp2_with fail
        refine HC5.out.mono ?_
        rintro e w5 ⟨B5, d5, rfl, hS5, hf5⟩
        have hC5 := (Kd.S_reads' hS5).2.2
        have hM5 := (Kd.S_reads' (S_fr HM4.out hf5 (fun _ _ _ _ h => h))).2.2
        rw [hrw.out.1] at hC5 hM5
        have HSM := Aside0.mk (same_yes w5 B3 B5 i d3 d5 _ hM5 hC5)
        have HF5 := Aside0.mk (HF4.out.trans' hf5)
        clear hC5 hM5 hS5 hf5
        go_wp2_with fail
        refine HSM.out.mono ?_
        rintro e w6 ⟨rfl, hd6⟩
        have HF6 := Aside0.mk (HF5.out.below_ hd6.below)
        clear hd6
        go_wp2
        go_ret
        exact ⟨rfl, HF6.out.below (Nat.le_refl _) (fun _ h => h.elim)⟩
end Go.Proofs.Ytpeiejkcoadhfaa
