/- The laws ScriptReads and ScriptLine: walks. -/
import Derived.Test.YtbkhoepoeaiccaaDoorScrY
namespace Go.Proofs.YtbkhoepoeaiccaaDoor
open Go.RowKit Go.Shelf Go.Proofs.YtbkhoepoeaiccaaDoorW.PrintWords Go.Proofs.YtbkhoepoeaiccaaDoor.PScriptReads

theorem parsed_wf {full : List UInt8} {out : List St} {k : Nat} (h : Parsed full out k) : AllWf out ∧ (printL out).length ≤ full.length := by
  rcases h with ⟨_, h1, h2⟩ | ⟨_, _, _, _, _, h2, _⟩
  · exact ⟨h2, by rw [h1]; exact Nat.le_refl _⟩
  · subst h2
    exact ⟨(fun x hx => by cases hx), Nat.zero_le _⟩

set_option maxRecDepth 100000 in
set_option maxHeartbeats 1600000 in
theorem reads_law (w : World) (hE : Env w) (s : List UInt8) (hs : s.length ≤ 268435456) :
    Calls Tryd.prog 4 #[.string ⟨s.toArray⟩] w fun e w' => e = .returned (.bool true) ∧ Below w.heap.size w w' := by
  obtain ⟨ss, hss⟩ : ∃ ss, ss = (⟨s.toArray⟩ : ByteArray) := ⟨_, rfl⟩
  have hpa := Parse_any w hE s hs
  have hra := fun W => Read_any W s hs
  rw [← hss] at hpa hra ⊢
  have HA : Aside0 (∀ W, Below w.heap.size w W → Calls Tryd.prog 10 #[] W fun e W' => e = .returned (.bool true) ∧ Aside0 (Below W.heap.size W W')) := ⟨fun W hW => (answers_any W (hE.below hW)).mono fun e W' ⟨he, hb⟩ => ⟨he, ⟨hb⟩⟩⟩
  have HPA : Aside0 (Calls Tryd.prog 9 #[.string ss] w fun e W' => ∃ (out : List St) (k m d : Nat) (z : Int) (B : Option Addr), e = .returned (.tuple #[.slice B m d, .int .i64 (k : Int), .int .i64 z]) ∧ Aside0 (Parsed s out k ∧ z = (if k = 0 then 0 else 13) ∧ m = out.length) ∧ Aside0 (Kd.C k33 W' B m (out.map toS)) ∧ Aside0 (Below w.heap.size w W')) := ⟨hpa.mono fun e W' ⟨out, k, B, d, he, hP, _, hR, hB⟩ => ⟨out, k, _, d, _, B, he, ⟨⟨hP, rfl, rfl⟩⟩, ⟨R_C hR⟩, ⟨hB⟩⟩⟩
  have HRA : Aside0 (∀ W (out : List St) (k m : Nat) (z : Int), Parsed s out k ∧ z = (if k = 0 then 0 else 13) ∧ m = out.length → Calls Tryd.prog 13 #[.string ss] W fun e W' => ∃ (d : Nat) (B : Option Addr), e = .returned (.tuple #[.slice B m d, .int .i64 (k : Int), .int .i64 z]) ∧ Aside0 (Kd.C k33 W' B m (out.map toS)) ∧ Aside0 (Below W.heap.size W W')) := ⟨fun W out k m z ⟨h1, h2, h3⟩ => (hra W).mono fun e W' ⟨out', k', B, d, he, hP, _, hR, hB⟩ => by
    obtain ⟨rfl, rfl⟩ := parsed_unique hP h1
    subst h2 h3
    exact ⟨d, B, he, ⟨R_C hR⟩, ⟨hB⟩⟩⟩
  have HS : Aside0 (∀ W (out : List St) (k m : Nat) (z : Int) A B d e, Parsed s out k ∧ z = (if k = 0 then 0 else 13) ∧ m = out.length → Kd.C k33 W A m (out.map toS) → Kd.C k33 W B m (out.map toS) → Calls Tryd.prog 12 #[.slice A m d, .slice B m e] W fun e W' => e = .returned (.bool true) ∧ Below W.heap.size W W') := ⟨fun W out k m z A B d e ⟨h1, _, h3⟩ hC hD => by
    obtain ⟨hw, hl⟩ := parsed_wf h1
    have h4 := printL_len out
    exact same_any W out out hw hw A B m d m e hC hD (by omega) (by omega) (by omega) (by omega) rfl⟩
  clear hE hs hss hpa hra
  go_enter Tryd.func4, Tryd.ntmps4
  go_wp2_with (first
    | (go_at_call 9; with_reducible refine HPA.out.mono ?_; rintro e W1 ⟨out, k, m, d, z, B, rfl, HF, HC1, HB1⟩)
    | (go_at_call 13; with_reducible refine (HRA.out _ _ _ _ _ HF.out).mono ?_; rintro e W2 ⟨d2, B2, rfl, HD2, hb2⟩; have HB2 := Aside0.mk (HB1.out.trans (hb2.out.mono HB1.out.size)); have HC2 := Aside0.mk (Kd.C_below HC1.out hb2.out); clear hb2)
    | (go_at_call 10; with_reducible refine (HA.out _ HB2.out).mono ?_; rintro e W3 ⟨rfl, hb3⟩; have HB3 := Aside0.mk (HB2.out.trans (hb3.out.mono HB2.out.size)); have HC3 := Aside0.mk (Kd.C_below HC2.out hb3.out); have HD3 := Aside0.mk (Kd.C_below HD2.out hb3.out); clear hb3)
    | (go_at_call 12; with_reducible refine (HS.out _ _ _ _ _ _ _ _ _ HF.out HC3.out HD3.out).mono ?_; rintro e W4 ⟨rfl, hb4⟩; have HB4 := Aside0.mk (HB3.out.trans (hb4.mono HB3.out.size)); clear hb4))
  go_ret
  exact ⟨by simp, HB4.out⟩

set_option maxRecDepth 100000 in
set_option maxHeartbeats 3200000 in
theorem line_law (w : World) (hE : Env w) (l : List St) (hwf : AllWf l) (A : Option Addr) (n c : Nat) (hC : Kd.C k33 w A n (l.map toS)) (hp : (printL l).length ≤ 67108864) (hn : n ≤ 1073741824) (s : List UInt8) (hs : s.length ≤ 67108864) :
    Calls Tryd.prog 6 #[.slice A n c, .string ⟨s.toArray⟩] w fun e w' => e = .returned (.bool true) ∧ Below w.heap.size w w' := by
  have hll : l.length = n := by have := Kd.C_len hC; rwa [List.length_map] at this
  obtain ⟨st, hst⟩ : ∃ st, st = (⟨s.toArray⟩ : ByteArray) := ⟨_, rfl⟩
  obtain ⟨sp, hsp⟩ : ∃ sp, sp = (⟨(printL l).toArray⟩ : ByteArray) := ⟨_, rfl⟩
  have hstz : st.size = s.length := by rw [hst, size_str]
  have hspz : sp.size = (printL l).length := by rw [hsp, size_str]
  have hra := fun W => rl_agg W s (by omega)
  rw [← hst] at hra ⊢
  have HA : Aside0 (∀ W, Below w.heap.size w W → Calls Tryd.prog 10 #[] W fun e W' => e = .returned (.bool true) ∧ Aside0 (Below W.heap.size W W')) := ⟨fun W hW => (answers_any W (hE.below hW)).mono fun e W' ⟨he, hb⟩ => ⟨he, ⟨hb⟩⟩⟩
  have HP : Aside0 (∀ W, Below w.heap.size w W → Calls Tryd.prog 8 #[.slice A n c] W fun e W' => e = .returned (.string sp) ∧ Aside0 (Below w.heap.size w W')) := ⟨fun W hW => (PPrint_any W (hE.below hW) l hwf A n c (Kd.C_below hC hW) (by omega) hn).mono fun e W' ⟨he, hb⟩ => ⟨by rw [he, hsp], ⟨hW.trans (hb.mono hW.size)⟩⟩⟩
  have HPA : Aside0 (readL s = none → (10 : UInt8) ∉ s → ∀ W, Below w.heap.size w W → Calls Tryd.prog 9 #[.string (sp ++ st ++ ⟨#[10]⟩ ++ sp)] W fun e W' => ∃ (B : Option Addr) (d : Nat), e = .returned (.tuple #[.slice B 0 d, .int .i64 ((n : Int) + 1), .int .i64 13]) ∧ Aside0 (Below w.heap.size w W')) := ⟨fun hno h10 W hW => by
    have e1 : (sp ++ st ++ ⟨#[10]⟩ ++ sp : ByteArray) = ⟨(printL l ++ (s ++ 10 :: printL l)).toArray⟩ := by
      have c4 : (⟨#[10]⟩ : ByteArray) = ⟨([10] : List UInt8).toArray⟩ := rfl
      rw [hsp, hst, c4, app_str, app_str, app_str]
      simp
    rw [e1]
    refine (Parse_any W (hE.below hW) (printL l ++ (s ++ 10 :: printL l)) (by simp only [List.length_append, List.length_cons]; omega)).mono fun e W' ⟨out, k, B, d, he, hP, _, hR, hB⟩ => ?_
    obtain ⟨rfl, rfl⟩ := parsed_unique hP (parsed_line l hwf s (printL l) h10 hno)
    rw [hll] at he
    exact ⟨B, d, he, ⟨hW.trans (hB.mono hW.size)⟩⟩⟩
  have hz1 : (9223372036854775807 < sp.size + st.size) = False := eq_false (by omega)
  have hz2 : (9223372036854775807 < sp.size + st.size + 1) = False := eq_false (by omega)
  have hz3 : (9223372036854775807 < sp.size + st.size + 1 + sp.size) = False := eq_false (by omega)
  have hy1 : (sp.size + st.size ≤ 9223372036854775807) = True := eq_true (by omega)
  have hy2 : (sp.size + st.size + 1 ≤ 9223372036854775807) = True := eq_true (by omega)
  have hy3 : (sp.size + st.size + 1 + sp.size ≤ 9223372036854775807) = True := eq_true (by omega)
  have hw64 : wrap64 ((n : Int) + 1) = (n : Int) + 1 := by unfold wrap64; omega
  obtain ⟨p, hpp⟩ : ∃ p, p = (readL s).isSome := ⟨_, rfl⟩
  rw [← hpp] at hra
  have HRA := Aside0.mk (hra w)
  obtain ⟨len, hlen⟩ : ∃ len, len = st.size := ⟨_, rfl⟩
  have HLS : Aside0 (len = s.length ∧ len ≤ 67108864) := ⟨⟨by omega, by omega⟩⟩
  have HLEN := Aside0.mk hlen
  have HST := Aside0.mk hst
  have HPP := Aside0.mk hpp
  have hu33 := Tryd.underlying33
  clear hE hC hp hn hs hll hsp hstz hspz hra hpp hlen hst
  go_enter Tryd.func6, Tryd.ntmps6
  go_wp2
  go_loopw [5] (fun v5 wr => ∃ i : Nat, wr = w ∧ v5 = .int .i64 (i : Int) ∧ Aside0 (i ≤ len ∧ (10 : UInt8) ∉ s.take i)) (fun v5 _ => len - (intOf v5).toNat)
  case atStart => exact ⟨0, rfl, rfl, ⟨⟨Nat.zero_le _, by simp⟩⟩⟩
  case round =>
    obtain ⟨i, rfl, rfl, HI⟩ := hrel
    have hlen := HLEN.out
    obtain ⟨hl1, hl2⟩ := HLS.out
    obtain ⟨hil, hfree⟩ := HI.out
    by_cases hlt : i < len
    · have hilt : i < st.size := by omega
      have hxa := text_at st i hilt
      have hsd : st.data.toList = s := by rw [HST.out]
      rw [hsd] at hxa
      obtain ⟨b, hb⟩ : ∃ b, b = s.getD i 0 := ⟨_, rfl⟩
      rw [← hb] at hxa
      have hps : ((i : Int) < (st.size : Int)) = True := eq_true (by omega)
      have hpn : (i < st.size) = True := eq_true hilt
      have hw641 : wrap64 ((i : Int) + 1) = (i : Int) + 1 := by unfold wrap64; omega
      have HLT := Aside0.mk hlt
      have HXI := Aside0.mk (show (i : Int) + 1 = ((i + 1 : Nat) : Int) by omega)
      by_cases h10 : b = 10
      · have hceq : ((b.toNat : Int) == 10) = true := by rw [h10]; rfl
        clear h10 hb hsd hilt hlt hfree hil hl1 hl2 hlen
        go_wp2_with (go_at_call 10; with_reducible refine (HA.out _ (Below.refl _ _)).mono ?_; rintro e W1 ⟨rfl, HB1⟩)
        go_ret
        exact ⟨rfl, HB1.out⟩
      · have hceq : ((b.toNat : Int) == 10) = false := beq_false_of_ne (fun e => h10 (UInt8.toNat_inj.1 (by show b.toNat = 10; omega)))
        have HII : Aside0 (i + 1 ≤ len ∧ (10 : UInt8) ∉ s.take (i + 1)) := ⟨⟨by omega, by
          have h1 := take_step s 0 i (Nat.zero_le _) (by omega)
          simp only [List.drop_zero, Nat.sub_zero] at h1
          rw [h1]
          intro hm
          rcases List.mem_append.1 hm with h | h
          · exact hfree h
          · exact h10 (by rw [hb]; exact (List.mem_singleton.1 h).symm)⟩⟩
        clear h10 hb hsd hilt hlt hfree hil hl1 hl2 hlen
        go_wp2
        go_roundw
        case rel => exact ⟨i + 1, by first | trivial | rfl, by first | rfl | (rw [hw641, HXI.out]) | go_num, HII⟩
        case measure => first | exact measI HLT.out | (rw [hw641]; exact measI HLT.out)
    · have hps : ((i : Int) < (st.size : Int)) = False := eq_false (by omega)
      have hfr : (10 : UInt8) ∉ s := by
        rw [List.take_of_length_le (by omega)] at hfree
        exact hfree
      have HFR := Aside0.mk hfr
      clear hfr hlt hfree hil hl1 hl2 hlen
      cases p with
      | true =>
        go_wp2_with (first
          | (go_at_call 14; with_reducible refine HRA.out.mono ?_; rintro e W1 ⟨kk, ka, kb, kc, ids, A1, n1, c1, rfl, HX1, HB1⟩)
          | (go_at_call 10; with_reducible refine (HA.out _ (below_alloc HB1.out _)).mono ?_; rintro e W2 ⟨rfl, hb2⟩; have HB2 := Aside0.mk ((below_alloc HB1.out _).trans (hb2.out.mono (below_alloc HB1.out _).size)); clear hb2))
        go_ret
        exact ⟨rfl, HB2.out⟩
      | false =>
        have HPA2 := Aside0.mk (HPA.out (isSome_none HPP.out) HFR.out)
        go_wp2_with (first
          | (go_at_call 14; with_reducible refine HRA.out.mono ?_; rintro e W1 ⟨kk, ka, kb, kc, ids, A1, n1, c1, rfl, HX1, HB1⟩)
          | (go_at_call 8; with_reducible refine (HP.out _ HB3.out).mono ?_; rintro e W4 ⟨rfl, HB4⟩)
          | (go_at_call 8; with_reducible refine (HP.out _ (below_alloc HB1.out _)).mono ?_; rintro e W3 ⟨rfl, HB3⟩)
          | (go_at_call 9; with_reducible refine (HPA2.out _ HB4.out).mono ?_; rintro e W5 ⟨B, d, rfl, HB5⟩)
          | (go_at_call 10; with_reducible refine (HA.out _ HB5.out).mono ?_; rintro e W6 ⟨rfl, hb6⟩; have HB6 := Aside0.mk (HB5.out.trans (hb6.out.mono HB5.out.size)); clear hb6))
        go_ret
        exact ⟨by simp, HB6.out⟩
end Go.Proofs.YtbkhoepoeaiccaaDoor
