/- The laws ScriptHex, ScriptPrints, ScriptOne: walks. -/
import Derived.Test.YtbkhoepoeaiccaaDoorScrT
namespace Go.Proofs.YtbkhoepoeaiccaaDoor
open Go.RowKit Go.Shelf Go.Proofs.YtbkhoepoeaiccaaDoorW.PrintWords Go.Proofs.YtbkhoepoeaiccaaDoor.PScriptReads

set_option maxRecDepth 100000 in
set_option maxHeartbeats 1600000 in
theorem hex_law (w : World) (hE : Env w) (A : Option Addr) (n c : Nat) (l : List UInt8) (hC : Kd.C (Kd.int .u8) w A n (bl l)) (hc : n ≤ c) (hn : n ≤ 1099511627776) :
    Calls Tryd.prog 7 #[.slice A n c] w fun e w' => e = .returned (.bool true) ∧ Below w.heap.size w w' := by
  obtain ⟨sh, hsh⟩ : ∃ sh, sh = (⟨(hexL l).toArray⟩ : ByteArray) := ⟨_, rfl⟩
  have HA := Aside0.mk (answers_any w hE)
  have HP : Aside0 (∀ W, Below w.heap.size w W → Calls Tryd.prog 15 #[.slice A n c] W fun e W' => e = .returned (.string sh) ∧ Aside0 (Below w.heap.size w W')) := ⟨fun W hW => (PHex_any W A n c l (Kd.C_below hC hW) hc hn).mono fun e W' ⟨he, hb⟩ => ⟨by rw [he, hsh], ⟨hW.trans (hb.mono hW.size)⟩⟩⟩
  have HR : Aside0 (∀ W, Below w.heap.size w W → Calls Tryd.prog 16 #[.slice A n c] W fun e W' => e = .returned (.string sh) ∧ Aside0 (Below w.heap.size w W')) := ⟨fun W hW => (RHex_any W A n c l (Kd.C_below hC hW) hn).mono fun e W' ⟨he, hb⟩ => ⟨by rw [he, hsh], ⟨hW.trans (hb.below.mono hW.size)⟩⟩⟩
  clear hE hC hc hn hsh
  go_enter Tryd.func7, Tryd.ntmps7
  go_wp2_with (first
    | (go_at_call 10; with_reducible refine HA.out.mono ?_; rintro e W1 ⟨rfl, hb1⟩; have HB1 := Aside0.mk hb1; clear hb1)
    | (go_at_call 15; with_reducible refine (HP.out _ HB1.out).mono ?_; rintro e W2 ⟨rfl, HB2⟩)
    | (go_at_call 16; with_reducible refine (HR.out _ HB2.out).mono ?_; rintro e W3 ⟨rfl, HB3⟩))
  go_ret
  exact ⟨by simp, HB3.out⟩

set_option maxRecDepth 100000 in
set_option maxHeartbeats 1600000 in
theorem prints_law (w : World) (hE : Env w) (l : List St) (hwf : AllWf l) (A : Option Addr) (n c : Nat) (hC : Kd.C k33 w A n (l.map toS)) (hp : (printL l).length ≤ 268435456) (hn : n ≤ 1073741824) :
    Calls Tryd.prog 3 #[.slice A n c] w fun e w' => e = .returned (.bool true) ∧ Below w.heap.size w w' := by
  have hl : l.length = n := by have := Kd.C_len hC; rwa [List.length_map] at this
  obtain ⟨sp, hsp⟩ : ∃ sp, sp = (⟨(printL l).toArray⟩ : ByteArray) := ⟨_, rfl⟩
  have HP : Aside0 (Calls Tryd.prog 8 #[.slice A n c] w fun e W' => e = .returned (.string sp) ∧ Aside0 (Below w.heap.size w W')) := ⟨(PPrint_any w hE l hwf A n c hC hp hn).mono fun e W' ⟨he, hb⟩ => ⟨by rw [he, hsp], ⟨hb⟩⟩⟩
  have HPA : Aside0 (∀ W, Below w.heap.size w W → Calls Tryd.prog 9 #[.string sp] W fun e W' => ∃ (B : Option Addr) (d : Nat), e = .returned (.tuple #[.slice B n d, .int .i64 0, .int .i64 0]) ∧ Aside0 (Kd.C k33 W' B n (l.map toS)) ∧ Aside0 (Below w.heap.size w W')) := ⟨fun W hW => by
    rw [hsp]
    refine (Parse_any W (hE.below hW) (printL l) hp).mono fun e W' ⟨out, k, B, d, he, hP, _, hR, hB⟩ => ?_
    obtain ⟨rfl, rfl⟩ := parsed_unique hP (parsed_print l hwf)
    rw [hl] at he hR
    exact ⟨B, d, he, ⟨R_C hR⟩, ⟨hW.trans (hB.mono hW.size)⟩⟩⟩
  have HA : Aside0 (∀ W, Below w.heap.size w W → Calls Tryd.prog 10 #[] W fun e W' => e = .returned (.bool true) ∧ Aside0 (Below W.heap.size W W')) := ⟨fun W hW => (answers_any W (hE.below hW)).mono fun e W' ⟨he, hb⟩ => ⟨he, ⟨hb⟩⟩⟩
  have HR : Aside0 (∀ W, Below w.heap.size w W → Calls Tryd.prog 11 #[.slice A n c] W fun e W' => e = .returned (.string sp) ∧ Aside0 (Below W.heap.size W W')) := ⟨fun W hW => (RPrint_any W l hwf A n c (Kd.C_below hC hW) hp hn).mono fun e W' ⟨he, hb⟩ => ⟨by rw [he, hsp], ⟨hb⟩⟩⟩
  have HS : Aside0 (∀ W B d, Below w.heap.size w W → Kd.C k33 W B n (l.map toS) → Calls Tryd.prog 12 #[.slice A n c, .slice B n d] W fun e W' => e = .returned (.bool true) ∧ Below W.heap.size W W') := ⟨fun W B d hW hD => same_any W l l hwf hwf A B n c n d (Kd.C_below hC hW) hD hp hp hn hn rfl⟩
  clear hE hC hp hn hsp hwf hl
  go_enter Tryd.func3, Tryd.ntmps3
  go_wp2_with (first
    | (go_at_call 8; with_reducible refine HP.out.mono ?_; rintro e W1 ⟨rfl, HB1⟩)
    | (go_at_call 9; with_reducible refine (HPA.out _ HB1.out).mono ?_; rintro e W2 ⟨B, d, rfl, HD, HB2⟩)
    | (go_at_call 10; with_reducible refine (HA.out _ HB2.out).mono ?_; rintro e W3 ⟨rfl, hb3⟩; have HB3 := Aside0.mk (HB2.out.trans (hb3.out.mono HB2.out.size)); have HD3 := Aside0.mk (Kd.C_below HD.out hb3.out); clear hb3)
    | (go_at_call 11; with_reducible refine (HR.out _ HB3.out).mono ?_; rintro e W4 ⟨rfl, hb4⟩; have HB4 := Aside0.mk (HB3.out.trans (hb4.out.mono HB3.out.size)); have HD4 := Aside0.mk (Kd.C_below HD3.out hb4.out); clear hb4)
    | (go_at_call 12; with_reducible refine (HS.out _ _ _ HB4.out HD4.out).mono ?_; rintro e W5 ⟨rfl, hb5⟩; have HB5 := Aside0.mk (HB4.out.trans (hb5.mono HB4.out.size)); clear hb5))
  go_ret
  exact ⟨by simp, HB5.out⟩

set_option maxRecDepth 100000 in
set_option maxHeartbeats 1600000 in
theorem one_law (w : World) (hE : Env w) (s : List UInt8) (hs : s.length ≤ 268435456) :
    Calls Tryd.prog 5 #[.string ⟨s.toArray⟩] w fun e w' => e = .returned (.bool true) ∧ Below w.heap.size w w' := by
  obtain ⟨ss, hss⟩ : ∃ ss, ss = (⟨s.toArray⟩ : ByteArray) := ⟨_, rfl⟩
  have hpa := Parse_any w hE s hs
  rw [← hss] at hpa ⊢
  have HA : Aside0 (∀ W, Below w.heap.size w W → Calls Tryd.prog 10 #[] W fun e W' => e = .returned (.bool true) ∧ Aside0 (Below W.heap.size W W')) := ⟨fun W hW => (answers_any W (hE.below hW)).mono fun e W' ⟨he, hb⟩ => ⟨he, ⟨hb⟩⟩⟩
  by_cases hk : ∃ out, s = printL out ∧ AllWf out
  · obtain ⟨out, ho, hwf⟩ := hk
    have hlen : (printL out).length ≤ 268435456 := by rw [← ho]; exact hs
    have hn : out.length ≤ 1073741824 := by have := printL_len out; omega
    have HPA : Aside0 (Calls Tryd.prog 9 #[.string ss] w fun e W' => ∃ (B : Option Addr) (d : Nat), e = .returned (.tuple #[.slice B out.length d, .int .i64 0, .int .i64 0]) ∧ Aside0 (Kd.C k33 W' B out.length (out.map toS)) ∧ Aside0 (Below w.heap.size w W')) := ⟨hpa.mono fun e W' ⟨out', k, B, d, he, hP, _, hR, hB⟩ => by
      rw [ho] at hP
      obtain ⟨rfl, rfl⟩ := parsed_unique hP (parsed_print out hwf)
      exact ⟨B, d, he, ⟨R_C hR⟩, ⟨hB⟩⟩⟩
    have HP : Aside0 (∀ W B d, Below w.heap.size w W → Kd.C k33 W B out.length (out.map toS) → Calls Tryd.prog 8 #[.slice B out.length d] W fun e W' => e = .returned (.string ss) ∧ Aside0 (Below w.heap.size w W')) := ⟨fun W B d hW hC => (PPrint_any W (hE.below hW) out hwf B out.length d hC hlen hn).mono fun e W' ⟨he, hb⟩ => ⟨by rw [he, hss, ho], ⟨hW.trans (hb.mono hW.size)⟩⟩⟩
    obtain ⟨n, hn'⟩ : ∃ n, n = out.length := ⟨_, rfl⟩
    rw [← hn'] at HPA HP
    clear hE hs hss hpa ho hwf hlen hn hn'
    go_enter Tryd.func5, Tryd.ntmps5
    go_wp2_with (first
      | (go_at_call 9; with_reducible refine HPA.out.mono ?_; rintro e W1 ⟨B, d, rfl, HC1, HB1⟩)
      | (go_at_call 10; with_reducible refine (HA.out _ HB1.out).mono ?_; rintro e W2 ⟨rfl, hb2⟩; have HB2 := Aside0.mk (HB1.out.trans (hb2.out.mono HB1.out.size)); have HC2 := Aside0.mk (Kd.C_below HC1.out hb2.out); clear hb2)
      | (go_at_call 8; with_reducible refine (HP.out _ _ _ HB2.out HC2.out).mono ?_; rintro e W3 ⟨rfl, HB3⟩))
    go_ret
    exact ⟨by simp, HB3.out⟩
  · have HPA : Aside0 (Calls Tryd.prog 9 #[.string ss] w fun e W' => ∃ (B : Option Addr) (d k : Nat), e = .returned (.tuple #[.slice B 0 d, .int .i64 ((k : Int) + 1), .int .i64 13]) ∧ Aside0 (Below w.heap.size w W')) := ⟨hpa.mono fun e W' ⟨out', k, B, d, he, hP, _, hR, hB⟩ => by
      rcases hP with ⟨_, h1, h2⟩ | ⟨pre, t, _, _, h1, h2, _⟩
      · exact absurd ⟨out', h1, h2⟩ hk
      · subst h1 h2
        exact ⟨B, d, pre.length, he, ⟨hB⟩⟩⟩
    clear hE hs hss hpa hk
    go_enter Tryd.func5, Tryd.ntmps5
    go_wp2_with (first
      | (go_at_call 9; with_reducible refine HPA.out.mono ?_; rintro e W1 ⟨B, d, k, rfl, HB1⟩; have hk0 : ((k : Int) + 1 > 0) = True := eq_true (by omega); have hk1 : (0 < (k : Int) + 1) = True := eq_true (by omega))
      | (go_at_call 10; with_reducible refine (HA.out _ HB1.out).mono ?_; rintro e W2 ⟨rfl, hb2⟩; have HB2 := Aside0.mk (HB1.out.trans (hb2.out.mono HB1.out.size)); clear hb2))
    go_ret
    exact ⟨by simp <;> omega, HB2.out⟩
end Go.Proofs.YtbkhoepoeaiccaaDoor
