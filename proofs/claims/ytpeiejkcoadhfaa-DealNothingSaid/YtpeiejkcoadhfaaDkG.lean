/- What is dealt, one contract each; what answers tell; arguments. -/
import Derived.Test.YtpeiejkcoadhfaaDkF
import Derived.Test.YtpeiejkcoadhfaaDkE
import Derived.Test.YtpeiejkcoadhfaaDkC
set_option linter.all false
/- deal.Zeros, Blinds, Masks, Share: whether there are shares, and which. -/
namespace Go.Proofs.Ytpeiejkcoadhfaa
open Go.RowKit Go.Shelf Go.Proofs.YtpeiejkcoadhfaaW.PrintWords Go.Proofs.YtpeiejkcoadhfaaW.PrintMore
open Go.BigFrame
attribute [local go_sem] Oper.semAt_some

theorem RF_C {w : World} {base : Nat} {B : Option Addr} {q : List F} (h : RF w base B q) : Kd.C fk w B q.length q := by
  unfold RF at h
  exact h.1
/-- What is dealt: shares, or nothing. -/
def SV (W : World) (b N : Nat) (A : Option Addr) (len cap : Nat) (ok : Bool) (qs : List (List F)) : Prop :=
  if ok = true then ∃ g, A = some ⟨g, 0, none⟩ ∧ len = N ∧ cap = N ∧ b ≤ g ∧ RowsO W b (fun _ => True) g N (sharesL N qs) else A = none ∧ len = 0 ∧ cap = 0
theorem SV_lower {W : World} {b b' N : Nat} {A : Option Addr} {len cap : Nat} {ok : Bool} {qs : List (List F)} (h : SV W b N A len cap ok qs) (hb : b' ≤ b) : SV W b' N A len cap ok qs := by
  unfold SV at *
  split
  · rename_i e
    rw [if_pos e] at h
    obtain ⟨g, e1, e2, e3, e4, h⟩ := h
    exact ⟨g, e1, e2, e3, Nat.le_trans hb e4, rows_lower h hb⟩
  · rename_i e
    rw [if_neg e] at h
    exact h
theorem SV_fr {W W1 : World} {b N : Nat} {A : Option Addr} {len cap : Nat} {ok : Bool} {qs : List (List F)} (h : SV W b N A len cap ok qs) (hf : Fr (fun _ => False) W W1) : SV W1 b N A len cap ok qs := by
  unfold SV at *
  split
  · rename_i e
    rw [if_pos e] at h
    obtain ⟨g, e1, e2, e3, e4, h⟩ := h
    exact ⟨g, e1, e2, e3, e4, rows_fr h hf⟩
  · rename_i e
    rw [if_neg e] at h
    exact h
theorem dealt_any (w : World) (g N T K : Nat) (E Rm kind : Int) (cols : Nat) (A X : Option Addr) (n c nf cf' : Nat) (rnd fs : List F) (hF : Fld w g) (hr : Kd.C fk w A n rnd) (hf : Kd.C fk w X nf fs) (hc : n ≤ c) (hN : N ≤ 1000) (hT : T ≤ 1000) (hK : K ≤ 1000) (hTK : 1 ≤ T + K) (hcl : cols ≤ 100000) (hnf : nf ≤ 1000000) :
    Calls Try.prog 93 #[.pointer (some ⟨g, 0, none⟩), parV N T K E Rm, .int .i64 kind, .int .i64 cols, .slice A n c, .slice X nf cf'] w fun e w' => ∃ Y l cp, e = .returned (.tuple #[.slice Y l cp, .bool (decide (n = eachN T K kind * cols))]) ∧ SV w' w.heap.size N Y l cp (decide (n = eachN T K kind * cols)) (dealtL cols (eachN T K kind) fs rnd) ∧ Fr (fun _ => False) w w' := by
  by_cases h : n = eachN T K kind * cols
  · rw [decide_eq_true h]
    refine (dealt_yes w g N T K E Rm kind cols A X n c nf cf' rnd fs hF hr hf hc hN hT hK hTK hcl h hnf).mono ?_
    rintro e w' ⟨b, rfl, hb, hR, hfr⟩
    exact ⟨_, _, _, rfl, by unfold SV; rw [if_pos rfl]; exact ⟨b, rfl, rfl, rfl, hb, hR⟩, hfr⟩
  · rw [decide_eq_false h]
    refine (dealt_no w g N T K E Rm kind cols A X n c nf cf' hT hK hTK (by omega) h).mono ?_
    rintro e w' ⟨rfl, hfr⟩
    exact ⟨_, _, _, rfl, by unfold SV; rw [if_neg (by simp)]; exact ⟨rfl, rfl, rfl⟩, hfr⟩
theorem Share_any (w : World) (g N T K : Nat) (E Rm : Int) (A R : Option Addr) (n c m mc : Nat) (data rnd : List F) (hF : Fld w g) (hd : Kd.C fk w A n data) (hr : Kd.C fk w R m rnd) (hc : n ≤ c) (hmc : m ≤ mc) (hn : n ≤ 100000) (hN : N ≤ 1000) (hT : T ≤ 1000) (hK : K ≤ 255) (hK1 : 1 ≤ K) (hNK : N + K ≤ 255) :
    Calls Try.prog 51 #[.pointer (some ⟨g, 0, none⟩), parV N T K E Rm, .slice A n c, .slice R m mc] w fun e w' => ∃ Y l cp, e = .returned (.tuple #[.slice Y l cp, .bool (decide (m = T * ncol n K))]) ∧ SV w' w.heap.size N Y l cp (decide (m = T * ncol n K)) (polysL N T K data rnd) ∧ Fr (fun _ => False) w w' := by
  by_cases h : m = T * ncol n K
  · rw [decide_eq_true h]
    refine (share_yes w g N T K E Rm A R n c m mc data rnd hF hd hr hc hmc hn hN hT hK hK1 hNK h).mono ?_
    rintro e w' ⟨b, rfl, hb, hR, hfr⟩
    exact ⟨_, _, _, rfl, by unfold SV; rw [if_pos rfl]; exact ⟨b, rfl, rfl, rfl, hb, hR⟩, hfr⟩
  · rw [decide_eq_false h]
    refine (share_no w g N T K E Rm A R n c m mc data hd hc (by omega) hT hK hK1 h).mono ?_
    rintro e w' ⟨rfl, hfr⟩
    exact ⟨_, _, _, rfl, by unfold SV; rw [if_neg (by simp)]; exact ⟨rfl, rfl, rfl⟩, hfr⟩

set_option maxRecDepth 100000 in
set_option maxHeartbeats 1600000 in
theorem Masks_any (w : World) (g N T K : Nat) (E Rm : Int) (cols : Nat) (A : Option Addr) (n c : Nat) (rnd : List F) (hF : Fld w g) (hr : Kd.C fk w A n rnd) (hc : n ≤ c) (hN : N ≤ 1000) (hT : T ≤ 1000) (hK : K ≤ 1000) (hTK : 1 ≤ T + K) (hcl : cols ≤ 100000) (ok : Bool) (hok : ok = decide (n = eachN T K 4 * cols)) :
    Calls Try.prog 60 #[.pointer (some ⟨g, 0, none⟩), parV N T K E Rm, .int .i64 cols, .slice A n c] w fun e w' => ∃ Y l cp, e = .returned (.tuple #[.slice Y l cp, .bool ok]) ∧ SV w' w.heap.size N Y l cp ok (dealtL cols (eachN T K 4) [1] rnd) ∧ Fr (fun _ => False) w w' := by
  obtain ⟨w1, hw1, hz1, a0, hb1⟩ := heap1 w (Obj.cells #[.int .i64 N, .int .i64 T, .int .i64 K, .int .i64 E, .int .i64 Rm] 48)
  have hb2 : Below w.heap.size w (w1.alloc (.cells #[.int .u8 1] 5)) := below_then hb1 hb1.size (below_alloc (Below.refl _ _) _)
  have hl := R_C (R_litF w1 w1.heap.size (fun _ => True) [1] (by decide) (Nat.le_refl _) trivial)
  rw [hz1] at hl
  have HD := Aside0.mk (dealt_any (w1.alloc (.cells #[.int .u8 1] 5)) g N T K E Rm 4 cols A (some ⟨w.heap.size + 1, 0, none⟩) n c 1 1 rnd [1] (hF.fr (Fr.of_below hb2 (fun _ => False)) (fun h => h)) (Kd.C_below hr hb2) hl hc hN hT hK hTK hcl (by omega))
  rw [hw1, ← hok] at HD
  obtain ⟨qs, hqs⟩ : ∃ qs, qs = dealtL cols (eachN T K 4) [1] rnd := ⟨_, rfl⟩
  rw [← hqs] at HD ⊢
  clear hqs hok hl a0 hz1 hw1 hb1 hb2 hF hr
  have hu48 := Try.underlying48
  unfold parV at *
  go_enter Try.func60, Try.ntmps60
  go_wp2_with (go_at_call 93; with_reducible refine HD.out.mono ?_; rintro e W1 ⟨Y, l, cp, rfl, hsv, hf⟩; replace hsv := Aside0.mk hsv; replace hf := Aside0.mk hf)
  go_ret2
  have h1 := ((Fr.refl (fun _ => False) w).alloc (.cells #[.int .i64 N, .int .i64 T, .int .i64 K, .int .i64 E, .int .i64 Rm] 48)).alloc (.cells #[.int .u8 1] 5)
  exact ⟨Y, l, cp, rfl, SV_lower hsv.out h1.size, h1.trans' hf.out⟩

set_option maxRecDepth 100000 in
set_option maxHeartbeats 1600000 in
theorem Zeros_any (w : World) (g N T K : Nat) (E Rm : Int) (cols : Nat) (A : Option Addr) (n c : Nat) (rnd : List F) (hF : Fld w g) (hr : Kd.C fk w A n rnd) (hc : n ≤ c) (hN : N ≤ 1000) (hT : T ≤ 1000) (hK : K ≤ 1000) (hTK : 1 ≤ T + K) (hcl : cols ≤ 100000) (ok : Bool) (hok : ok = decide (n = eachN T K 2 * cols)) :
    Calls Try.prog 58 #[.pointer (some ⟨g, 0, none⟩), parV N T K E Rm, .int .i64 cols, .slice A n c] w fun e w' => ∃ Y l cp, e = .returned (.tuple #[.slice Y l cp, .bool ok]) ∧ SV w' w.heap.size N Y l cp ok (dealtL cols (eachN T K 2) (roots (secL N K)) rnd) ∧ Fr (fun _ => False) w w' := by
  obtain ⟨w0, hw0, hz0, a0, hb0⟩ := heap1 w (Obj.cells #[.int .i64 N, .int .i64 T, .int .i64 K, .int .i64 E, .int .i64 Rm] 48)
  have HSE := Aside0.mk (fun W => Secrets_any W N K T E Rm hN hK)
  obtain ⟨qs, hqs⟩ : ∃ qs, qs = dealtL cols (eachN T K 2) (roots (secL N K)) rnd := ⟨_, rfl⟩
  have HDD : Aside0 (∀ W Z cz, Below w0.heap.size w0 W → Kd.C fk W Z (K + 1) (roots (secL N K)) → Calls Try.prog 93 #[.pointer (some ⟨g, 0, none⟩), parV N T K E Rm, .int .i64 2, .int .i64 cols, .slice A n c, .slice Z (K + 1) cz] W fun e w' => ∃ Y l cp, e = .returned (.tuple #[.slice Y l cp, .bool ok]) ∧ SV w' W.heap.size N Y l cp ok qs ∧ Fr (fun _ => False) W w') := ⟨fun W Z cz hW hZ => by
    have hbW : Below w.heap.size w W := hb0.trans (hW.mono hb0.size)
    rw [hqs, hok]
    exact dealt_any W g N T K E Rm 2 cols A Z n c (K + 1) cz rnd _ (hF.fr (Fr.of_below hbW (fun _ => False)) (fun h => h)) (Kd.C_below hr hbW) hZ hc hN hT hK hTK hcl (by omega)⟩
  rw [← hqs]
  obtain ⟨s, hs⟩ : ∃ s, s = w.heap.size := ⟨_, rfl⟩
  rw [← hs] at a0
  have HG : Aside0 (∀ W, Fr (fun j => s + 1 ≤ j) w0 W → W.cell? ⟨s, 0, none⟩ = some (.int .i64 N) ∧ W.cell? ⟨s, 1, none⟩ = some (.int .i64 T) ∧ W.cell? ⟨s, 2, none⟩ = some (.int .i64 K) ∧ W.cell? ⟨s, 3, none⟩ = some (.int .i64 E) ∧ W.cell? ⟨s, 4, none⟩ = some (.int .i64 Rm)) :=
    ⟨fun W hW => by
      have h1 := hW.blk a0 (by omega)
      exact ⟨cell_at h1 rfl, cell_at h1 rfl, cell_at h1 rfl, cell_at h1 rfl, cell_at h1 rfl⟩⟩
  have HF : Aside0 (Fld w0 g) := ⟨hF.fr (Fr.of_below hb0 (fun _ => False)) (fun h => h)⟩
  have HB0 := Aside0.mk hb0
  have HS := Aside0.mk hs
  have HW0 := Aside0.mk hw0
  clear hqs hok hF hr a0 hb0 hz0 hw0 hs
  have hu48 := Try.underlying48
  unfold parV at *
  go_enter Try.func58, Try.ntmps58
  go_wp2
  rw [← HW0.out, ← HS.out]
  have S1 := HG.out w0 (Fr.refl _ _)
  go_region_held3 (fun W => W.cell? ⟨s, 0, none⟩ = some (.int .i64 N) ∧ W.cell? ⟨s, 1, none⟩ = some (.int .i64 T) ∧ W.cell? ⟨s, 2, none⟩ = some (.int .i64 K) ∧ W.cell? ⟨s, 3, none⟩ = some (.int .i64 E) ∧ W.cell? ⟨s, 4, none⟩ = some (.int .i64 Rm))
    (first | exact S4 | exact S3 | exact S2 | exact HG.out _ ((Fr.refl _ w0).drew))
    (first
      | (go_at_call 47; with_reducible refine (HSE.out _).mono ?_; rintro e W2 ⟨X, d2, rfl, hX, hb2⟩; have HB2 := Aside0.mk (of_drew hb2); have HRO := Aside0.mk (Roots_any W2 g X K d2 (secL N K) (HF.out.fr (Fr.of_below HB2.out (fun _ => False)) (fun h => h)) (R_C hX) (by omega)); have S2 := HG.out W2 (Fr.of_below HB2.out _); clear hX hb2)
      | (go_at_call 83; with_reducible refine HRO.out.mono ?_; rintro e W3 ⟨Z, rfl, hZ, hf3⟩; have HB3 := Aside0.mk (HB2.out.trans (hf3.f_below.mono HB2.out.size)); have HD3 := Aside0.mk (HDD.out W3 Z (K + 1) HB3.out (by have h := RF_C hZ; rwa [roots_length, secL_length] at h)); have S3 := HG.out W3 (Fr.of_below HB3.out _); clear hZ hf3)
      | (go_at_call 93; with_reducible refine HD3.out.mono ?_; rintro e W4 ⟨Y, l, cp, rfl, hsv, hf4⟩; have HSV := Aside0.mk hsv; have HF4 := Aside0.mk hf4; have S4 := HG.out W4 ((Fr.of_below HB3.out _).trans' (hf4.mono (fun _ h => h.elim))); clear hsv hf4))
  go_wp2
  go_ret2
  have h3 := HB0.out.trans (HB3.out.mono HB0.out.size)
  exact ⟨Y, l, cp, rfl, SV_lower HSV.out h3.size, (Fr.of_below h3 _).trans' HF4.out⟩

set_option maxRecDepth 100000 in
set_option maxHeartbeats 1600000 in
theorem Blinds_out (w : World) (g N T K : Nat) (E Rm target : Int) (cols : Nat) (A : Option Addr) (n c : Nat) (ht : target < 0 ∨ (N : Int) ≤ target) :
    Calls Try.prog 59 #[.pointer (some ⟨g, 0, none⟩), parV N T K E Rm, .int .i64 target, .int .i64 cols, .slice A n c] w fun e w' => e = .returned (.tuple #[.slice none 0 0, .bool false]) ∧ Fr (fun _ => False) w w' := by
  have hu48 := Try.underlying48
  unfold parV
  rcases ht with h | h
  · go_enter Try.func59, Try.ntmps59
    go_wp2
    go_ret2
    exact ⟨rfl, (Fr.refl _ w).alloc _⟩
  · by_cases h0 : target < 0
    · go_enter Try.func59, Try.ntmps59
      go_wp2
      go_ret2
      exact ⟨rfl, (Fr.refl _ w).alloc _⟩
    · have h0' : 0 ≤ target := by omega
      go_enter Try.func59, Try.ntmps59
      go_wp2
      go_ret2
      exact ⟨rfl, (Fr.refl _ w).alloc _⟩
set_option maxRecDepth 100000 in
set_option maxHeartbeats 1600000 in
theorem Blinds_in (w : World) (g N T K : Nat) (E Rm : Int) (target cols : Nat) (A : Option Addr) (n c : Nat) (rnd : List F) (hF : Fld w g) (hr : Kd.C fk w A n rnd) (hc : n ≤ c) (ht : target < N) (hN : N ≤ 1000) (hT : T ≤ 1000) (hK : K ≤ 1000) (hTK : 1 ≤ T + K) (hcl : cols ≤ 100000) (ok : Bool) (hok : ok = decide (n = eachN T K 3 * cols)) :
    Calls Try.prog 59 #[.pointer (some ⟨g, 0, none⟩), parV N T K E Rm, .int .i64 (target : Int), .int .i64 cols, .slice A n c] w fun e w' => ∃ Y l cp, e = .returned (.tuple #[.slice Y l cp, .bool ok]) ∧ SV w' w.heap.size N Y l cp ok (dealtL cols (eachN T K 3) (lin (ptF target)) rnd) ∧ Fr (fun _ => False) w w' := by
  obtain ⟨w0, hw0, hz0, a0, hb0⟩ := heap1 w (Obj.cells #[.int .i64 N, .int .i64 T, .int .i64 K, .int .i64 E, .int .i64 Rm] 48)
  have HP := Aside0.mk (fun W => Point_any W target)
  obtain ⟨qs, hqs⟩ : ∃ qs, qs = dealtL cols (eachN T K 3) (lin (ptF target)) rnd := ⟨_, rfl⟩
  obtain ⟨x, hx⟩ : ∃ x, x = ptF target := ⟨_, rfl⟩
  rw [← hx] at HP hqs
  have HDD : Aside0 (∀ W, Below w0.heap.size w0 W → Calls Try.prog 93 #[.pointer (some ⟨g, 0, none⟩), parV N T K E Rm, .int .i64 3, .int .i64 cols, .slice A n c, .slice (some ⟨W.heap.size, 0, none⟩) 2 2] (W.alloc (.cells #[.int .u8 x.v, .int .u8 1] 5)) fun e w' => ∃ Y l cp, e = .returned (.tuple #[.slice Y l cp, .bool ok]) ∧ SV w' (W.alloc (.cells #[.int .u8 x.v, .int .u8 1] 5)).heap.size N Y l cp ok qs ∧ Fr (fun _ => False) (W.alloc (.cells #[.int .u8 x.v, .int .u8 1] 5)) w') := ⟨fun W hW => by
    have hbW : Below w.heap.size w W := hb0.trans (hW.mono hb0.size)
    have hbl : Below W.heap.size W (W.alloc (.cells #[.int .u8 x.v, .int .u8 1] 5)) := below_alloc (Below.refl _ _) _
    have hbw2 := hbW.trans (hbl.mono hbW.size)
    have hlit : Kd.C fk (W.alloc (.cells #[.int .u8 x.v, .int .u8 1] 5)) (some ⟨W.heap.size, 0, none⟩) 2 (lin x) := R_C (R_litF W W.heap.size (fun _ => True) (lin x) (by simp [lin]) (Nat.le_refl _) trivial)
    rw [hqs, hok]
    exact dealt_any _ g N T K E Rm 3 cols A _ n c 2 2 rnd _ (hF.fr (Fr.of_below hbw2 (fun _ => False)) (fun h => h)) (Kd.C_below hr hbw2) hlit hc hN hT hK hTK hcl (by omega)⟩
  rw [hx] at hqs
  rw [← hqs]
  obtain ⟨s, hs⟩ : ∃ s, s = w.heap.size := ⟨_, rfl⟩
  rw [← hs] at a0
  have HG : Aside0 (∀ W, Fr (fun j => s + 1 ≤ j) w0 W → W.cell? ⟨s, 0, none⟩ = some (.int .i64 N) ∧ W.cell? ⟨s, 1, none⟩ = some (.int .i64 T) ∧ W.cell? ⟨s, 2, none⟩ = some (.int .i64 K) ∧ W.cell? ⟨s, 3, none⟩ = some (.int .i64 E) ∧ W.cell? ⟨s, 4, none⟩ = some (.int .i64 Rm)) :=
    ⟨fun W hW => by
      have h1 := hW.blk a0 (by omega)
      exact ⟨cell_at h1 rfl, cell_at h1 rfl, cell_at h1 rfl, cell_at h1 rfl, cell_at h1 rfl⟩⟩
  have HB0 := Aside0.mk hb0
  have HS := Aside0.mk hs
  have HW0 := Aside0.mk hw0
  have hI0 : (0 : Int) ≤ (target : Int) := by omega
  have hIN : (target : Int) < (N : Int) := by omega
  clear hqs hok hF hr a0 hb0 hz0 hw0 hs hx
  have hu48 := Try.underlying48
  unfold parV at *
  go_enter Try.func59, Try.ntmps59
  go_wp2
  rw [← HW0.out, ← HS.out]
  have S1 := HG.out w0 (Fr.refl _ _)
  go_region_held3 (fun W => W.cell? ⟨s, 0, none⟩ = some (.int .i64 N) ∧ W.cell? ⟨s, 1, none⟩ = some (.int .i64 T) ∧ W.cell? ⟨s, 2, none⟩ = some (.int .i64 K) ∧ W.cell? ⟨s, 3, none⟩ = some (.int .i64 E) ∧ W.cell? ⟨s, 4, none⟩ = some (.int .i64 Rm))
    (first | exact S4 | exact S3 | exact S2 | exact HG.out _ ((Fr.refl _ w0).drew))
    (first
      | (go_at_call 81; with_reducible refine (HP.out _).mono ?_; rintro e W2 ⟨rfl, hd2⟩; have HF2 := Aside0.mk ((Fr.refl (fun _ => False) w0).drew.trans' (Fr.of_drawn0 hd2)); have HD3 := Aside0.mk (HDD.out W2 HF2.out.f_below); have S2 := HG.out W2 (HF2.out.mono (fun _ h => h.elim)); have S3 := HG.out (W2.alloc (.cells #[.int .u8 x.v, .int .u8 1] 5)) ((HF2.out.mono (fun _ h => h.elim)).alloc _); clear hd2)
      | (go_at_call 93; with_reducible refine HD3.out.mono ?_; rintro e W4 ⟨Y, l, cp, rfl, hsv, hf4⟩; have HSV := Aside0.mk hsv; have HF4 := Aside0.mk hf4; have S4 := HG.out W4 ((((HF2.out.mono (fun _ h => h.elim)).alloc _)).trans' (hf4.mono (fun _ h => h.elim))); clear hsv hf4))
  go_wp2
  go_ret2
  have h3 := ((Fr.of_below HB0.out (fun _ => False)).trans' HF2.out).alloc (.cells #[.int .u8 x.v, .int .u8 1] 5)
  exact ⟨Y, l, cp, rfl, SV_lower HSV.out h3.size, h3.trans' HF4.out⟩
end Go.Proofs.Ytpeiejkcoadhfaa
/- What answers10 tells: a program that does something. -/
namespace Go.Proofs.Ytpeiejkcoadhfaa
open Go.RowKit Go.Shelf Go.Proofs.YtpeiejkcoadhfaaW.PrintWords Go.Proofs.YtpeiejkcoadhfaaW.PrintMore
open Go.BigFrame
attribute [local go_sem] Oper.semAt_some

theorem blk_new2 (W : World) (a b : Obj) : ((W.alloc a).alloc b).heap[W.heap.size + 1]? = some b := by
  have := blk_new (W.alloc a) b
  rwa [World.size_alloc] at this
theorem C_lit1 {W : World} {a : Nat} {x : F} (h : W.heap[a]? = some (.cells #[.int .u8 x.v] 5 (0, 0))) : Kd.C fk W (some ⟨a, 0, none⟩) 1 [x] := by
  refine Kd.C_of_reads (d := (0 : F)) ⟨rfl, by decide, fun _ => ⟨⟨a, 0, none⟩, rfl, fun j hj => ?_⟩⟩
  obtain rfl : j = 0 := by simp at hj; omega
  rw [add_zero']
  exact cell_at h rfl
theorem shares_one : sharesL 3 (polysL 3 1 1 [⟨7, by omega⟩] [0]) = [[⟨7, by omega⟩], [⟨7, by omega⟩], [⟨7, by omega⟩]] := by
  have hth : Thru (secL 3 1) (colF [⟨7, by omega⟩] 1 0) [⟨7, by omega⟩] := by
    refine ⟨by decide +kernel, by decide, fun i hi => ?_⟩
    obtain rfl : i = 0 := by simp [secL] at hi; omega
    decide +kernel
  have hp : polysL 3 1 1 [⟨7, by omega⟩] [0] = [[⟨7, by omega⟩]] := by
    unfold polysL
    rw [show ncol ([(⟨7, by omega⟩ : F)].length) 1 = 1 from by decide]
    simp only [List.range_one, List.map_cons, List.map_nil]
    rw [thruP_eq (secL_unl 3 1 (by omega)) hth]
    decide +kernel
  rw [hp]
  decide +kernel
theorem rows_cell {W : World} {b : Nat} {ok : Nat → Prop} {g N : Nat} {rows : List (List F)} (h : RowsO W b ok g N rows) (i : Nat) (hi : i < N) :
    ∃ B d, W.cell? ⟨g, i, none⟩ = some (.slice B (rows.getD i []).length d) ∧ (rows.getD i []).length ≤ d ∧ Kd.C fk W B (rows.getD i []).length (rows.getD i []) := by
  obtain ⟨ad, B, c, e, hx, hc, hC⟩ := PL_at (rows_PL h) i hi
  injection e with e
  subst e
  refine ⟨B, c, ?_, hc, hC⟩
  rw [← hx]
  rcases Nat.eq_zero_or_pos i with h0 | h0
  · subst h0; rw [add_zero']
  · rw [add_lit _ _ h0]; simp
theorem SV_yes {W : World} {b N : Nat} {A : Option Addr} {len cap : Nat} {ok : Bool} {qs : List (List F)} (h : SV W b N A len cap ok qs) (e : ok = true) : ∃ g, A = some ⟨g, 0, none⟩ ∧ len = N ∧ cap = N ∧ b ≤ g ∧ RowsO W b (fun _ => True) g N (sharesL N qs) := by
  unfold SV at h
  rwa [if_pos e] at h
theorem SV_no {W : World} {b N : Nat} {A : Option Addr} {len cap : Nat} {ok : Bool} {qs : List (List F)} (h : SV W b N A len cap ok qs) (e : ok = false) : A = none ∧ len = 0 ∧ cap = 0 := by
  unfold SV at h
  rwa [if_neg (by rw [e]; simp)] at h

set_option maxRecDepth 100000 in
set_option maxHeartbeats 3200000 in
theorem answers10 (w : World) : Calls Try.prog 42 #[] w fun e w' => e = .returned (.bool true) ∧ Fr (fun _ => False) w w' := by
  have HSH : Aside0 (∀ W g a b, Fld W g → W.heap[a]? = some (.cells #[.int .u8 7] 5 (0, 0)) → W.heap[b]? = some (.cells #[.int .u8 0] 5 (0, 0)) → Calls Try.prog 51 #[.pointer (some ⟨g, 0, none⟩), .agg #[.int .i64 3, .int .i64 1, .int .i64 1, .int .i64 0, .int .i64 9], .slice (some ⟨a, 0, none⟩) 1 1, .slice (some ⟨b, 0, none⟩) 1 1] W fun e w' =>
      ∃ x B d, e = .returned (.tuple #[.slice (some ⟨x, 0, none⟩) 3 3, .bool true]) ∧ w'.cell? ⟨x, 2, none⟩ = some (.slice B 1 d) ∧ Aside0 (Kd.C fk w' B 1 [⟨7, by omega⟩]) ∧ Fr (fun _ => False) W w') := ⟨fun W g a b hF ha hb => by
    have h := Share_any W g 3 1 1 0 9 (some ⟨a, 0, none⟩) (some ⟨b, 0, none⟩) 1 1 1 1 [⟨7, by omega⟩] [0] hF (C_lit1 (x := ⟨7, by omega⟩) ha) (C_lit1 (x := 0) hb) (Nat.le_refl _) (Nat.le_refl _) (by omega) (by omega) (by omega) (by omega) (by omega) (by omega)
    have hd : decide (1 = 1 * ncol 1 1) = true := by decide
    rw [hd] at h
    refine h.mono ?_
    rintro e w' ⟨Y, l, cp, rfl, hsv, hf⟩
    obtain ⟨x, rfl, rfl, rfl, _, hR⟩ := SV_yes hsv rfl
    rw [shares_one] at hR
    obtain ⟨B, d, hx, hd, hC⟩ := rows_cell hR 2 (by omega)
    exact ⟨x, B, d, rfl, hx, ⟨hC⟩, hf⟩⟩
  have HNW := Aside0.mk (fun W => New_any W)
  have HGD : Aside0 (∀ W, Calls Try.prog 43 #[.agg #[.int .i64 3, .int .i64 1, .int .i64 1, .int .i64 0, .int .i64 9]] W fun e w' => e = .returned (.bool true) ∧ Below W.heap.size W w') := ⟨fun W => by
    have h := Good_any W 3 1 1 0 9 (by omega)
    rw [show goodB 3 1 1 0 9 = true from by decide] at h
    exact h⟩
  have HPT : Aside0 (∀ W, Calls Try.prog 81 #[.int .i64 0] W fun e w' => e = .returned (.int .u8 1) ∧ Drawn0 W w') := ⟨fun W => Point_any W 0⟩
  have HND : Aside0 (∀ W, Calls Try.prog 49 #[.agg #[.int .i64 3, .int .i64 1, .int .i64 1, .int .i64 0, .int .i64 9], .int .i64 4, .int .i64 2] W fun e w' => e = .returned (.int .i64 4) ∧ Below W.heap.size W w') := ⟨fun W => Need_any W 3 1 1 0 9 4 2 (by omega) (by omega) (by omega) (by omega)⟩
  have HSE : Aside0 (∀ W, Calls Try.prog 47 #[.agg #[.int .i64 3, .int .i64 1, .int .i64 1, .int .i64 0, .int .i64 9]] W fun e w' => ∃ B d, e = .returned (.slice B 1 d) ∧ (convert 36 9 (.slice B 1 d)).run Try.prog w' = .ok (.string ⟨#[4]⟩) w' ∧ Below W.heap.size W w') := ⟨fun W => by
    refine (Secrets_any W 3 1 1 0 9 (by omega) (by omega)).mono ?_
    rintro e w' ⟨B, d, rfl, hR, hb⟩
    exact ⟨B, d, rfl, Kd.C_string (P := Try.prog) (c := d) Try.underlying36 Try.underlying5 Try.underlying9 (C_bs.2 (R_C hR)), hb⟩⟩
  obtain ⟨w0, hw0, hz0, a0, hb0⟩ := heap1 w (Obj.cells #[.int .i64 3, .int .i64 1, .int .i64 1, .int .i64 0, .int .i64 9] 48)
  obtain ⟨s, hs⟩ : ∃ s, s = w.heap.size := ⟨_, rfl⟩
  rw [← hs] at a0
  have HG : Aside0 (∀ W, Fr (fun _ => False) w0 W → W.cell? ⟨s, 0, none⟩ = some (.int .i64 3) ∧ W.cell? ⟨s, 1, none⟩ = some (.int .i64 1) ∧ W.cell? ⟨s, 2, none⟩ = some (.int .i64 1) ∧ W.cell? ⟨s, 3, none⟩ = some (.int .i64 0) ∧ W.cell? ⟨s, 4, none⟩ = some (.int .i64 9)) :=
    ⟨fun W hW => by
      have h1 := hW.blk a0 (fun h => h)
      exact ⟨cell_at h1 rfl, cell_at h1 rfl, cell_at h1 rfl, cell_at h1 rfl, cell_at h1 rfl⟩⟩
  have HB0 := Aside0.mk hb0
  have HS := Aside0.mk hs
  have HW0 := Aside0.mk hw0
  clear a0 hb0 hz0 hw0 hs
  have hu48 := Try.underlying48
  go_enter Try.func42, Try.ntmps42
  go_wp2
  rw [← HW0.out, ← HS.out]
  have S1 := HG.out w0 (Fr.refl _ _)
  go_region_held3 (fun W => W.cell? ⟨s, 0, none⟩ = some (.int .i64 3) ∧ W.cell? ⟨s, 1, none⟩ = some (.int .i64 1) ∧ W.cell? ⟨s, 2, none⟩ = some (.int .i64 1) ∧ W.cell? ⟨s, 3, none⟩ = some (.int .i64 0) ∧ W.cell? ⟨s, 4, none⟩ = some (.int .i64 9))
    (first | exact S4 | exact HG.out _ (by repeat (first | exact Fr.refl _ _ | refine Fr.trans' ?_ hf0 | apply Fr.alloc | apply Fr.drew)))
    (first
      | (go_at_call 28; with_reducible refine (HNW.out _).mono ?_; rintro e W1 ⟨g, rfl, -, -, hF, hf0⟩)
      | (go_at_call 51; with_reducible refine (HSH.out _ g _ _ (hF.fr (S := fun _ => False) (by first | exact Fr.refl _ _ | exact (Fr.refl _ _).alloc _ | exact ((Fr.refl _ _).alloc _).alloc _) (fun h => h)) (by first | exact blk_alloc (blk_new _ _) _ | exact blk_new2 _ _ _ | exact blk_alloc (hf0.blk (blk_new _ _) (fun h => h)) _ | exact blk_new _ _ | exact hf0.blk (blk_alloc (blk_new _ _) _) (fun h => h) | exact hf0.blk (blk_new2 _ _ _) (fun h => h)) (by first | exact blk_alloc (blk_new _ _) _ | exact blk_new2 _ _ _ | exact blk_alloc (hf0.blk (blk_new _ _) (fun h => h)) _ | exact blk_new _ _ | exact hf0.blk (blk_alloc (blk_new _ _) _) (fun h => h) | exact hf0.blk (blk_new2 _ _ _) (fun h => h))).mono ?_; rintro e W4 ⟨x, B, d, rfl, hx, hcv, hf4⟩; have HF4 : Aside0 (Fr (fun _ => False) w0 W4) := ⟨Fr.trans' (by repeat (first | exact Fr.refl _ _ | refine Fr.trans' ?_ hf0 | apply Fr.alloc | apply Fr.drew)) hf4⟩; have S4 := HG.out W4 HF4.out; have HX := Aside0.mk hx; clear hf4 hx))
  all_goals
    clear hF hf0
    obtain ⟨v0, v1, v2, v3, v4⟩ := S4
    go_wp2_with (first
      | (go_at_call 43; with_reducible refine (HGD.out _).mono ?_; rintro e W5 ⟨rfl, hb5⟩; have HF45 := Aside0.mk (Fr.of_below hb5 (fun _ => False)); obtain ⟨u0, u1, u2, u3, u4⟩ := HG.out W5 (HF4.out.trans' HF45.out); clear hb5)
      | (go_at_call 81; with_reducible refine (HPT.out _).mono ?_; rintro e W6 ⟨rfl, hd6⟩; have HF46 := Aside0.mk (HF45.out.trans' (Fr.of_drawn0 hd6)); obtain ⟨t0, t1, t2, t3, t4⟩ := HG.out W6 (HF4.out.trans' HF46.out); clear hd6)
      | (go_at_call 49; with_reducible refine (HND.out _).mono ?_; rintro e W7 ⟨rfl, hb7⟩; have HF47 := Aside0.mk (HF46.out.below_ hb7); obtain ⟨r0, r1, r2, r3, r4⟩ := HG.out W7 (HF4.out.trans' HF47.out); have hx7 := HF47.out.cell HX.out (fun h => h); have hcv7 := Kd.C_string (P := Try.prog) (c := d) Try.underlying36 Try.underlying5 Try.underlying9 (C_bs.2 (Kd.C_below hcv.out HF47.out.f_below)); rw [show strOfNums (bs [(⟨7, by omega⟩ : F)]) = ⟨#[7]⟩ from rfl] at hcv7; clear hb7)
      | (go_at_call 47; with_reducible refine (HSE.out _).mono ?_; rintro e W8 ⟨B8, d8, rfl, hcv8, hb8⟩; have HF48 := Aside0.mk (HF47.out.below_ hb8); clear hb8))
    go_ret
    exact ⟨by first | rfl | simp, ((Fr.of_below HB0.out (fun _ => False)).trans' HF4.out).trans' HF48.out⟩

end Go.Proofs.Ytpeiejkcoadhfaa
/- How the laws' arguments are opened; are shares of a kind as they should be? -/
namespace Go.Proofs.Ytpeiejkcoadhfaa
open Go.RowKit Go.Shelf Go.Proofs.YtpeiejkcoadhfaaW.PrintWords Go.Proofs.YtpeiejkcoadhfaaW.PrintMore
open Go.BigFrame
attribute [local go_sem] Oper.semAt_some

abbrev ki : Kd Int := Kd.int .i64
theorem opens_i64 : Opens Try.prog ki 3 (fun x => (Lit.int .i64 x).wf = true) (fun _ => 1) := opens_int 3 .i64 Try.underlying3 (by kernel_rfl)
theorem opens_ints : Opens Try.prog (Kd.slice 3 ki) 50 (fun l => ∀ a ∈ l, (Lit.int .i64 a).wf = true) (fun l => (l.map fun _ => 1).sum + 1) := opens_slice 50 Try.underlying50 (by kernel_rfl) opens_i64
abbrev Par : Type := Int × Int × Int × Int × Int
abbrev kpar : Kd Par := Kd.iso (Kd.pair ki (Kd.pair ki (Kd.pair ki (Kd.pair ki ki)))) id
def wfI (x : Int) : Prop := (Lit.int .i64 x).wf = true
def wfPar (p : Par) : Prop := wfI p.1 ∧ wfI p.2.1 ∧ wfI p.2.2.1 ∧ wfI p.2.2.2.1 ∧ wfI p.2.2.2.2
theorem opens_params : Opens Try.prog kpar 48 wfPar (fun _ => 1 + (1 + (1 + (1 + 1))) + 1) :=
  opens_struct 48 _ Try.underlying48 (by kernel_rfl) (opensF_cons _ _ 0 rfl opens_i64 (opensF_cons _ _ 1 rfl opens_i64 (opensF_cons _ _ 2 rfl opens_i64 (opensF_cons _ _ 3 rfl opens_i64 (opensF_one _ 4 rfl opens_i64))))) id id (fun _ => rfl)
theorem par_cs {w : World} {p : Par} {cs : Array Value} (h : kpar.K w p cs.toList) : Value.agg cs = parV p.1 p.2.1 p.2.2.1 p.2.2.2.1 p.2.2.2.2 := by
  obtain ⟨N, T, K, E, Rm⟩ := p
  obtain ⟨l1, r1, e1, h1, l2, r2, e2, h2, l3, r3, e3, h3, l4, r4, e4, h4, h5⟩ := h
  have e : cs.toList = [.int .i64 N, .int .i64 T, .int .i64 K, .int .i64 E, .int .i64 Rm] := by
    rw [e1, e2, e3, e4, show l1 = [.int .i64 N] from h1, show l2 = [.int .i64 T] from h2, show l3 = [.int .i64 K] from h3, show l4 = [.int .i64 E] from h4, show r4 = [.int .i64 Rm] from h5]
    rfl
  have : cs = #[.int .i64 N, .int .i64 T, .int .i64 K, .int .i64 E, .int .i64 Rm] := by rw [← Array.toArray_toList (xs := cs), e]
  rw [this]; rfl
/-- Bytes are elements of the field. -/
theorem bytes_F (l : List Int) (h : ∀ a ∈ l, (Lit.int .u8 a).wf = true) : ∃ p : List F, bs p = l := by
  induction l with
  | nil => exact ⟨[], rfl⟩
  | cons a l ih =>
    obtain ⟨p, hp⟩ := ih (fun b hb => h b (List.mem_cons_of_mem _ hb))
    obtain ⟨n, rfl, hn⟩ := u8_nt (h a (List.mem_cons_self ..))
    exact ⟨⟨n, hn⟩ :: p, by simp [bs, ← hp]⟩
/-- Params that may be, as numbers. -/
theorem gd_nat {N T K E Rm : Int} (h : Gd N T K E Rm) : ∃ n t k : Nat, N = n ∧ T = t ∧ K = k ∧ n ≤ 255 ∧ 1 ≤ t ∧ t ≤ 255 ∧ 1 ≤ k ∧ k ≤ 255 ∧ n + k ≤ 255 ∧ t + k ≤ n := by
  obtain ⟨h1, h2, h3, h4, h5, h6, h7, h8, h9, h10, h11, h12⟩ := h
  exact ⟨N.toNat, T.toNat, K.toNat, by omega, by omega, by omega, by omega, by omega, by omega, by omega, by omega, by omega, by omega⟩

theorem polyW_of {W : World} {b c : Nat} {A : Option Addr} {n : Nat} {qs : List (List F)} (h : PolyW W b (.slice A n c) qs) : PL W A n qs := polyW_PL h
theorem dealtL_len {cols en : Nat} {fs rnd : List F} : ∀ q ∈ dealtL cols en fs rnd, q.length ≤ fs.length + en + 1 := fun q hq => by
  obtain ⟨j, _, rfl⟩ := List.mem_map.1 hq
  exact trim_le (fun i hi => cf_mul_ge fs (pieceL rnd en j) (fs.length + 1) en (fun k hk => cf_ge _ _ (by omega)) (fun k hk => cf_ge _ _ (by simp [pieceL]; omega)) i (by omega) (by omega))
set_option maxRecDepth 100000 in
set_option maxHeartbeats 1600000 in
theorem is_any (w : World) (N T K : Nat) (E Rm kind target : Int) (cols : Nat) (X : Option Addr) (l cp : Nat) (ok : Bool) (A : Option Addr) (n c b : Nat) (rnd : List F) (t : F) (hsv : SV w b N X l cp ok (dealtL cols (eachN T K kind) (factorL N K kind t) rnd)) (hr : Kd.C fk w A n rnd) (hc : n ≤ c)
    (hN : N ≤ 1000) (hT : T ≤ 1000) (hK : K ≤ 1000) (hTK : 1 ≤ T + K) (hcl : cols ≤ 100000) (hn : ok = true → eachN T K kind * cols ≤ n) (hnl : ok = true → n ≤ 1099511627775) (ht : ok = true → kind = 3 → wrap64 (target + 1) % 256 = (t.v : Int)) :
    Calls Try.prog 61 #[parV N T K E Rm, .slice X l cp, .bool ok, .int .i64 kind, .int .i64 target, .int .i64 cols, .slice A n c] w fun e w' => e = .returned (.bool true) ∧ Fr (fun _ => False) w w' := by
  cases ok with
  | false =>
    obtain ⟨rfl, rfl, rfl⟩ := SV_no hsv rfl
    have hu48 := Try.underlying48
    unfold parV
    clear hsv hr hn hnl ht
    go_enter Try.func61, Try.ntmps61
    go_wp2
    go_ret
    exact ⟨rfl, (Fr.refl _ w).alloc _⟩
  | true =>
    obtain ⟨g, rfl, e1, e2, hbg, hrows⟩ := SV_yes hsv rfl
    obtain rfl : N = l := e1.symm
    obtain rfl : N = cp := e2.symm
    have hn := hn rfl
    have hnl := hnl rfl
    have ht := ht rfl
    have HFA := Aside0.mk (fun W => RFactor_any W N T K E Rm kind target t hN hK ht)
    obtain ⟨fs, hfs⟩ : ∃ fs, fs = factorL N K kind t := ⟨_, rfl⟩
    have hfl : fs.length ≤ K + 2 := by rw [hfs]; exact factorL_len _ _ _ _
    rw [← hfs] at HFA hrows
    have HTI := Aside0.mk (fun W D cd (hR : Kd.C fk W A n rnd) (hD : Kd.C fk W D fs.length fs) => RTimesL_any W N T K E Rm kind cols A D n c fs.length cd rnd fs hR hD hc hT hK hTK hcl hn hnl (by omega))
    have hql := dealtL_len (cols := cols) (en := eachN T K kind) (fs := fs) (rnd := rnd)
    have henl := eachN_le T K kind hT hK
    obtain ⟨qs, hqs⟩ : ∃ qs, qs = dealtL cols (eachN T K kind) fs rnd := ⟨_, rfl⟩
    rw [← hqs] at HTI hrows hql
    have HSH := Aside0.mk (fun W D cd (hP : PL W D cols qs) => RShares_any W N T K E Rm D cols cd qs hP hN hcl (fun q hq => by have := hql q hq; omega))
    have HSA := Aside0.mk (fun W A B c d (h1 : PL W A N (sharesL N qs)) (h2 : PL W B N (sharesL N qs)) => RSame_any W A B N N c d _ _ h1 h2 (by omega) (by omega))
    have HRW := Aside0.mk hrows
    have HR := Aside0.mk hr
    obtain ⟨w0, hw0, hz0, a0, hb0⟩ := heap1 w (Obj.cells #[.int .i64 N, .int .i64 T, .int .i64 K, .int .i64 E, .int .i64 Rm] 48)
    obtain ⟨s, hs⟩ : ∃ s, s = w.heap.size := ⟨_, rfl⟩
    rw [← hs] at a0
    have HG : Aside0 (∀ W, Fr (fun _ => False) w0 W → W.cell? ⟨s, 0, none⟩ = some (.int .i64 N) ∧ W.cell? ⟨s, 1, none⟩ = some (.int .i64 T) ∧ W.cell? ⟨s, 2, none⟩ = some (.int .i64 K) ∧ W.cell? ⟨s, 3, none⟩ = some (.int .i64 E) ∧ W.cell? ⟨s, 4, none⟩ = some (.int .i64 Rm)) :=
      ⟨fun W hW => by
        have h1 := hW.blk a0 (fun h => h)
        exact ⟨cell_at h1 rfl, cell_at h1 rfl, cell_at h1 rfl, cell_at h1 rfl, cell_at h1 rfl⟩⟩
    have HB0 := Aside0.mk hb0
    have HS := Aside0.mk hs
    have HW0 := Aside0.mk hw0
    obtain ⟨nf, hnf⟩ : ∃ nf, nf = fs.length := ⟨_, rfl⟩
    rw [← hnf] at HFA HTI
    clear a0 hb0 hz0 hw0 hs hsv hr hn ht hfs hfl hql henl hqs hrows hnf
    have hu48 := Try.underlying48
    unfold parV at *
    go_enter Try.func61, Try.ntmps61
    go_wp2
    rw [← HW0.out, ← HS.out]
    have S1 := HG.out w0 (Fr.refl _ _)
    go_region_held3 (fun W => W.cell? ⟨s, 0, none⟩ = some (.int .i64 N) ∧ W.cell? ⟨s, 1, none⟩ = some (.int .i64 T) ∧ W.cell? ⟨s, 2, none⟩ = some (.int .i64 K) ∧ W.cell? ⟨s, 3, none⟩ = some (.int .i64 E) ∧ W.cell? ⟨s, 4, none⟩ = some (.int .i64 Rm))
      (first | exact S5 | exact S4 | exact S3 | exact S2 | exact HG.out _ ((Fr.refl _ w0).drew))
      (first
        | (go_at_call 94; with_reducible refine (HFA.out _).mono ?_; rintro e W2 ⟨D, cd, rfl, hcd, hC2, hb2⟩; have HF2 := Aside0.mk (Fr.of_below (of_drew hb2) (fun _ => False)); have HT2 := Aside0.mk (HTI.out W2 D cd (Kd.C_below HR.out (HB0.out.trans ((HF2.out.f_below).mono HB0.out.size))) hC2); have S2 := HG.out W2 HF2.out; clear hC2 hb2)
        | (go_at_call 89; with_reducible refine HT2.out.mono ?_; rintro e W3 ⟨B3, d3, rfl, hP3, hb3⟩; have HF3 := Aside0.mk (HF2.out.below_ hb3); have HS3 := Aside0.mk (HSH.out W3 B3 d3 (polyW_PL hP3)); have S3 := HG.out W3 HF3.out; clear hP3 hb3)
        | (go_at_call 53; with_reducible refine HS3.out.mono ?_; rintro e W4 ⟨g4, rfl, hg4, hR4, hb4⟩; have HF4 := Aside0.mk (HF3.out.below_ hb4); have HS4 := Aside0.mk (HSA.out W4 (some ⟨g, 0, none⟩) (some ⟨g4, 0, none⟩) N N (rows_PL (rows_fr HRW.out ((Fr.of_below HB0.out _).trans' HF4.out))) (rows_PL hR4)); have S4 := HG.out W4 HF4.out; clear hR4 hb4)
        | (go_at_call 52; with_reducible refine HS4.out.mono ?_; rintro e W5 ⟨rfl, hd5⟩; have HF5 := Aside0.mk (HF4.out.trans' (Fr.of_drawn0 hd5)); have S5 := HG.out W5 HF5.out; clear hd5))
    go_wp2
    go_ret
    exact ⟨by simp, (Fr.of_below HB0.out _).trans' HF5.out⟩
end Go.Proofs.Ytpeiejkcoadhfaa
