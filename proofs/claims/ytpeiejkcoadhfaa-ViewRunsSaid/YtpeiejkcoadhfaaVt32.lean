/- What the view's laws take, Vt32: PzAC, VwR, VwS, VwT, VwAC, PzAD, PzAE, VwCL. -/
import Derived.Test.YtpeiejkcoadhfaaVt12
import Derived.Test.YtpeiejkcoadhfaaVt16
import Derived.Test.YtpeiejkcoadhfaaVt23
import Derived.Test.YtpeiejkcoadhfaaVt25
import Derived.Test.YtpeiejkcoadhfaaVt27
import Derived.Test.YtpeiejkcoadhfaaVt30
import Derived.Test.YtpeiejkcoadhfaaVt31
set_option linter.all false
namespace Go.Proofs.Ytpeiejkcoadhfaa
open Go.RowKit Go.Shelf Go.Proofs.YtpeiejkcoadhfaaW.PrintWords Go.Proofs.YtpeiejkcoadhfaaW.PrintMore
open Go.BigFrame
attribute [local go_sem] Oper.semAt_some
theorem RF_C {w : World} {base : Nat} {B : Option Addr} {q : List F} (h : RF w base B q) : Kd.C fk w B q.length q := by
  unfold RF at h
  exact h.1
def SV (W : World) (b N : Nat) (A : Option Addr) (len cap : Nat) (ok : Bool) (qs : List (List F)) : Prop :=
  if ok = true then ∃ g, A = some ⟨g, 0, none⟩ ∧ len = N ∧ cap = N ∧ b ≤ g ∧ RowsO W b (fun _ => True) g N (sharesL N qs) else A = none ∧ len = 0 ∧ cap = 0
theorem SV_lower {W : World} {b b' N : Nat} {A : Option Addr} {len cap : Nat} {ok : Bool} {qs : List (List F)} (h : SV W b N A len cap ok qs) (hb : b' ≤ b) : SV W b' N A len cap ok qs := by
  unfold SV at *
  split
  · rename_i e
    rw [if_pos e] at h
    obtain ⟨g, e1, e2, e3, e4, h⟩ := h
    exact ⟨g, e1, e2, e3, Nat.le_trans hb e4, rows_lower h hb⟩
  · rename_i e
    rw [if_neg e] at h
    exact h
theorem dealt_any (w : World) (g N T K : Nat) (E Rm kind : Int) (cols : Nat) (A X : Option Addr) (n c nf cf' : Nat) (rnd fs : List F) (hF : Fld w g) (hr : Kd.C fk w A n rnd) (hf : Kd.C fk w X nf fs) (hc : n ≤ c) (hN : N ≤ 1000) (hT : T ≤ 1000) (hK : K ≤ 1000) (hTK : 1 ≤ T + K) (hcl : cols ≤ 100000) (hnf : nf ≤ 1000000) :
    Calls Try.prog 93 #[.pointer (some ⟨g, 0, none⟩), parV N T K E Rm, .int .i64 kind, .int .i64 cols, .slice A n c, .slice X nf cf'] w fun e w' => ∃ Y l cp, e = .returned (.tuple #[.slice Y l cp, .bool (decide (n = eachN T K kind * cols))]) ∧ SV w' w.heap.size N Y l cp (decide (n = eachN T K kind * cols)) (dealtL cols (eachN T K kind) fs rnd) ∧ Fr (fun _ => False) w w' := by
  by_cases h : n = eachN T K kind * cols
  · rw [decide_eq_true h]
    refine (dealt_yes w g N T K E Rm kind cols A X n c nf cf' rnd fs hF hr hf hc hN hT hK hTK hcl h hnf).mono ?_
    rintro e w' ⟨b, rfl, hb, hR, hfr⟩
    exact ⟨_, _, _, rfl, by unfold SV; rw [if_pos rfl]; exact ⟨b, rfl, rfl, rfl, hb, hR⟩, hfr⟩
  · rw [decide_eq_false h]
    refine (dealt_no w g N T K E Rm kind cols A X n c nf cf' hT hK hTK (by omega) h).mono ?_
    rintro e w' ⟨rfl, hfr⟩
    exact ⟨_, _, _, rfl, by unfold SV; rw [if_neg (by simp)]; exact ⟨rfl, rfl, rfl⟩, hfr⟩
theorem Share_any (w : World) (g N T K : Nat) (E Rm : Int) (A R : Option Addr) (n c m mc : Nat) (data rnd : List F) (hF : Fld w g) (hd : Kd.C fk w A n data) (hr : Kd.C fk w R m rnd) (hc : n ≤ c) (hmc : m ≤ mc) (hn : n ≤ 100000) (hN : N ≤ 1000) (hT : T ≤ 1000) (hK : K ≤ 255) (hK1 : 1 ≤ K) (hNK : N + K ≤ 255) :
    Calls Try.prog 51 #[.pointer (some ⟨g, 0, none⟩), parV N T K E Rm, .slice A n c, .slice R m mc] w fun e w' => ∃ Y l cp, e = .returned (.tuple #[.slice Y l cp, .bool (decide (m = T * ncol n K))]) ∧ SV w' w.heap.size N Y l cp (decide (m = T * ncol n K)) (polysL N T K data rnd) ∧ Fr (fun _ => False) w w' := by
  by_cases h : m = T * ncol n K
  · rw [decide_eq_true h]
    refine (share_yes w g N T K E Rm A R n c m mc data rnd hF hd hr hc hmc hn hN hT hK hK1 hNK h).mono ?_
    rintro e w' ⟨b, rfl, hb, hR, hfr⟩
    exact ⟨_, _, _, rfl, by unfold SV; rw [if_pos rfl]; exact ⟨b, rfl, rfl, rfl, hb, hR⟩, hfr⟩
  · rw [decide_eq_false h]
    refine (share_no w g N T K E Rm A R n c m mc data hd hc (by omega) hT hK hK1 h).mono ?_
    rintro e w' ⟨rfl, hfr⟩
    exact ⟨_, _, _, rfl, by unfold SV; rw [if_neg (by simp)]; exact ⟨rfl, rfl, rfl⟩, hfr⟩
set_option maxRecDepth 100000 in
set_option maxHeartbeats 1600000 in
theorem Masks_any (w : World) (g N T K : Nat) (E Rm : Int) (cols : Nat) (A : Option Addr) (n c : Nat) (rnd : List F) (hF : Fld w g) (hr : Kd.C fk w A n rnd) (hc : n ≤ c) (hN : N ≤ 1000) (hT : T ≤ 1000) (hK : K ≤ 1000) (hTK : 1 ≤ T + K) (hcl : cols ≤ 100000) (ok : Bool) (hok : ok = decide (n = eachN T K 4 * cols)) :
    Calls Try.prog 60 #[.pointer (some ⟨g, 0, none⟩), parV N T K E Rm, .int .i64 cols, .slice A n c] w fun e w' => ∃ Y l cp, e = .returned (.tuple #[.slice Y l cp, .bool ok]) ∧ SV w' w.heap.size N Y l cp ok (dealtL cols (eachN T K 4) [1] rnd) ∧ Fr (fun _ => False) w w' := by
  obtain ⟨w1, hw1, hz1, a0, hb1⟩ := heap1 w (Obj.cells #[.int .i64 N, .int .i64 T, .int .i64 K, .int .i64 E, .int .i64 Rm] 48)
  have hb2 : Below w.heap.size w (w1.alloc (.cells #[.int .u8 1] 5)) := below_then hb1 hb1.size (below_alloc (Below.refl _ _) _)
  have hl := R_C (R_litF w1 w1.heap.size (fun _ => True) [1] (by decide) (Nat.le_refl _) trivial)
  rw [hz1] at hl
  have HD := Aside0.mk (dealt_any (w1.alloc (.cells #[.int .u8 1] 5)) g N T K E Rm 4 cols A (some ⟨w.heap.size + 1, 0, none⟩) n c 1 1 rnd [1] (hF.fr (Fr.of_below hb2 (fun _ => False)) (fun h => h)) (Kd.C_below hr hb2) hl hc hN hT hK hTK hcl (by omega))
  rw [hw1, ← hok] at HD
  obtain ⟨qs, hqs⟩ : ∃ qs, qs = dealtL cols (eachN T K 4) [1] rnd := ⟨_, rfl⟩
  rw [← hqs] at HD ⊢
  clear hqs hok hl a0 hz1 hw1 hb1 hb2 hF hr
  have hu48 := Try.underlying48
  unfold parV at *
  go_enter Try.func60, Try.ntmps60
  go_wp2_with (go_at_call 93; with_reducible refine HD.out.mono ?_; rintro e W1 ⟨Y, l, cp, rfl, hsv, hf⟩; replace hsv := Aside0.mk hsv; replace hf := Aside0.mk hf)
  go_ret2
  have h1 := ((Fr.refl (fun _ => False) w).alloc (.cells #[.int .i64 N, .int .i64 T, .int .i64 K, .int .i64 E, .int .i64 Rm] 48)).alloc (.cells #[.int .u8 1] 5)
  exact ⟨Y, l, cp, rfl, SV_lower hsv.out h1.size, h1.trans' hf.out⟩
set_option maxRecDepth 100000 in
set_option maxHeartbeats 1600000 in
theorem Zeros_any (w : World) (g N T K : Nat) (E Rm : Int) (cols : Nat) (A : Option Addr) (n c : Nat) (rnd : List F) (hF : Fld w g) (hr : Kd.C fk w A n rnd) (hc : n ≤ c) (hN : N ≤ 1000) (hT : T ≤ 1000) (hK : K ≤ 1000) (hTK : 1 ≤ T + K) (hcl : cols ≤ 100000) (ok : Bool) (hok : ok = decide (n = eachN T K 2 * cols)) :
    Calls Try.prog 58 #[.pointer (some ⟨g, 0, none⟩), parV N T K E Rm, .int .i64 cols, .slice A n c] w fun e w' => ∃ Y l cp, e = .returned (.tuple #[.slice Y l cp, .bool ok]) ∧ SV w' w.heap.size N Y l cp ok (dealtL cols (eachN T K 2) (roots (secL N K)) rnd) ∧ Fr (fun _ => False) w w' := by
  obtain ⟨w0, hw0, hz0, a0, hb0⟩ := heap1 w (Obj.cells #[.int .i64 N, .int .i64 T, .int .i64 K, .int .i64 E, .int .i64 Rm] 48)
  have HSE := Aside0.mk (fun W => Secrets_any W N K T E Rm hN hK)
  obtain ⟨qs, hqs⟩ : ∃ qs, qs = dealtL cols (eachN T K 2) (roots (secL N K)) rnd := ⟨_, rfl⟩
  have HDD : Aside0 (∀ W Z cz, Below w0.heap.size w0 W → Kd.C fk W Z (K + 1) (roots (secL N K)) → Calls Try.prog 93 #[.pointer (some ⟨g, 0, none⟩), parV N T K E Rm, .int .i64 2, .int .i64 cols, .slice A n c, .slice Z (K + 1) cz] W fun e w' => ∃ Y l cp, e = .returned (.tuple #[.slice Y l cp, .bool ok]) ∧ SV w' W.heap.size N Y l cp ok qs ∧ Fr (fun _ => False) W w') := ⟨fun W Z cz hW hZ => by
    have hbW : Below w.heap.size w W := hb0.trans (hW.mono hb0.size)
    rw [hqs, hok]
    exact dealt_any W g N T K E Rm 2 cols A Z n c (K + 1) cz rnd _ (hF.fr (Fr.of_below hbW (fun _ => False)) (fun h => h)) (Kd.C_below hr hbW) hZ hc hN hT hK hTK hcl (by omega)⟩
  rw [← hqs]
  obtain ⟨s, hs⟩ : ∃ s, s = w.heap.size := ⟨_, rfl⟩
  rw [← hs] at a0
  have HG : Aside0 (∀ W, Fr (fun j => s + 1 ≤ j) w0 W → W.cell? ⟨s, 0, none⟩ = some (.int .i64 N) ∧ W.cell? ⟨s, 1, none⟩ = some (.int .i64 T) ∧ W.cell? ⟨s, 2, none⟩ = some (.int .i64 K) ∧ W.cell? ⟨s, 3, none⟩ = some (.int .i64 E) ∧ W.cell? ⟨s, 4, none⟩ = some (.int .i64 Rm)) :=
    ⟨fun W hW => by
      have h1 := hW.blk a0 (by omega)
      exact ⟨cell_at h1 rfl, cell_at h1 rfl, cell_at h1 rfl, cell_at h1 rfl, cell_at h1 rfl⟩⟩
  have HF : Aside0 (Fld w0 g) := ⟨hF.fr (Fr.of_below hb0 (fun _ => False)) (fun h => h)⟩
  have HB0 := Aside0.mk hb0
  have HS := Aside0.mk hs
  have HW0 := Aside0.mk hw0
  clear hqs hok hF hr a0 hb0 hz0 hw0 hs
  have hu48 := Try.underlying48
  unfold parV at *
  go_enter Try.func58, Try.ntmps58
  go_wp2
  rw [← HW0.out, ← HS.out]
  have S1 := HG.out w0 (Fr.refl _ _)
  go_region_held3 (fun W => W.cell? ⟨s, 0, none⟩ = some (.int .i64 N) ∧ W.cell? ⟨s, 1, none⟩ = some (.int .i64 T) ∧ W.cell? ⟨s, 2, none⟩ = some (.int .i64 K) ∧ W.cell? ⟨s, 3, none⟩ = some (.int .i64 E) ∧ W.cell? ⟨s, 4, none⟩ = some (.int .i64 Rm))
    (first | exact S4 | exact S3 | exact S2 | exact HG.out _ ((Fr.refl _ w0).drew))
    (first
      | (go_at_call 47; with_reducible refine (HSE.out _).mono ?_; rintro e W2 ⟨X, d2, rfl, hX, hb2⟩; have HB2 := Aside0.mk (of_drew hb2); have HRO := Aside0.mk (Roots_any W2 g X K d2 (secL N K) (HF.out.fr (Fr.of_below HB2.out (fun _ => False)) (fun h => h)) (R_C hX) (by omega)); have S2 := HG.out W2 (Fr.of_below HB2.out _); clear hX hb2)
      | (go_at_call 83; with_reducible refine HRO.out.mono ?_; rintro e W3 ⟨Z, rfl, hZ, hf3⟩; have HB3 := Aside0.mk (HB2.out.trans (hf3.f_below.mono HB2.out.size)); have HD3 := Aside0.mk (HDD.out W3 Z (K + 1) HB3.out (by have h := RF_C hZ; rwa [roots_length, secL_length] at h)); have S3 := HG.out W3 (Fr.of_below HB3.out _); clear hZ hf3)
      | (go_at_call 93; with_reducible refine HD3.out.mono ?_; rintro e W4 ⟨Y, l, cp, rfl, hsv, hf4⟩; have HSV := Aside0.mk hsv; have HF4 := Aside0.mk hf4; have S4 := HG.out W4 ((Fr.of_below HB3.out _).trans' (hf4.mono (fun _ h => h.elim))); clear hsv hf4))
  go_wp2
  go_ret2
  have h3 := HB0.out.trans (HB3.out.mono HB0.out.size)
  exact ⟨Y, l, cp, rfl, SV_lower HSV.out h3.size, (Fr.of_below h3 _).trans' HF4.out⟩
set_option maxRecDepth 100000 in
set_option maxHeartbeats 1600000 in
theorem Blinds_in (w : World) (g N T K : Nat) (E Rm : Int) (target cols : Nat) (A : Option Addr) (n c : Nat) (rnd : List F) (hF : Fld w g) (hr : Kd.C fk w A n rnd) (hc : n ≤ c) (ht : target < N) (hN : N ≤ 1000) (hT : T ≤ 1000) (hK : K ≤ 1000) (hTK : 1 ≤ T + K) (hcl : cols ≤ 100000) (ok : Bool) (hok : ok = decide (n = eachN T K 3 * cols)) :
    Calls Try.prog 59 #[.pointer (some ⟨g, 0, none⟩), parV N T K E Rm, .int .i64 (target : Int), .int .i64 cols, .slice A n c] w fun e w' => ∃ Y l cp, e = .returned (.tuple #[.slice Y l cp, .bool ok]) ∧ SV w' w.heap.size N Y l cp ok (dealtL cols (eachN T K 3) (lin (ptF target)) rnd) ∧ Fr (fun _ => False) w w' := by
  obtain ⟨w0, hw0, hz0, a0, hb0⟩ := heap1 w (Obj.cells #[.int .i64 N, .int .i64 T, .int .i64 K, .int .i64 E, .int .i64 Rm] 48)
  have HP := Aside0.mk (fun W => Point_any W target)
  obtain ⟨qs, hqs⟩ : ∃ qs, qs = dealtL cols (eachN T K 3) (lin (ptF target)) rnd := ⟨_, rfl⟩
  obtain ⟨x, hx⟩ : ∃ x, x = ptF target := ⟨_, rfl⟩
  rw [← hx] at HP hqs
  have HDD : Aside0 (∀ W, Below w0.heap.size w0 W → Calls Try.prog 93 #[.pointer (some ⟨g, 0, none⟩), parV N T K E Rm, .int .i64 3, .int .i64 cols, .slice A n c, .slice (some ⟨W.heap.size, 0, none⟩) 2 2] (W.alloc (.cells #[.int .u8 x.v, .int .u8 1] 5)) fun e w' => ∃ Y l cp, e = .returned (.tuple #[.slice Y l cp, .bool ok]) ∧ SV w' (W.alloc (.cells #[.int .u8 x.v, .int .u8 1] 5)).heap.size N Y l cp ok qs ∧ Fr (fun _ => False) (W.alloc (.cells #[.int .u8 x.v, .int .u8 1] 5)) w') := ⟨fun W hW => by
    have hbW : Below w.heap.size w W := hb0.trans (hW.mono hb0.size)
    have hbl : Below W.heap.size W (W.alloc (.cells #[.int .u8 x.v, .int .u8 1] 5)) := below_alloc (Below.refl _ _) _
    have hbw2 := hbW.trans (hbl.mono hbW.size)
    have hlit : Kd.C fk (W.alloc (.cells #[.int .u8 x.v, .int .u8 1] 5)) (some ⟨W.heap.size, 0, none⟩) 2 (lin x) := R_C (R_litF W W.heap.size (fun _ => True) (lin x) (by simp [lin]) (Nat.le_refl _) trivial)
    rw [hqs, hok]
    exact dealt_any _ g N T K E Rm 3 cols A _ n c 2 2 rnd _ (hF.fr (Fr.of_below hbw2 (fun _ => False)) (fun h => h)) (Kd.C_below hr hbw2) hlit hc hN hT hK hTK hcl (by omega)⟩
  rw [hx] at hqs
  rw [← hqs]
  obtain ⟨s, hs⟩ : ∃ s, s = w.heap.size := ⟨_, rfl⟩
  rw [← hs] at a0
  have HG : Aside0 (∀ W, Fr (fun j => s + 1 ≤ j) w0 W → W.cell? ⟨s, 0, none⟩ = some (.int .i64 N) ∧ W.cell? ⟨s, 1, none⟩ = some (.int .i64 T) ∧ W.cell? ⟨s, 2, none⟩ = some (.int .i64 K) ∧ W.cell? ⟨s, 3, none⟩ = some (.int .i64 E) ∧ W.cell? ⟨s, 4, none⟩ = some (.int .i64 Rm)) :=
    ⟨fun W hW => by
      have h1 := hW.blk a0 (by omega)
      exact ⟨cell_at h1 rfl, cell_at h1 rfl, cell_at h1 rfl, cell_at h1 rfl, cell_at h1 rfl⟩⟩
  have HB0 := Aside0.mk hb0
  have HS := Aside0.mk hs
  have HW0 := Aside0.mk hw0
  have hI0 : (0 : Int) ≤ (target : Int) := by omega
  have hIN : (target : Int) < (N : Int) := by omega
  clear hqs hok hF hr a0 hb0 hz0 hw0 hs hx
  have hu48 := Try.underlying48
  unfold parV at *
  go_enter Try.func59, Try.ntmps59
  go_wp2
  rw [← HW0.out, ← HS.out]
  have S1 := HG.out w0 (Fr.refl _ _)
  go_region_held3 (fun W => W.cell? ⟨s, 0, none⟩ = some (.int .i64 N) ∧ W.cell? ⟨s, 1, none⟩ = some (.int .i64 T) ∧ W.cell? ⟨s, 2, none⟩ = some (.int .i64 K) ∧ W.cell? ⟨s, 3, none⟩ = some (.int .i64 E) ∧ W.cell? ⟨s, 4, none⟩ = some (.int .i64 Rm))
    (first | exact S4 | exact S3 | exact S2 | exact HG.out _ ((Fr.refl _ w0).drew))
    (first
      | (go_at_call 81; with_reducible refine (HP.out _).mono ?_; rintro e W2 ⟨rfl, hd2⟩; have HF2 := Aside0.mk ((Fr.refl (fun _ => False) w0).drew.trans' (Fr.of_drawn0 hd2)); have HD3 := Aside0.mk (HDD.out W2 HF2.out.f_below); have S2 := HG.out W2 (HF2.out.mono (fun _ h => h.elim)); have S3 := HG.out (W2.alloc (.cells #[.int .u8 x.v, .int .u8 1] 5)) ((HF2.out.mono (fun _ h => h.elim)).alloc _); clear hd2)
      | (go_at_call 93; with_reducible refine HD3.out.mono ?_; rintro e W4 ⟨Y, l, cp, rfl, hsv, hf4⟩; have HSV := Aside0.mk hsv; have HF4 := Aside0.mk hf4; have S4 := HG.out W4 ((((HF2.out.mono (fun _ h => h.elim)).alloc _)).trans' (hf4.mono (fun _ h => h.elim))); clear hsv hf4))
  go_wp2
  go_ret2
  have h3 := ((Fr.of_below HB0.out (fun _ => False)).trans' HF2.out).alloc (.cells #[.int .u8 x.v, .int .u8 1] 5)
  exact ⟨Y, l, cp, rfl, SV_lower HSV.out h3.size, h3.trans' HF4.out⟩
end Go.Proofs.Ytpeiejkcoadhfaa
namespace Go.Proofs.Ytpeiejkcoadhfaa
def rowsE (N cols : Nat) (q : Ev) : List (List F) := (List.range N).map (rowE cols q)
theorem rowsE_length (N cols : Nat) (q : Ev) : (rowsE N cols q).length = N := by simp [rowsE]
theorem rowE_length (cols : Nat) (q : Ev) (h : Nat) : (rowE cols q h).length = cols := by simp [rowE]
theorem rowsE_get (N cols : Nat) (q : Ev) (h : Nat) (hh : h < N) : (rowsE N cols q).getD h [] = rowE cols q h := getD_range _ _ _ _ hh
theorem rowE_cf (cols : Nat) (q : Ev) (h c : Nat) (hc : c < cols) : cf (rowE cols q h) c = q c h := getD_range _ _ _ _ hc
def evOf (qs : List (List F)) : Ev := fun c h => ev (qs.getD c []) (ptF h)
theorem shares_rows (N : Nat) (qs : List (List F)) : sharesL N qs = rowsE N qs.length (evOf qs) := by
  unfold sharesL rowsE
  refine List.map_congr_left (fun h _ => ?_)
  apply List.ext_getElem
  · simp [rowE]
  · intro i h1 h2
    have hi : i < qs.length := by simpa using h1
    simp [rowE, evOf, List.getD_eq_getElem?_getD, List.getElem?_eq_getElem hi]
theorem rowsE_congr {N cols : Nat} {q q' : Ev} (h : ∀ c i, c < cols → q c i = q' c i) : rowsE N cols q = rowsE N cols q' := by
  unfold rowsE
  exact List.map_congr_left (fun i _ => rowE_congr (fun c hc => h c i hc))
theorem dealt_rows (N cols n : Nat) (fac rnd : List F) : sharesL N (dealtL cols n fac rnd) = rowsE N cols (dealtE (ev fac) n ptF rnd) := by
  rw [shares_rows, dealtL_length]
  refine rowsE_congr (fun c h hc => ?_)
  unfold evOf dealtL dealtE
  rw [getD_range _ _ _ _ hc, ev_trim, ev_mul, F.mul_comm]
  rfl
noncomputable def colV (N K : Nat) (data : List F) (c : Nat) (x : F) : F := ev (thruP (secL N K) (colF data K c)) x
noncomputable def shareE (N T K : Nat) (data rnd : List F) : Ev := fun c h => colV N K data c (ptF h) + ev (chunk rnd T c) (ptF h) * ev (roots (secL N K)) (ptF h)
theorem share_rows (N T K : Nat) (data rnd : List F) : sharesL N (polysL N T K data rnd) = rowsE N (ncol data.length K) (shareE N T K data rnd) := by
  rw [shares_rows, polysL_length]
  refine rowsE_congr (fun c h hc => ?_)
  unfold evOf polysL shareE colV
  rw [getD_range _ _ _ _ hc, ev_trim, ev_add, ev_trim, ev_mul, F.mul_comm (ev (roots _) _)]
  rfl
theorem sumE_snoc (q : Ev) (ds : List Ev) (d : Ev) (c h : Nat) : sumE q (ds ++ [d]) c h = sumE q ds c h + d c h := by simp [sumE, List.foldl_append]
theorem xor_rowE (cols : Nat) (q d : Ev) (h : Nat) : xorL (rowE cols q h) (rowE cols d h) = rowE cols (fun c i => q c i + d c i) h := by
  unfold xorL
  rw [rowE_length]
  unfold rowE
  refine List.map_congr_left (fun c hc => ?_)
  rw [List.mem_range] at hc
  show cf (rowE cols q h) c + cf (rowE cols d h) c = _
  rw [rowE_cf _ _ _ _ hc, rowE_cf _ _ _ _ hc]
def rowsUp (N cols : Nat) (q : Ev) (ds : List Ev) (d : Ev) (h : Nat) : List (List F) := (List.range N).map fun i => rowE cols (if i < h then sumE q (ds ++ [d]) else sumE q ds) i
theorem rowsUp_start (N cols : Nat) (q : Ev) (ds : List Ev) (d : Ev) : rowsUp N cols q ds d 0 = rowsE N cols (sumE q ds) := by
  unfold rowsUp rowsE
  refine List.map_congr_left (fun i _ => ?_)
  rw [if_neg (by omega)]
theorem rowsUp_end (N cols : Nat) (q : Ev) (ds : List Ev) (d : Ev) : rowsUp N cols q ds d N = rowsE N cols (sumE q (ds ++ [d])) := by
  unfold rowsUp rowsE
  refine List.map_congr_left (fun i hi => ?_)
  rw [if_pos (List.mem_range.1 hi)]
theorem rowsUp_get (N cols : Nat) (q : Ev) (ds : List Ev) (d : Ev) (h : Nat) (hh : h < N) : (rowsUp N cols q ds d h).getD h [] = rowE cols (sumE q ds) h := by
  unfold rowsUp
  rw [getD_range _ _ _ _ hh, if_neg (by omega)]
theorem rowsUp_step (N cols : Nat) (q : Ev) (ds : List Ev) (d : Ev) (h : Nat) (hh : h < N) : (rowsUp N cols q ds d h).set h (xorL (rowE cols (sumE q ds) h) (rowE cols d h)) = rowsUp N cols q ds d (h + 1) := by
  rw [xor_rowE]
  apply List.ext_getElem
  · simp [rowsUp]
  · intro i h1 h2
    have hi : i < N := by simpa [rowsUp] using h2
    rw [List.getElem_set]
    simp only [rowsUp, List.getElem_map, List.getElem_range]
    by_cases e : h = i
    · subst e
      rw [if_pos rfl, if_pos (by omega)]
      exact rowE_congr (fun c _ => (sumE_snoc q ds d c h).symm)
    · rw [if_neg e]
      by_cases h3 : i < h
      · rw [if_pos h3, if_pos (by omega)]
      · rw [if_neg h3, if_neg (by omega)]
def toRd (r : Ri) : Rnd := ⟨r.kind, r.ds.map Int.toNat, r.target.toNat, r.sn.map Int.toNat⟩
def facR (N K : Nat) (r : Rnd) : F → F := ev (factorL N K r.kind (ptF r.target))
def eachR (T K : Nat) (r : Rnd) : Nat := eachN T K r.kind
def dealR (N T K : Nat) (r : Rnd) (t : List F) : Ev := dealtE (facR N K r) (eachR T K r) ptF t
noncomputable def lookF (N T K : Nat) (data : List F) (rs : List Ri) (ts : List (List F)) : List F :=
  lookE N (ncol data.length K) (facR N K) (eachR T K) ptF (rs.map toRd) (shareE N T K data (ts.getD 0 [])) (ts.drop 1)
def RightP (N T K E Rm size : Int) (rs : List Ri) (ls : List Nat) : Prop := MayP N T K E Rm size rs ∧ (ls.map fun l : Nat => (l : Int)) = tapesL T.toNat K.toNat (ncol size.toNat K.toNat) rs
instance (N T K E Rm size : Int) (rs : List Ri) (ls : List Nat) : Decidable (RightP N T K E Rm size rs ls) := by unfold RightP; infer_instance
end Go.Proofs.Ytpeiejkcoadhfaa
namespace Go.Proofs.Ytpeiejkcoadhfaa
def IsQuo (p d q : List F) : Prop := ∃ r, (∀ i, cf p i = cf (mulP q d) i + cf r i) ∧ (trimP r).length < (trimP d).length
open Classical in
noncomputable def quoP (p d : List F) : List F := if h : ∃ q, IsQuo p d q then Classical.choose h else []
theorem top_of {d : List F} {low : Nat} (h : (trimP d).length = low + 1) : cf d low ≠ 0 ∧ ∀ i, low < i → cf d i = 0 := by
  refine ⟨?_, fun j hj => by rw [← cf_trim d]; exact cf_ge _ _ (by omega)⟩
  have := trim_last d (by intro e; rw [e] at h; simp at h)
  rw [cf_trim, h] at this
  exact this
theorem quo_unique {p d q q' : List F} (h : IsQuo p d q) (h' : IsQuo p d q') (i : Nat) : cf q i = cf q' i := by
  obtain ⟨r, h1, h2⟩ := h
  obtain ⟨r', h1', h2'⟩ := h'
  obtain ⟨low, hlow⟩ : ∃ low, (trimP d).length = low + 1 := ⟨(trimP d).length - 1, by omega⟩
  obtain ⟨t1, t2⟩ := top_of hlow
  have h3 := quo_deg (p := addP r r') (d := d) (q := addP q q') (low := low) (T := 0) t1 t2 (fun j => by
    rw [mul_add_left q q' d j, cf_add, cf_add]
    have e1 := h1 j
    have e2 := h1' j
    rw [e1] at e2
    have e3 : cf (mulP q d) j + cf r j + (cf (mulP q d) j + cf r' j) = cf (mulP q' d) j + cf r' j + (cf (mulP q d) j + cf r' j) := by rw [e2]
    rw [F.add4, F.add_self, F.zero_add, F.add4, F.add_self, F.add_zero, F.add_comm (cf (mulP q' d) j)] at e3
    exact e3) (fun j hj => by
    rw [cf_add, ← cf_trim r, ← cf_trim r', cf_ge _ _ (by omega), cf_ge _ _ (by omega), F.add_zero]) i (by omega)
  rw [cf_add] at h3
  have e : cf q i + cf q' i + cf q' i = 0 + cf q' i := by rw [h3]
  rw [F.add_assoc, F.add_self, F.add_zero, F.zero_add] at e
  exact e
theorem quoP_is {p d q : List F} (h : IsQuo p d q) : IsQuo p d (quoP p d) := by
  have h1 : ∃ q, IsQuo p d q := ⟨q, h⟩
  unfold quoP
  rw [dif_pos h1]
  exact Classical.choose_spec h1
theorem quoP_eq {p d q : List F} (h : IsQuo p d q) (i : Nat) : cf (quoP p d) i = cf q i := quo_unique (quoP_is h) h i
theorem quoP_trim {p d q : List F} (h : IsQuo p d q) : trimP (quoP p d) = trimP q := trim_eqv _ _ (quoP_eq h)
theorem div_go {p d : List F} {low : Nat} (hd : (trimP d).length = low + 1) : ∀ (m : Nat) (q r : List F), DivSt p d q r low → (trimP r).length ≤ m → ∃ q, IsQuo p d q
  | 0, q, r, h, hm => ⟨q, r, h.2.2.1, by omega⟩
  | m + 1, q, r, h, hm => by
    rcases Nat.lt_or_ge low (trimP r).length with h1 | h1
    · obtain ⟨t, ht⟩ : ∃ t, (trimP r).length = t + 1 := ⟨(trimP r).length - 1, by omega⟩
      have hpr : r.length = p.length := h.2.1
      obtain ⟨h2, h3⟩ := div_step (r' := (List.range p.length).map fun i => cf r i + (if t - low ≤ i ∧ i < t - low + (low + 1) then cf r t * (cf d low).inv * cf d (i - (t - low)) else 0)) h ht (by omega) hd _ rfl ⟨by simp, fun i => by
        rcases Nat.lt_or_ge i p.length with hi | hi
        · exact getD_range _ _ _ _ hi
        · have hle := trim_length r
          rw [cf_ge _ _ (by simp; omega), cf_ge r i (by omega), if_neg (by omega), F.add_zero]⟩
      exact div_go hd m _ _ h2 (by omega)
    · exact ⟨q, r, h.2.2.1, by omega⟩
theorem quoP_ok (p : List F) {d : List F} (hd : 0 < (trimP d).length) : IsQuo p d (quoP p d) := by
  obtain ⟨low, hlow⟩ : ∃ low, (trimP d).length = low + 1 := ⟨(trimP d).length - 1, by omega⟩
  obtain ⟨q, h⟩ := div_go hlow _ _ _ (div_start p d low) (Nat.le_refl _)
  exact quoP_is h
theorem addT_congr {t : List F} {n cols : Nat} {us us' : Nat → List F} (hl : t.length = n * cols) (h : ∀ c, c < cols → ∀ i, i < n → cf (us c) i = cf (us' c) i) : addT t n us = addT t n us' := by
  unfold addT
  refine List.map_congr_left (fun k hk => ?_)
  rw [List.mem_range, hl] at hk
  have hn : 0 < n := by
    rcases Nat.eq_zero_or_pos n with e | e
    · rw [e] at hk; omega
    · exact e
  rw [h (k / n) ((Nat.div_lt_iff_lt_mul hn).2 (by rw [Nat.mul_comm]; exact hk)) (k % n) (Nat.mod_lt _ hn)]
def hidA (N : Nat) (cur : List Int) : List Nat := (List.range N).filter fun h : Nat => decide ((h : Int) ∈ cur)
def hidB (N : Nat) (cur : List Int) : List Nat := (List.range N).filter fun h : Nat => decide ((h : Int) ∉ cur)
def hidL (N T : Nat) (cur : List Int) : List Nat := hidA N cur ++ (hidB N cur).take (T - (hidA N cur).length)
theorem hid_mem {N T : Nat} {cur : List Int} {h : Nat} (h1 : (h : Int) ∈ cur) (h2 : h < N) : h ∈ hidL N T cur :=
  List.mem_append_left _ (List.mem_filter.2 ⟨List.mem_range.2 h2, decide_eq_true h1⟩)
theorem hid_lt {N T : Nat} {cur : List Int} : ∀ h ∈ hidL N T cur, h < N := fun h hh => by
  rcases List.mem_append.1 hh with e | e
  · exact List.mem_range.1 (List.mem_filter.1 e).1
  · exact List.mem_range.1 (List.mem_filter.1 (List.mem_of_mem_take e)).1
theorem hid_nodup {N T : Nat} {cur : List Int} : (hidL N T cur).Nodup := by
  unfold hidL
  rw [List.nodup_append]
  refine ⟨List.Pairwise.filter _ List.nodup_range, List.Pairwise.sublist (List.take_sublist _ _) (List.Pairwise.filter _ List.nodup_range), fun a ha b hb e => ?_⟩
  have h1 := of_decide_eq_true (List.mem_filter.1 ha).2
  have h2 := of_decide_eq_true (List.mem_filter.1 (List.mem_of_mem_take hb)).2
  rw [e] at h1
  exact h2 h1
theorem hid_len {N T : Nat} {cur : List Int} (h : (hidA N cur).length ≤ T) : (hidL N T cur).length ≤ T := by
  unfold hidL
  rw [List.length_append, List.length_take]
  omega
theorem unl_secpts {N K : Nat} (hNK : N + K ≤ 255) {hs : List Nat} (hn : hs.Nodup) (hl : ∀ h ∈ hs, h < N) : Unl (secL N K ++ hs.map ptF) := by
  unfold Unl
  rw [List.nodup_append]
  refine ⟨secL_unl N K hNK, ?_, fun a ha b hb e => ?_⟩
  · unfold List.Nodup
    rw [List.pairwise_map]
    refine List.Pairwise.imp_of_mem ?_ hn
    intro a b ha hb hab e
    have h1 := hl a ha
    have h2 := hl b hb
    rcases Nat.lt_or_ge a 255 with h3 | h3
    · rcases Nat.lt_or_ge b 255 with h4 | h4
      · exact hab (ptF_inj h3 h4 e)
      · omega
    · omega
  · unfold secL at ha
    obtain ⟨i, hi, rfl⟩ := List.mem_map.1 ha
    obtain ⟨j, hj, rfl⟩ := List.mem_map.1 hb
    have h1 := List.mem_range.1 hi
    have h2 := hl j hj
    rcases Nat.eq_zero_or_pos K with h0 | h0
    · omega
    · have := ptF_inj (by omega) (by omega) e
      omega
noncomputable def diffP (N K : Nat) (d : List F) (hs : List Nat) : List F := thruP (secL N K ++ hs.map ptF) (d ++ List.replicate hs.length 0)
def colD (K : Nat) (a b : List F) (c : Nat) : List F := xorL (colF a K c) (colF b K c)
theorem colD_length (K : Nat) (a b : List F) (c : Nat) : (colD K a b c).length = K := by rw [colD, xorL_length, colF_length]
theorem colD_comm (K : Nat) (a b : List F) (c : Nat) : colD K a b c = colD K b a c := by
  unfold colD xorL
  rw [colF_length, colF_length]
  exact List.map_congr_left (fun i _ => F.add_comm _ _)
theorem thru_ex {xs ys : List F} (hu : Unl xs) : ∃ s, Thru xs ys s := by
  have : ∀ n, n ≤ xs.length → ∃ s, ThruTo xs ys s n := by
    intro n
    induction n with
    | zero => exact fun _ => ⟨[], thru_start xs ys⟩
    | succ n ih =>
      intro hn
      obtain ⟨s, hs⟩ := ih (by omega)
      exact ⟨_, thru_step hs (by omega) (basis_others hu (by omega)) (Eqv.refl _)⟩
  obtain ⟨s, hs⟩ := this xs.length (Nat.le_refl _)
  exact ⟨s, thru_end hs rfl⟩
theorem thruP_ok {xs ys : List F} (hu : Unl xs) : Thru xs ys (thruP xs ys) := by
  obtain ⟨s, hs⟩ := thru_ex (ys := ys) hu
  rw [thruP_eq hu hs]
  exact hs
theorem diff_spec {N K : Nat} (hNK : N + K ≤ 255) {d : List F} (hd : d.length = K) {hs : List Nat} (hn : hs.Nodup) (hl : ∀ h ∈ hs, h < N) :
    (∀ h ∈ hs, ev (diffP N K d hs) (ptF h) = 0) ∧ (∀ i, i < K → ev (diffP N K d hs) ((secL N K).getD i 0) = d.getD i 0) ∧ ∀ i, K + hs.length ≤ i → cf (diffP N K d hs) i = 0 := by
  have hs1 := secL_length N K
  obtain ⟨h1, h2, h3⟩ := differ_at (thruP_ok (ys := d ++ List.replicate hs.length 0) (unl_secpts hNK hn hl)) (by omega) (by simp)
  rw [hs1] at h1
  rw [hs1, List.length_map] at h3
  exact ⟨fun h hh => h2 _ (List.mem_map.2 ⟨h, hh, rfl⟩), h1, h3⟩
section
variable (N T K : Nat) (a b : List F) (rs0 : List Ri)
noncomputable def byP (e c : Nat) : List F := diffP N K (colD K a b c) (hidL N T ((epochs rs0).getD e []))
noncomputable def usP (e : Nat) (r : Rnd) : Option (Nat → List F) :=
  if r.kind = 2 then some fun c => quoP (trimP (addP (byP N T K a b rs0 e c) (byP N T K a b rs0 (e + 1) c))) (roots (secL N K))
  else if r.kind = 3 then (if r.target ∈ r.seen then some fun c => quoP (byP N T K a b rs0 e c) (lin (ptF r.target)) else none)
  else if r.kind = 4 then some fun c => quoP (byP N T K a b rs0 e c) [1] else none
noncomputable def us0 (c : Nat) : List F := quoP (trimP (addP (byP N T K a b rs0 0 c) (diffP N K (colD K a b c) []))) (roots (secL N K))
noncomputable def turnF (ts : List (List F)) : List (List F) := addT (ts.getD 0 []) T (us0 N T K a b rs0) :: turnE (eachR T K) (usP N T K a b rs0) (rs0.map toRd) 0 (ts.drop 1)
noncomputable def delP (e : Nat) : Ev := fun c h => ev (byP N T K a b rs0 e c) (ptF h)
end
def LenOk (T K cols : Nat) : List Ri → List (List F) → Prop
  | [], ts => ts = []
  | r :: rs, ts => r.ds.length ≤ ts.length ∧ (∀ t ∈ ts.take r.ds.length, t.length = eachN T K r.kind * cols) ∧ LenOk T K cols rs (ts.drop r.ds.length)
theorem trim_roots_le (xs : List F) : (trimP (roots xs)).length ≤ xs.length + 1 := trim_le (fun i hi => (roots_top xs).2 i (by omega))
theorem trim_pos {d : List F} {i : Nat} (h : cf d i ≠ 0) : 0 < (trimP d).length := by
  rcases Nat.eq_zero_or_pos (trimP d).length with e | e
  · exfalso
    apply h
    rw [← cf_trim d i]
    exact cf_ge _ _ (by omega)
  · exact e
section
variable {N T K : Nat} {a b : List F} {rs0 : List Ri}
theorem by_spec (hNK : N + K ≤ 255) (e c : Nat) (hcur : (hidA N ((epochs rs0).getD e [])).length ≤ T) :
    (∀ h, h < N → (h : Int) ∈ (epochs rs0).getD e [] → ev (byP N T K a b rs0 e c) (ptF h) = 0) ∧ (∀ i, i < K → ev (byP N T K a b rs0 e c) ((secL N K).getD i 0) = (colD K a b c).getD i 0) ∧ ∀ i, K + T ≤ i → cf (byP N T K a b rs0 e c) i = 0 := by
  obtain ⟨h1, h2, h3⟩ := diff_spec hNK (colD_length K a b c) (hid_nodup (N := N) (T := T) (cur := (epochs rs0).getD e [])) hid_lt
  have hl := hid_len (N := N) hcur
  exact ⟨fun h hh hm => h1 h (hid_mem hm hh), h2, fun i hi => h3 i (by omega)⟩
theorem two_div {p q : List F} {K' : Nat} (hNK : N + K ≤ 255) (hp : ∀ i, i < K → ev p ((secL N K).getD i 0) = ev q ((secL N K).getD i 0)) (d1 : ∀ i, K + K' ≤ i → cf p i = 0) (d2 : ∀ i, K + K' ≤ i → cf q i = 0) :
    (∀ x, ev (quoP (trimP (addP p q)) (roots (secL N K))) x * ev (roots (secL N K)) x = ev p x + ev q x) ∧ ∀ i, K' ≤ i → cf (quoP (trimP (addP p q)) (roots (secL N K))) i = 0 := by
  have hs1 := secL_length N K
  have hpos : 0 < (trimP (roots (secL N K))).length := trim_pos (by rw [(roots_top (secL N K)).1]; exact F.one_ne)
  obtain ⟨r, h1, h2⟩ := quoP_ok (trimP (addP p q)) hpos
  have h3 := trim_roots_le (secL N K)
  obtain ⟨h4, h5⟩ := roots_div (T := K') (secL_unl N K hNK) (fun x hx => by
    obtain ⟨i, hi, rfl⟩ := mem_getD hx
    rw [hs1] at hi
    rw [ev_trim, ev_add, hp i hi, F.add_self]) h1 (by omega) (fun i hi => by rw [cf_trim, cf_add, d1 i (by omega), d2 i (by omega), F.add_zero])
  exact ⟨fun x => by rw [← h4 x, ev_trim, ev_add], h5⟩
theorem unseen_dealer {r : Ri} {ce : List Int} (hr : roundOk N T r) (hk : r.kind ≠ 0) (hce : (hidA N ce).length ≤ T) (hsub : ∀ x ∈ r.sn, x ∈ ce) : ∃ x ∈ (toRd r).dealers, x ∉ (toRd r).seen := by
  obtain ⟨_, h2, _, _, h5, h6, _⟩ := hr
  rw [if_neg hk] at h2
  have nodupN : ∀ l : List Int, Ris N l → (l.map Int.toNat).Nodup := fun l hl => by
    unfold List.Nodup
    rw [List.pairwise_map]
    refine List.Pairwise.imp_of_mem ?_ (ris_nodup hl)
    intro x y hx hy hxy e
    have := (ris_mem hl hx).1
    have := (ris_mem hl hy).1
    exact hxy (by omega)
  refine unseen _ _ (nodupN _ h5) ?_
  have h7 : ((toRd r).seen).length ≤ (hidA N ce).length := sub_len (nodupN _ h6) (fun x hx => by
    obtain ⟨y, hy, rfl⟩ := List.mem_map.1 hx
    obtain ⟨h8, h9⟩ := ris_mem h6 hy
    refine List.mem_filter.2 ⟨List.mem_range.2 (by omega), decide_eq_true ?_⟩
    rw [Int.toNat_of_nonneg h8]
    exact hsub y hy)
  show _ < (r.ds.map Int.toNat).length
  rw [List.length_map]
  omega
theorem from_head : ∀ (rs : List Ri) (cur : List Int), ∃ c0 tl, epFrom rs cur = c0 :: tl ∧ ∀ x ∈ cur, x ∈ c0
  | [], cur => ⟨cur, [], rfl, fun _ h => h⟩
  | r :: rs, cur => by
    unfold epFrom
    by_cases hk : r.kind = 2
    · rw [if_pos hk]
      exact ⟨_, _, rfl, fun x hx => List.mem_append_left _ hx⟩
    · rw [if_neg hk]
      obtain ⟨c0, tl, h1, h2⟩ := from_head rs (cur ++ r.sn)
      exact ⟨c0, tl, h1, fun x hx => h2 x (List.mem_append_left _ hx)⟩
theorem turn_ok (hT : 1 ≤ T) (hK : 1 ≤ K) (hNK : N + K ≤ 255) {cols : Nat} (hE : ∀ c ∈ epochs rs0, (hidA N c).length ≤ T) : ∀ (rs : List Ri) (old : List (List Int)) (cur : List Int) (ts : List (List F)), epochs rs0 = old ++ epFrom rs cur → (∀ r ∈ rs, roundOk N T r) → LenOk T K cols rs ts →
    TurnOk cols (facR N K) (eachR T K) ptF (delP N T K a b rs0) (usP N T K a b rs0) (rs.map toRd) old.length ts
  | [], old, cur, ts, _, _, _ => trivial
  | r :: rs, old, cur, ts, he, hr, hl => by
    obtain ⟨l1, l2, l3⟩ := hl
    have hr1 := hr r (List.mem_cons_self ..)
    have hsn : ∀ x ∈ r.sn, 0 ≤ x ∧ x < (N : Int) := fun x hx => ris_mem hr1.2.2.2.2.2.1 hx
    have hdl : (toRd r).dealers.length = r.ds.length := by show (r.ds.map Int.toNat).length = _; rw [List.length_map]
    -- this epoch, and the next one
    obtain ⟨ce, hce, hcm, hcs⟩ : ∃ ce, (epochs rs0).getD old.length [] = ce ∧ ce ∈ epochs rs0 ∧ ∀ x ∈ r.sn, x ∈ ce := by
      rw [he]
      unfold epFrom
      by_cases hk : r.kind = 2
      · rw [if_pos hk, getD_mid]
        exact ⟨_, rfl, List.mem_append_right _ (List.mem_cons_self ..), fun x hx => List.mem_append_right _ hx⟩
      · rw [if_neg hk]
        obtain ⟨c0, tl, h1, h2⟩ := from_head rs (cur ++ r.sn)
        rw [h1, getD_mid]
        exact ⟨_, rfl, List.mem_append_right _ (List.mem_cons_self ..), fun x hx => h2 x (List.mem_append_right _ hx)⟩
    have hnx : r.kind = 2 → ∃ cn, (epochs rs0).getD (old.length + 1) [] = cn ∧ cn ∈ epochs rs0 ∧ ∀ x ∈ r.sn, x ∈ cn := fun hk => by
      rw [he]
      unfold epFrom
      rw [if_pos hk]
      obtain ⟨c0, tl, h1, h2⟩ := from_head rs r.sn
      rw [h1]
      have e1 : old ++ (cur ++ r.sn) :: c0 :: tl = (old ++ [cur ++ r.sn]) ++ c0 :: tl := by rw [List.append_assoc]; rfl
      have e2 : old.length + 1 = (old ++ [cur ++ r.sn]).length := by rw [List.length_append]; rfl
      rw [e1, e2, getD_mid]
      exact ⟨_, rfl, List.mem_append_right _ (List.mem_cons_self ..), h2⟩
    have zero_at : ∀ e ce, (epochs rs0).getD e [] = ce → ce ∈ epochs rs0 → (∀ x ∈ r.sn, x ∈ ce) → ∀ h ∈ (toRd r).seen, ∀ c, c < cols → delP N T K a b rs0 e c h = 0 := fun e ce h1 h2 h3 h hh c hc => by
      obtain ⟨x, hx, rfl⟩ := List.mem_map.1 hh
      obtain ⟨h4, h5⟩ := hsn x hx
      have h6 := (by_spec (a := a) (b := b) (rs0 := rs0) (T := T) hNK e c (by rw [h1]; exact hE ce h2)).1 x.toNat (by omega) (by rw [h1, Int.toNat_of_nonneg h4]; exact h3 x hx)
      exact h6
    have hb := fun c => by_spec (a := a) (b := b) (rs0 := rs0) (T := T) hNK old.length c (by rw [hce]; exact hE ce hcm)
    refine ⟨by rw [hdl]; exact l1, by rw [hdl]; exact l2, zero_at _ ce hce hcm hcs, fun hk => ?_, ?_, ?_⟩
    · obtain ⟨cn, h1, h2, h3⟩ := hnx hk
      exact zero_at _ cn h1 h2 h3
    · have hkk : (toRd r).kind = r.kind := rfl
      unfold usP
      rw [hkk]
      by_cases k2 : r.kind = 2
      · rw [if_pos k2]
        obtain ⟨cn, n1, n2, n3⟩ := hnx k2
        have hb' := fun c => by_spec (a := a) (b := b) (rs0 := rs0) (T := T) hNK (old.length + 1) c (by rw [n1]; exact hE cn n2)
        have hq := fun c => two_div (K' := T) hNK (p := byP N T K a b rs0 old.length c) (q := byP N T K a b rs0 (old.length + 1) c) (fun i hi => by rw [(hb c).2.1 i hi, (hb' c).2.1 i hi]) (hb c).2.2 (hb' c).2.2
        refine ⟨.inl k2, unseen_dealer hr1 (by omega) (hE ce hcm) hcs, fun c _ i hi => (hq c).2 i ?_, fun c h _ => ?_⟩
        · have : eachR T K (toRd r) = T := by unfold eachR eachN; rw [hkk, k2]; simp
          omega
        · rw [if_pos k2]
          have : facR N K (toRd r) (ptF h) = ev (roots (secL N K)) (ptF h) := by unfold facR factorL; rw [hkk, if_pos k2]
          rw [this]
          exact (hq c).1 (ptF h)
      · rw [if_neg k2]
        by_cases k3 : r.kind = 3
        · rw [if_pos k3]
          by_cases hs : (toRd r).target ∈ (toRd r).seen
          · rw [if_pos hs]
            have hz : ∀ c, ev (byP N T K a b rs0 old.length c) (ptF (toRd r).target) = 0 := fun c => by
              obtain ⟨x, hx, hx2⟩ := List.mem_map.1 hs
              obtain ⟨h4, h5⟩ := hsn x hx
              rw [← hx2]
              exact (hb c).1 x.toNat (by omega) (by rw [hce, Int.toNat_of_nonneg h4]; exact hcs x hx)
            have hq : ∀ c, (∀ x, ev (byP N T K a b rs0 old.length c) x = ev (quoP (byP N T K a b rs0 old.length c) (lin (ptF (toRd r).target))) x * ev (lin (ptF (toRd r).target)) x) ∧ ∀ i, T + K - 1 ≤ i → cf (quoP (byP N T K a b rs0 old.length c) (lin (ptF (toRd r).target))) i = 0 := fun c => by
              have hpos : 0 < (trimP (lin (ptF (toRd r).target))).length := trim_pos (i := 1) F.one_ne
              obtain ⟨q, h1, h2⟩ := quoP_ok (byP N T K a b rs0 old.length c) hpos
              have h3 := trim_length (lin (ptF (toRd r).target))
              have h4 : (lin (ptF (toRd r).target)).length = 2 := rfl
              exact lin_div (T := T + K - 1) (hz c) h1 (by omega) (fun i hi => (hb c).2.2 i (by omega))
            refine ⟨.inr (.inl k3), unseen_dealer hr1 (by omega) (hE ce hcm) hcs, fun c _ i hi => (hq c).2 i ?_, fun c h _ => ?_⟩
            · have : eachR T K (toRd r) = T + K - 1 := by unfold eachR eachN; rw [hkk, k3]; simp
              omega
            · rw [if_neg k2]
              have : facR N K (toRd r) (ptF h) = ev (lin (ptF (toRd r).target)) (ptF h) := by unfold facR factorL; rw [hkk, if_neg k2, if_pos k3]
              rw [this]
              exact ((hq c).1 (ptF h)).symm
          · rw [if_neg hs]
            exact .inr ⟨k3, hs⟩
        · rw [if_neg k3]
          by_cases k4 : r.kind = 4
          · rw [if_pos k4]
            have hq : ∀ c, (∀ x, ev (byP N T K a b rs0 old.length c) x = ev (quoP (byP N T K a b rs0 old.length c) [1]) x * ev [1] x) ∧ ∀ i, T + K ≤ i → cf (quoP (byP N T K a b rs0 old.length c) [1]) i = 0 := fun c => by
              have hpos : 0 < (trimP ([1] : List F)).length := trim_pos (i := 0) F.one_ne
              obtain ⟨q, h1, h2⟩ := quoP_ok (byP N T K a b rs0 old.length c) hpos
              have h3 := trim_length ([1] : List F)
              simp only [List.length_singleton] at h3
              exact one_div (T := T + K) h1 (by omega) (fun i hi => (hb c).2.2 i (by omega))
            refine ⟨.inr (.inr k4), unseen_dealer hr1 (by omega) (hE ce hcm) hcs, fun c _ i hi => (hq c).2 i ?_, fun c h _ => ?_⟩
            · have : eachR T K (toRd r) = T + K := by unfold eachR eachN; rw [hkk, k4]; simp
              omega
            · rw [if_neg k2]
              have : facR N K (toRd r) (ptF h) = ev [1] (ptF h) := by unfold facR factorL; rw [hkk, if_neg k2, if_neg k3]
              rw [this]
              exact ((hq c).1 (ptF h)).symm
          · rw [if_neg k4]
            left
            rcases hr1.1 with h | h | h | h
            · exact h
            · exact absurd h k2
            · exact absurd h k3
            · exact absurd h k4
    · have hkk : (toRd r).kind = r.kind := rfl
      rw [hkk, hdl]
      unfold epFrom at he
      by_cases k2 : r.kind = 2
      · rw [if_pos k2] at he ⊢
        have h1 := turn_ok hT hK hNK hE rs (old ++ [cur ++ r.sn]) r.sn _ (by rw [he, List.append_assoc]; rfl) (fun x hx => hr x (List.mem_cons_of_mem _ hx)) l3
        rw [List.length_append] at h1
        exact h1
      · rw [if_neg k2] at he ⊢
        exact turn_ok hT hK hNK hE rs old (cur ++ r.sn) _ he (fun x hx => hr x (List.mem_cons_of_mem _ hx)) l3
end
end Go.Proofs.Ytpeiejkcoadhfaa
namespace Go.Proofs.Ytpeiejkcoadhfaa
section
variable {N T K : Nat} {a b : List F} {rs : List Ri}
theorem byP_comm : byP N T K a b rs = byP N T K b a rs := by
  funext e c
  unfold byP
  rw [colD_comm]
theorem usP_comm : usP N T K a b rs = usP N T K b a rs := by
  funext e r
  unfold usP
  rw [byP_comm]
theorem us0_comm : us0 N T K a b rs = us0 N T K b a rs := by
  funext c
  unfold us0
  rw [byP_comm, colD_comm]
theorem len_fits : ∀ {rs : List Ri} {cols : Nat} {ts : List (List F)}, LenOk T K cols rs ts → Fits (rs.map toRd) ts
  | [], _, _, h => h
  | r :: rs, cols, ts, ⟨h1, _, h3⟩ => by
    have e : (toRd r).dealers.length = r.ds.length := by show (r.ds.map Int.toNat).length = _; rw [List.length_map]
    refine ⟨by rw [e]; exact h1, ?_⟩
    rw [e]
    exact len_fits h3
theorem turn_back {t0 : List F} {ts : List (List F)} (h : Fits (rs.map toRd) ts) : turnF N T K b a rs (turnF N T K a b rs (t0 :: ts)) = t0 :: ts := by
  unfold turnF
  simp only [List.getD_cons_zero, List.drop_succ_cons, List.drop_zero]
  rw [us0_comm (a := b), usP_comm (a := b), addT_addT, turnE_twice _ _ _ _ _ h]
theorem turn_lens {t0 : List F} {ts : List (List F)} (h : Fits (rs.map toRd) ts) : (turnF N T K a b rs (t0 :: ts)).map List.length = (t0 :: ts).map List.length := by
  unfold turnF
  simp only [List.getD_cons_zero, List.drop_succ_cons, List.drop_zero, List.map_cons]
  rw [addT_length, turnE_lens _ _ _ _ _ h]
theorem turn_unlike {t0 t0' : List F} {ts ts' : List (List F)} (h : Fits (rs.map toRd) ts) (h' : Fits (rs.map toRd) ts') (e : turnF N T K a b rs (t0 :: ts) = turnF N T K a b rs (t0' :: ts')) : t0 :: ts = t0' :: ts' := by
  rw [← turn_back (a := a) (b := b) (t0 := t0) (K := K) (N := N) (T := T) h, e, turn_back h']
end
theorem len_of {T K cols : Nat} : ∀ (rs : List Ri) (ts : List (List F)), (ts.map fun t => (t.length : Int)) = (rs.flatMap fun r => r.ds.map fun _ => ((eachN T K r.kind * cols : Nat) : Int)) → LenOk T K cols rs ts
  | [], ts, h => by
    rw [List.flatMap_nil, List.map_eq_nil_iff] at h
    exact h
  | r :: rs, ts, h => by
    rw [List.flatMap_cons] at h
    have hl : r.ds.length ≤ ts.length := by
      have := congrArg List.length h
      rw [List.length_map, List.length_append, List.length_map] at this
      omega
    refine ⟨hl, fun t ht => ?_, len_of rs _ ?_⟩
    · have h1 := congrArg (List.take r.ds.length) h
      rw [← List.map_take, List.take_left' (by rw [List.length_map])] at h1
      have h2 : (t.length : Int) ∈ (ts.take r.ds.length).map fun t => (t.length : Int) := List.mem_map.2 ⟨t, ht, rfl⟩
      rw [h1] at h2
      obtain ⟨_, _, h3⟩ := List.mem_map.1 h2
      omega
    · have h1 := congrArg (List.drop r.ds.length) h
      rw [← List.map_drop, List.drop_left' (by rw [List.length_map])] at h1
      exact h1
theorem right_of {N T K : Nat} {E Rm size : Int} {rs : List Ri} {ts : List (List F)} (h : RightP N T K E Rm size rs (ts.map List.length)) : ∃ t0 tl, ts = t0 :: tl ∧ t0.length = T * ncol size.toNat K ∧ LenOk T K (ncol size.toNat K) rs tl ∧ (∀ r ∈ rs, roundOk N T r) ∧ (∀ c ∈ epochs rs, (hidA N c).length ≤ T) ∧ 1 ≤ T ∧ 1 ≤ K ∧ N + K ≤ 255 ∧ T + K ≤ N := by
  obtain ⟨⟨hg, _, _, _, hr, he⟩, hl⟩ := h
  rw [List.map_map] at hl
  simp only [Int.toNat_natCast] at hl
  obtain ⟨g1, g2, g3, g4, g5, g6, g7, g8, g9, g10, g11, g12⟩ := hg
  cases ts with
  | nil => unfold tapesL at hl; simp at hl
  | cons t0 tl =>
    unfold tapesL at hl
    rw [List.map_cons] at hl
    injection hl with h1 h2
    have h1' : ((t0.length : Nat) : Int) = ((T * ncol size.toNat K : Nat) : Int) := h1
    refine ⟨t0, tl, rfl, by omega, len_of rs tl h2, hr, fun c hc => ?_, by omega, by omega, by omega, by omega⟩
    have h3 := he c hc
    have h4 : (hidA N c).length ≤ (nd c).length := by
      have e : (hidA N c).length = ((hidA N c).map fun h : Nat => (h : Int)).length := by rw [List.length_map]
      rw [e]
      refine sub_len ?_ (fun x hx => ?_)
      · unfold List.Nodup
        rw [List.pairwise_map]
        refine List.Pairwise.imp ?_ (List.Pairwise.filter _ List.nodup_range)
        intro x y hxy e
        exact hxy (by omega)
      · obtain ⟨y, hy, rfl⟩ := List.mem_map.1 hx
        exact (nd_mem c _).2 (of_decide_eq_true (List.mem_filter.1 hy).2)
    omega
theorem unlike_p {N T K : Nat} {E Rm size : Int} {rs : List Ri} {ts ts' : List (List F)} {a b : List F} (h : RightP N T K E Rm size rs (ts.map List.length)) (h' : RightP N T K E Rm size rs (ts'.map List.length)) : decide (turnF N T K a b rs ts = turnF N T K a b rs ts') = decide (ts = ts') := by
  obtain ⟨t0, tl, rfl, _, h1, _⟩ := right_of h
  obtain ⟨t0', tl', rfl, _, h1', _⟩ := right_of h'
  rw [decide_eq_decide]
  exact ⟨turn_unlike (len_fits h1) (len_fits h1'), fun e => by rw [e]⟩
theorem empty_p {N T K : Nat} {data : List F} {rs : List Ri} {ts : List (List F)} (h : ∀ r ∈ rs, r.sn = [] ∧ r.kind ≠ 4) : lookF N T K data rs ts = [] := by
  unfold lookF
  generalize shareE N T K data (ts.getD 0 []) = q
  generalize ts.drop 1 = ts
  induction rs generalizing q ts with
  | nil => rfl
  | cons r rs ih =>
    obtain ⟨h1, h2⟩ := h r (List.mem_cons_self ..)
    rw [List.map_cons, lookE, ih (fun x hx => h x (List.mem_cons_of_mem _ hx)), List.append_nil]
    have e1 : (toRd r).seen = [] := by show r.sn.map _ = []; rw [h1]; rfl
    have e2 : (toRd r).kind ≠ 4 := h2
    unfold roundE
    rw [e1, List.flatMap_nil, List.nil_append]
    rw [List.flatMap_eq_nil_iff]
    intro x _
    rw [if_neg (by rintro (h | ⟨_, h, _⟩); exact e2 h; cases h)]
end Go.Proofs.Ytpeiejkcoadhfaa
namespace Go.Proofs.Ytpeiejkcoadhfaa
open Go.RowKit Go.Shelf Go.Proofs.YtpeiejkcoadhfaaW.PrintWords Go.Proofs.YtpeiejkcoadhfaaW.PrintMore
open Go.BigFrame
theorem right_want {N T K E Rm size : Int} {rs : List Ri} {ls : List Nat} : RightP N T K E Rm size rs ls ↔ (wantL N T K E Rm size rs).length ≠ 0 ∧ (ls.map fun l : Nat => (l : Int)) = wantL N T K E Rm size rs := by
  unfold RightP wantL
  by_cases h : MayP N T K E Rm size rs
  · rw [if_pos h]
    exact ⟨fun h2 => ⟨by unfold tapesL; simp, h2.2⟩, fun h2 => ⟨h, h2.2⟩⟩
  · rw [if_neg h]
    exact ⟨fun h2 => absurd h2.1 h, fun h2 => absurd rfl h2.1⟩
theorem PL_len {W : World} {A : Option Addr} {n : Nat} {qs : List (List F)} (h : PL W A n qs) : qs.length = n := by obtain ⟨_, _, h, _⟩ := h; exact h
set_option maxRecDepth 100000 in
set_option maxHeartbeats 3200000 in
theorem right_any (w : World) (N T K E Rm size : Int) (A : Option Addr) (n c : Nat) (rs : List Ri) (hR : RL w A n rs) (hn : n ≤ 9223372036854775807) (hsm : ∀ r ∈ rs, r.ds.length ≤ 9223372036854775807 ∧ r.sn.length ≤ 9223372036854775807) (hN : -9223372036854775808 ≤ N ∧ N ≤ 9223372036854775807)
    (B : Option Addr) (m d : Nat) (ts : List (List F)) (hT : PL w B m ts) (hm : m ≤ 9223372036854775807) :
    Calls Try.prog 105 #[parV N T K E Rm, .int .i64 size, .slice A n c, .slice B m d] w fun e w' => e = .returned (.bool (decide (RightP N T K E Rm size rs (ts.map List.length)))) ∧ Below w.heap.size w w' := by
  obtain ⟨W0, hW0, hz0, a0, hb0⟩ := heap1 w (Obj.cells #[.int .i64 N, .int .i64 T, .int .i64 K, .int .i64 E, .int .i64 Rm] 48)
  have HTA := Aside0.mk (Tapes_any W0 N T K E Rm size A n c rs (RL_below hR hb0) hn hsm hN)
  have HB0 := Aside0.mk hb0
  have HT := Aside0.mk hT
  have HTL := Aside0.mk (PL_len hT)
  obtain ⟨res, hres⟩ : ∃ res, res = decide (RightP N T K E Rm size rs (ts.map List.length)) := ⟨_, rfl⟩
  have HRES : Aside0 (res = decide ((wantL N T K E Rm size rs).length ≠ 0 ∧ ((ts.map List.length).map fun l : Nat => (l : Int)) = wantL N T K E Rm size rs)) := ⟨by rw [hres, decide_eq_decide]; exact right_want⟩
  rw [← hres]
  obtain ⟨wl, hwl⟩ : ∃ wl, wl = wantL N T K E Rm size rs := ⟨_, rfl⟩
  rw [← hwl] at HTA HRES
  obtain ⟨ls, hls⟩ : ∃ ls, ls = (ts.map List.length).map fun l : Nat => (l : Int) := ⟨_, rfl⟩
  rw [← hls] at HRES
  have HLS : Aside0 (ls.length = m ∧ ∀ k, ls.getD k 0 = ((ts.getD k []).length : Int)) := ⟨by
    rw [hls]
    refine ⟨by rw [List.length_map, List.length_map]; exact HTL.out, fun k => ?_⟩
    rw [List.getD_eq_getElem?_getD, List.getD_eq_getElem?_getD, List.getElem?_map, List.getElem?_map]
    cases ts[k]? <;> rfl⟩
  rw [hW0] at HTA HB0
  have hu48 := Try.underlying48
  clear hres hR hT hsm hW0 hz0 a0 hb0 hwl hls
  obtain ⟨k0, hk0⟩ : ∃ k0, k0 = wl.length := ⟨_, rfl⟩
  rw [← hk0] at HTA HRES
  have HK0 := Aside0.mk hk0
  unfold parV at *
  by_cases c1 : k0 = 0
  · have HX : Aside0 (res = false) := ⟨by rw [HRES.out]; exact decide_eq_false (fun h => h.1 c1)⟩
    subst c1
    clear hk0
    go_enter Try.func105, Try.ntmps105
    go_wp2_with (go_at_call 68; with_reducible refine HTA.out.mono ?_; rintro e w1 ⟨X, dx, rfl, hX, hb1⟩; have HB1 := Aside0.mk (HB0.out.trans (hb1.mono HB0.out.size)); clear hb1 hX)
    go_ret
    exact ⟨by rw [HX.out]; rfl, HB1.out⟩
  have e1 : ((k0 : Int) == 0) = false := by simp; exact c1
  by_cases c2 : k0 = m
  · have e2 : ((k0 : Int) != (m : Int)) = false := by simp; omega
    have HRE2 : Aside0 (res = decide (ls = wl)) := ⟨by
      rw [HRES.out, decide_eq_decide]
      exact ⟨fun h => h.2, fun h => ⟨c1, h⟩⟩⟩
    clear hk0
    go_enter Try.func105, Try.ntmps105
    go_wp2_with (go_at_call 68; with_reducible refine HTA.out.mono ?_; rintro e w1 ⟨X, dx, rfl, hX, hb1⟩; have HB1 := Aside0.mk (HB0.out.trans (hb1.mono HB0.out.size)); have HX := Aside0.mk (R_C hX); clear hb1 hX)
    go_loopw [28] (fun v28 wr => ∃ (k t : Nat), k ≤ m ∧ v28 = .int .i64 k ∧ wr = w1.drewN t ∧ Aside0 (ls.take k = wl.take k)) (fun v28 _ => m - (intOf v28).toNat)
    case atStart => exact ⟨0, 0, by omega, rfl, rfl, ⟨by simp⟩⟩
    case round =>
      obtain ⟨k, t, hk, rfl, rfl, HTK⟩ := hrel
      by_cases hlt : k < m
      · obtain ⟨ad, Bq, cq, rfl, hcell, _, _⟩ := PL_at (PL_below HT.out HB1.out) k hlt
        obtain ⟨adx, rfl, hx⟩ := z_at HX.out (Fr.refl (fun _ => False) w1) (fun _ h => h.elim) k (by omega)
        have hlen : k < ls.length := by rw [HLS.out.1]; exact hlt
        have hlk := HLS.out.2 k
        obtain ⟨q, hq⟩ : ∃ q, q = (ts.getD k []).length := ⟨_, rfl⟩
        rw [← hq] at hcell hlk
        obtain ⟨y, hy⟩ : ∃ y, y = wl.getD k 0 := ⟨_, rfl⟩
        rw [← hy] at hx
        have hjI : (k : Int) < (m : Int) := by omega
        have hkI : (k : Int) < (k0 : Int) := by omega
        by_cases c3 : (q : Int) = y
        · have e3 : ((q : Int) != y) = false := by simp; exact c3
          have HN : Aside0 (ls.take (k + 1) = wl.take (k + 1)) := ⟨by rw [take_snoc 0 ls k hlen, take_snoc 0 wl k (by rw [← HK0.out]; omega), HTK.out, hlk, ← hy, c3]⟩
          clear hq hy hlk hlen c3
          go_wp2
          go_roundw
          case rel => exact ⟨k + 1, t, by omega, by go_num, rfl, HN⟩
          case measure => simp [intOf]; omega
        · have e3 : ((q : Int) != y) = true := by simp; exact c3
          have HY : Aside0 (res = false) := ⟨by rw [HRE2.out]; exact decide_eq_false (fun h => c3 (by rw [← hlk, h, hy]))⟩
          clear hq hy hlk hlen c3
          go_wp2
          go_ret
          exact ⟨by rw [HY.out]; rfl, pw_below_drewN HB1.out t⟩
      · obtain rfl : k = m := by omega
        have HY : Aside0 (res = true) := ⟨by
          rw [HRE2.out, decide_eq_true_iff]
          have h := HTK.out
          rwa [List.take_of_length_le (by rw [HLS.out.1]; exact Nat.le_refl _), List.take_of_length_le (by rw [← HK0.out, c2]; exact Nat.le_refl _)] at h⟩
        go_wp2
        go_ret
        exact ⟨by rw [HY.out]; rfl, pw_below_drewN HB1.out t⟩
  · have e2 : ((k0 : Int) != (m : Int)) = true := by simp; omega
    have HY : Aside0 (res = false) := ⟨by rw [HRES.out]; exact decide_eq_false (fun h => c2 (by rw [HK0.out, ← h.2, HLS.out.1]))⟩
    clear hk0
    go_enter Try.func105, Try.ntmps105
    go_wp2_with (go_at_call 68; with_reducible refine HTA.out.mono ?_; rintro e w1 ⟨X, dx, rfl, hX, hb1⟩; have HB1 := Aside0.mk (HB0.out.trans (hb1.mono HB0.out.size)); clear hb1 hX)
    go_ret
    exact ⟨by rw [HY.out]; rfl, HB1.out⟩
end Go.Proofs.Ytpeiejkcoadhfaa
namespace Go.Proofs.Ytpeiejkcoadhfaa
open Go.RowKit Go.Shelf Go.Proofs.YtpeiejkcoadhfaaW.PrintWords Go.Proofs.YtpeiejkcoadhfaaW.PrintMore
open Go.BigFrame
attribute [local go_sem] Oper.semAt_some
theorem C_lit1 {W : World} {a : Nat} {x : F} (h : W.heap[a]? = some (.cells #[.int .u8 x.v] 5 (0, 0))) : Kd.C fk W (some ⟨a, 0, none⟩) 1 [x] := by
  refine Kd.C_of_reads (d := (0 : F)) ⟨rfl, by decide, fun _ => ⟨⟨a, 0, none⟩, rfl, fun j hj => ?_⟩⟩
  obtain rfl : j = 0 := by simp at hj; omega
  rw [add_zero']
  exact cell_at h rfl
theorem SV_yes {W : World} {b N : Nat} {A : Option Addr} {len cap : Nat} {ok : Bool} {qs : List (List F)} (h : SV W b N A len cap ok qs) (e : ok = true) : ∃ g, A = some ⟨g, 0, none⟩ ∧ len = N ∧ cap = N ∧ b ≤ g ∧ RowsO W b (fun _ => True) g N (sharesL N qs) := by
  unfold SV at h
  rwa [if_pos e] at h
end Go.Proofs.Ytpeiejkcoadhfaa
namespace Go.Proofs.Ytpeiejkcoadhfaa
open Go.RowKit Go.Shelf Go.Proofs.YtpeiejkcoadhfaaW.PrintWords Go.Proofs.YtpeiejkcoadhfaaW.PrintMore
open Go.BigFrame
attribute [local go_sem] Oper.semAt_some
abbrev ki : Kd Int := Kd.int .i64
theorem opens_i64 : Opens Try.prog ki 3 (fun x => (Lit.int .i64 x).wf = true) (fun _ => 1) := opens_int 3 .i64 Try.underlying3 (by kernel_rfl)
theorem opens_ints : Opens Try.prog (Kd.slice 3 ki) 50 (fun l => ∀ a ∈ l, (Lit.int .i64 a).wf = true) (fun l => (l.map fun _ => 1).sum + 1) := opens_slice 50 Try.underlying50 (by kernel_rfl) opens_i64
abbrev Par : Type := Int × Int × Int × Int × Int
abbrev kpar : Kd Par := Kd.iso (Kd.pair ki (Kd.pair ki (Kd.pair ki (Kd.pair ki ki)))) id
def wfI (x : Int) : Prop := (Lit.int .i64 x).wf = true
def wfPar (p : Par) : Prop := wfI p.1 ∧ wfI p.2.1 ∧ wfI p.2.2.1 ∧ wfI p.2.2.2.1 ∧ wfI p.2.2.2.2
theorem opens_params : Opens Try.prog kpar 48 wfPar (fun _ => 1 + (1 + (1 + (1 + 1))) + 1) :=
  opens_struct 48 _ Try.underlying48 (by kernel_rfl) (opensF_cons _ _ 0 rfl opens_i64 (opensF_cons _ _ 1 rfl opens_i64 (opensF_cons _ _ 2 rfl opens_i64 (opensF_cons _ _ 3 rfl opens_i64 (opensF_one _ 4 rfl opens_i64))))) id id (fun _ => rfl)
theorem bytes_F (l : List Int) (h : ∀ a ∈ l, (Lit.int .u8 a).wf = true) : ∃ p : List F, bs p = l := by
  induction l with
  | nil => exact ⟨[], rfl⟩
  | cons a l ih =>
    obtain ⟨p, hp⟩ := ih (fun b hb => h b (List.mem_cons_of_mem _ hb))
    obtain ⟨n, rfl, hn⟩ := u8_nt (h a (List.mem_cons_self ..))
    exact ⟨⟨n, hn⟩ :: p, by simp [bs, ← hp]⟩
end Go.Proofs.Ytpeiejkcoadhfaa
namespace Go.Proofs.Ytpeiejkcoadhfaa
open Go.RowKit Go.Shelf Go.Proofs.YtpeiejkcoadhfaaW.PrintWords Go.Proofs.YtpeiejkcoadhfaaW.PrintMore
open Go.BigFrame
end Go.Proofs.Ytpeiejkcoadhfaa
