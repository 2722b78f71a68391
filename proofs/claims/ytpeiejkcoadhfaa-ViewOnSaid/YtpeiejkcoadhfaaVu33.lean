/- What the view's laws take, Vu33: PzAC, VwR, VwS, VwT, VwAC, PzAD, PzAE. -/
import Derived.Test.YtpeiejkcoadhfaaVu12
import Derived.Test.YtpeiejkcoadhfaaVu15
import Derived.Test.YtpeiejkcoadhfaaVu23
import Derived.Test.YtpeiejkcoadhfaaVu25
import Derived.Test.YtpeiejkcoadhfaaVu27
import Derived.Test.YtpeiejkcoadhfaaVu31
import Derived.Test.YtpeiejkcoadhfaaVu32
set_option linter.all false
namespace Go.Proofs.Ytpeiejkcoadhfaa
open Go.RowKit Go.Shelf Go.Proofs.YtpeiejkcoadhfaaW.PrintWords Go.Proofs.YtpeiejkcoadhfaaW.PrintMore
open Go.BigFrame
attribute [local go_sem] Oper.semAt_some
theorem RF_C {w : World} {base : Nat} {B : Option Addr} {q : List F} (h : RF w base B q) : Kd.C fk w B q.length q := by
 unfold RF at h
 exact h.1
def SV (W : World) (b N : Nat) (A : Option Addr) (len cap : Nat) (ok : Bool) (qs : List (List F)) : Prop :=
 if ok = true then ∃ g, A = some ⟨g, 0, none⟩ ∧ len = N ∧ cap = N ∧ b ≤ g ∧ yP W b (fun _ => True) g N (yH N qs) else A = none ∧ len = 0 ∧ cap = 0
theorem zeg {W : World} {b b' N : Nat} {A : Option Addr} {len cap : Nat} {ok : Bool} {qs : List (List F)} (h : SV W b N A len cap ok qs) (hb : b' ≤ b) : SV W b' N A len cap ok qs := by
 unfold SV at *
 split
 ·rename_i e
  rw [if_pos e] at h
  obtain ⟨g, e1, e2, e3, e4, h⟩ := h
  exact ⟨g, e1, e2, e3, Nat.le_trans hb e4, ZZ h hb⟩
 rename_i e
 rw [if_neg e] at h
 exact h
theorem zcE (w : World) (g N T K : Nat) (E Rm kind : Int) (cols : Nat) (A X : Option Addr) (n c nf cf' : Nat) (rnd fs : List F) (hF : Fld w g) (hr : Kd.C fk w A n rnd) (hf : Kd.C fk w X nf fs) (hc : n ≤ c) (hN : N ≤ 1000) (hT : T ≤ 1000) (hK : K ≤ 1000) (hTK : 1 ≤ T + K) (hcl : cols ≤ 100000) (hnf : nf ≤ 1000000) :
 Calls Try.prog 93 #[.pointer (some ⟨g, 0, none⟩), zv N T K E Rm, .int .i64 kind, .int .i64 cols, .slice A n c, .slice X nf cf'] w fun e w' => ∃ Y l cp, e = .returned (.tuple #[.slice Y l cp, .bool (decide (n = zD T K kind * cols))]) ∧ SV w' w.heap.size N Y l cp (decide (n = zD T K kind * cols)) (yj cols (zD T K kind) fs rnd) ∧ Fr (fun _ => False) w w' := by
 by_cases h : n = zD T K kind * cols
 ·rw [decide_eq_true h]
  refine (zkl w g N T K E Rm kind cols A X n c nf cf' rnd fs hF hr hf hc hN hT hK hTK hcl h hnf).mono ?_
  rintro e w' ⟨b, rfl, hb, hR, hfr⟩
  exact ⟨_, _, _, rfl, by unfold SV; rw [if_pos rfl]; exact ⟨b, rfl, rfl, rfl, hb, hR⟩, hfr⟩
 rw [decide_eq_false h]
 refine (zmu w g N T K E Rm kind cols A X n c nf cf' hT hK hTK (by omega) h).mono ?_
 rintro e w' ⟨rfl, hfr⟩
 exact ⟨_, _, _, rfl, by unfold SV; rw [if_neg (by simp)]; exact ⟨rfl, rfl, rfl⟩, hfr⟩
theorem zke (w : World) (g N T K : Nat) (E Rm : Int) (A R : Option Addr) (n c m mc : Nat) (data rnd : List F) (hF : Fld w g) (hd : Kd.C fk w A n data) (hr : Kd.C fk w R m rnd) (hc : n ≤ c) (hmc : m ≤ mc) (hn : n ≤ 100000) (hN : N ≤ 1000) (hT : T ≤ 1000) (hK : K ≤ 255) (hK1 : 1 ≤ K) (hNK : N + K ≤ 255) :
 Calls Try.prog 51 #[.pointer (some ⟨g, 0, none⟩), zv N T K E Rm, .slice A n c, .slice R m mc] w fun e w' => ∃ Y l cp, e = .returned (.tuple #[.slice Y l cp, .bool (decide (m = T * ye n K))]) ∧ SV w' w.heap.size N Y l cp (decide (m = T * ye n K)) (jl N T K data rnd) ∧ Fr (fun _ => False) w w' := by
 by_cases h : m = T * ye n K
 ·rw [decide_eq_true h]
  refine (zkN w g N T K E Rm A R n c m mc data rnd hF hd hr hc hmc hn hN hT hK hK1 hNK h).mono ?_
  rintro e w' ⟨b, rfl, hb, hR, hfr⟩
  exact ⟨_, _, _, rfl, by unfold SV; rw [if_pos rfl]; exact ⟨b, rfl, rfl, rfl, hb, hR⟩, hfr⟩
 rw [decide_eq_false h]
 refine (zmF w g N T K E Rm A R n c m mc data hd hc (by omega) hT hK hK1 h).mono ?_
 rintro e w' ⟨rfl, hfr⟩
 exact ⟨_, _, _, rfl, by unfold SV; rw [if_neg (by simp)]; exact ⟨rfl, rfl, rfl⟩, hfr⟩
set_option maxRecDepth 100000 in
set_option maxHeartbeats 1600000 in
theorem zkx (w : World) (g N T K : Nat) (E Rm : Int) (cols : Nat) (A : Option Addr) (n c : Nat) (rnd : List F) (hF : Fld w g) (hr : Kd.C fk w A n rnd) (hc : n ≤ c) (hN : N ≤ 1000) (hT : T ≤ 1000) (hK : K ≤ 1000) (hTK : 1 ≤ T + K) (hcl : cols ≤ 100000) (ok : Bool) (hok : ok = decide (n = zD T K 4 * cols)) :
 Calls Try.prog 60 #[.pointer (some ⟨g, 0, none⟩), zv N T K E Rm, .int .i64 cols, .slice A n c] w fun e w' => ∃ Y l cp, e = .returned (.tuple #[.slice Y l cp, .bool ok]) ∧ SV w' w.heap.size N Y l cp ok (yj cols (zD T K 4) [1] rnd) ∧ Fr (fun _ => False) w w' := by
 obtain ⟨w1, hw1, hz1, a0, hb1⟩ := zU w (Obj.cells #[.int .i64 N, .int .i64 T, .int .i64 K, .int .i64 E, .int .i64 Rm] 48)
 have hb2 : Below w.heap.size w (w1.alloc (.cells #[.int .u8 1] 5)) := yh hb1 hb1.size (zc (Below.refl _ _) _)
 have hl := R_C (Zr w1 w1.heap.size (fun _ => True) [1] (by decide) (Nat.le_refl _) trivial)
 rw [hz1] at hl
 have HD := za.mk (zcE (w1.alloc (.cells #[.int .u8 1] 5)) g N T K E Rm 4 cols A (some ⟨w.heap.size + 1, 0, none⟩) n c 1 1 rnd [1] (hF.fr (Fr.of_below hb2 (fun _ => False)) (fun h => h)) (Kd.C_below hr hb2) hl hc hN hT hK hTK hcl (by omega))
 rw [hw1, ← hok] at HD
 obtain ⟨qs, hqs⟩ : ∃ qs, qs = yj cols (zD T K 4) [1] rnd := ⟨_, rfl⟩
 rw [← hqs] at HD ⊢
 clear hqs hok hl a0 hz1 hw1 hb1 hb2 hF hr
 have hu48 := Try.underlying48
 unfold zv at *
 go_enter Try.func60, Try.ntmps60
 go_wp2_with (go_at_call 93; with_reducible refine HD.out.mono ?_; rintro e W1 ⟨Y, l, cp, rfl, hsv, hf⟩; replace hsv := za.mk hsv; replace hf := za.mk hf)
 go_ret2
 have h1 := ((Fr.refl (fun _ => False) w).alloc (.cells #[.int .i64 N, .int .i64 T, .int .i64 K, .int .i64 E, .int .i64 Rm] 48)).alloc (.cells #[.int .u8 1] 5)
 exact ⟨Y, l, cp, rfl, zeg hsv.out h1.size, h1.trans' hf.out⟩
set_option maxRecDepth 100000 in
set_option maxHeartbeats 1600000 in
theorem zkz (w : World) (g N T K : Nat) (E Rm : Int) (cols : Nat) (A : Option Addr) (n c : Nat) (rnd : List F) (hF : Fld w g) (hr : Kd.C fk w A n rnd) (hc : n ≤ c) (hN : N ≤ 1000) (hT : T ≤ 1000) (hK : K ≤ 1000) (hTK : 1 ≤ T + K) (hcl : cols ≤ 100000) (ok : Bool) (hok : ok = decide (n = zD T K 2 * cols)) :
 Calls Try.prog 58 #[.pointer (some ⟨g, 0, none⟩), zv N T K E Rm, .int .i64 cols, .slice A n c] w fun e w' => ∃ Y l cp, e = .returned (.tuple #[.slice Y l cp, .bool ok]) ∧ SV w' w.heap.size N Y l cp ok (yj cols (zD T K 2) (zw (zN N K)) rnd) ∧ Fr (fun _ => False) w w' := by
 obtain ⟨w0, hw0, hz0, a0, hb0⟩ := zU w (Obj.cells #[.int .i64 N, .int .i64 T, .int .i64 K, .int .i64 E, .int .i64 Rm] 48)
 have HSE := za.mk (fun W => Zz W N K T E Rm hN hK)
 obtain ⟨qs, hqs⟩ : ∃ qs, qs = yj cols (zD T K 2) (zw (zN N K)) rnd := ⟨_, rfl⟩
 have HDD : za (∀ W Z cz, Below w0.heap.size w0 W → Kd.C fk W Z (K + 1) (zw (zN N K)) → Calls Try.prog 93 #[.pointer (some ⟨g, 0, none⟩), zv N T K E Rm, .int .i64 2, .int .i64 cols, .slice A n c, .slice Z (K + 1) cz] W fun e w' => ∃ Y l cp, e = .returned (.tuple #[.slice Y l cp, .bool ok]) ∧ SV w' W.heap.size N Y l cp ok qs ∧ Fr (fun _ => False) W w') := ⟨fun W Z cz hW hZ => by
  have hbW : Below w.heap.size w W := hb0.trans (hW.mono hb0.size)
  rw [hqs, hok]
  exact zcE W g N T K E Rm 2 cols A Z n c (K + 1) cz rnd _ (hF.fr (Fr.of_below hbW (fun _ => False)) (fun h => h)) (Kd.C_below hr hbW) hZ hc hN hT hK hTK hcl (by omega)⟩
 rw [← hqs]
 obtain ⟨s, hs⟩ : ∃ s, s = w.heap.size := ⟨_, rfl⟩
 rw [← hs] at a0
 have HG : za (∀ W, Fr (fun j => s + 1 ≤ j) w0 W → W.cell? ⟨s, 0, none⟩ = some (.int .i64 N) ∧ W.cell? ⟨s, 1, none⟩ = some (.int .i64 T) ∧ W.cell? ⟨s, 2, none⟩ = some (.int .i64 K) ∧ W.cell? ⟨s, 3, none⟩ = some (.int .i64 E) ∧ W.cell? ⟨s, 4, none⟩ = some (.int .i64 Rm)) :=
  ⟨fun W hW => by
    have h1 := hW.blk a0 (by omega)
    exact ⟨zh h1 rfl, zh h1 rfl, zh h1 rfl, zh h1 rfl, zh h1 rfl⟩⟩
 have HF : za (Fld w0 g) := ⟨hF.fr (Fr.of_below hb0 (fun _ => False)) (fun h => h)⟩
 have HB0 := za.mk hb0
 have HS := za.mk hs
 have HW0 := za.mk hw0
 clear hqs hok hF hr a0 hb0 hz0 hw0 hs
 have hu48 := Try.underlying48
 unfold zv at *
 go_enter Try.func58, Try.ntmps58
 go_wp2
 rw [← HW0.out, ← HS.out]
 have S1 := HG.out w0 (Fr.refl _ _)
 go_region_held3 (fun W => W.cell? ⟨s, 0, none⟩ = some (.int .i64 N) ∧ W.cell? ⟨s, 1, none⟩ = some (.int .i64 T) ∧ W.cell? ⟨s, 2, none⟩ = some (.int .i64 K) ∧ W.cell? ⟨s, 3, none⟩ = some (.int .i64 E) ∧ W.cell? ⟨s, 4, none⟩ = some (.int .i64 Rm))
  (first | exact S4 | exact S3 | exact S2 | exact HG.out _ ((Fr.refl _ w0).drew))
  (first
    | (go_at_call 47; with_reducible refine (HSE.out _).mono ?_; rintro e W2 ⟨X, d2, rfl, hX, hb2⟩; have HB2 := za.mk (ZR hb2); have HRO := za.mk (JC W2 g X K d2 (zN N K) (HF.out.fr (Fr.of_below HB2.out (fun _ => False)) (fun h => h)) (R_C hX) (by omega)); have S2 := HG.out W2 (Fr.of_below HB2.out _); clear hX hb2)
    | (go_at_call 83; with_reducible refine HRO.out.mono ?_; rintro e W3 ⟨Z, rfl, hZ, hf3⟩; have HB3 := za.mk (HB2.out.trans (hf3.f_below.mono HB2.out.size)); have HD3 := za.mk (HDD.out W3 Z (K + 1) HB3.out (by have h := RF_C hZ; rwa [zQ, zH] at h)); have S3 := HG.out W3 (Fr.of_below HB3.out _); clear hZ hf3)
    | (go_at_call 93; with_reducible refine HD3.out.mono ?_; rintro e W4 ⟨Y, l, cp, rfl, hsv, hf4⟩; have HSV := za.mk hsv; have HF4 := za.mk hf4; have S4 := HG.out W4 ((Fr.of_below HB3.out _).trans' (hf4.mono (fun _ h => h.elim))); clear hsv hf4))
 go_wp2
 go_ret2
 have h3 := HB0.out.trans (HB3.out.mono HB0.out.size)
 exact ⟨Y, l, cp, rfl, zeg HSV.out h3.size, (Fr.of_below h3 _).trans' HF4.out⟩
set_option maxRecDepth 100000 in
set_option maxHeartbeats 1600000 in
theorem zkf (w : World) (g N T K : Nat) (E Rm : Int) (target cols : Nat) (A : Option Addr) (n c : Nat) (rnd : List F) (hF : Fld w g) (hr : Kd.C fk w A n rnd) (hc : n ≤ c) (ht : target < N) (hN : N ≤ 1000) (hT : T ≤ 1000) (hK : K ≤ 1000) (hTK : 1 ≤ T + K) (hcl : cols ≤ 100000) (ok : Bool) (hok : ok = decide (n = zD T K 3 * cols)) :
 Calls Try.prog 59 #[.pointer (some ⟨g, 0, none⟩), zv N T K E Rm, .int .i64 (target : Int), .int .i64 cols, .slice A n c] w fun e w' => ∃ Y l cp, e = .returned (.tuple #[.slice Y l cp, .bool ok]) ∧ SV w' w.heap.size N Y l cp ok (yj cols (zD T K 3) (lin (ptF target)) rnd) ∧ Fr (fun _ => False) w w' := by
 obtain ⟨w0, hw0, hz0, a0, hb0⟩ := zU w (Obj.cells #[.int .i64 N, .int .i64 T, .int .i64 K, .int .i64 E, .int .i64 Rm] 48)
 have HP := za.mk (fun W => zaO W target)
 obtain ⟨qs, hqs⟩ : ∃ qs, qs = yj cols (zD T K 3) (lin (ptF target)) rnd := ⟨_, rfl⟩
 obtain ⟨x, hx⟩ : ∃ x, x = ptF target := ⟨_, rfl⟩
 rw [← hx] at HP hqs
 have HDD : za (∀ W, Below w0.heap.size w0 W → Calls Try.prog 93 #[.pointer (some ⟨g, 0, none⟩), zv N T K E Rm, .int .i64 3, .int .i64 cols, .slice A n c, .slice (some ⟨W.heap.size, 0, none⟩) 2 2] (W.alloc (.cells #[.int .u8 x.v, .int .u8 1] 5)) fun e w' => ∃ Y l cp, e = .returned (.tuple #[.slice Y l cp, .bool ok]) ∧ SV w' (W.alloc (.cells #[.int .u8 x.v, .int .u8 1] 5)).heap.size N Y l cp ok qs ∧ Fr (fun _ => False) (W.alloc (.cells #[.int .u8 x.v, .int .u8 1] 5)) w') := ⟨fun W hW => by
  have hbW : Below w.heap.size w W := hb0.trans (hW.mono hb0.size)
  have hbl : Below W.heap.size W (W.alloc (.cells #[.int .u8 x.v, .int .u8 1] 5)) := zc (Below.refl _ _) _
  have hbw2 := hbW.trans (hbl.mono hbW.size)
  have hlit : Kd.C fk (W.alloc (.cells #[.int .u8 x.v, .int .u8 1] 5)) (some ⟨W.heap.size, 0, none⟩) 2 (lin x) := R_C (Zr W W.heap.size (fun _ => True) (lin x) (by simp [lin]) (Nat.le_refl _) trivial)
  rw [hqs, hok]
  exact zcE _ g N T K E Rm 3 cols A _ n c 2 2 rnd _ (hF.fr (Fr.of_below hbw2 (fun _ => False)) (fun h => h)) (Kd.C_below hr hbw2) hlit hc hN hT hK hTK hcl (by omega)⟩
 rw [hx] at hqs
 rw [← hqs]
 obtain ⟨s, hs⟩ : ∃ s, s = w.heap.size := ⟨_, rfl⟩
 rw [← hs] at a0
 have HG : za (∀ W, Fr (fun j => s + 1 ≤ j) w0 W → W.cell? ⟨s, 0, none⟩ = some (.int .i64 N) ∧ W.cell? ⟨s, 1, none⟩ = some (.int .i64 T) ∧ W.cell? ⟨s, 2, none⟩ = some (.int .i64 K) ∧ W.cell? ⟨s, 3, none⟩ = some (.int .i64 E) ∧ W.cell? ⟨s, 4, none⟩ = some (.int .i64 Rm)) :=
  ⟨fun W hW => by
    have h1 := hW.blk a0 (by omega)
    exact ⟨zh h1 rfl, zh h1 rfl, zh h1 rfl, zh h1 rfl, zh h1 rfl⟩⟩
 have HB0 := za.mk hb0
 have HS := za.mk hs
 have HW0 := za.mk hw0
 have hI0 : (0 : Int) ≤ (target : Int) := by omega
 have hIN : (target : Int) < (N : Int) := by omega
 clear hqs hok hF hr a0 hb0 hz0 hw0 hs hx
 have hu48 := Try.underlying48
 unfold zv at *
 go_enter Try.func59, Try.ntmps59
 go_wp2
 rw [← HW0.out, ← HS.out]
 have S1 := HG.out w0 (Fr.refl _ _)
 go_region_held3 (fun W => W.cell? ⟨s, 0, none⟩ = some (.int .i64 N) ∧ W.cell? ⟨s, 1, none⟩ = some (.int .i64 T) ∧ W.cell? ⟨s, 2, none⟩ = some (.int .i64 K) ∧ W.cell? ⟨s, 3, none⟩ = some (.int .i64 E) ∧ W.cell? ⟨s, 4, none⟩ = some (.int .i64 Rm))
  (first | exact S4 | exact S3 | exact S2 | exact HG.out _ ((Fr.refl _ w0).drew))
  (first
    | (go_at_call 81; with_reducible refine (HP.out _).mono ?_; rintro e W2 ⟨rfl, hd2⟩; have HF2 := za.mk ((Fr.refl (fun _ => False) w0).drew.trans' (Fr.of_drawn0 hd2)); have HD3 := za.mk (HDD.out W2 HF2.out.f_below); have S2 := HG.out W2 (HF2.out.mono (fun _ h => h.elim)); have S3 := HG.out (W2.alloc (.cells #[.int .u8 x.v, .int .u8 1] 5)) ((HF2.out.mono (fun _ h => h.elim)).alloc _); clear hd2)
    | (go_at_call 93; with_reducible refine HD3.out.mono ?_; rintro e W4 ⟨Y, l, cp, rfl, hsv, hf4⟩; have HSV := za.mk hsv; have HF4 := za.mk hf4; have S4 := HG.out W4 ((((HF2.out.mono (fun _ h => h.elim)).alloc _)).trans' (hf4.mono (fun _ h => h.elim))); clear hsv hf4))
 go_wp2
 go_ret2
 have h3 := ((Fr.of_below HB0.out (fun _ => False)).trans' HF2.out).alloc (.cells #[.int .u8 x.v, .int .u8 1] 5)
 exact ⟨Y, l, cp, rfl, zeg HSV.out h3.size, h3.trans' HF4.out⟩
end Go.Proofs.Ytpeiejkcoadhfaa
namespace Go.Proofs.Ytpeiejkcoadhfaa
def zE (N cols : Nat) (q : Ev) : List (List F) := (List.range N).map (yo cols q)
theorem Zf (N cols : Nat) (q : Ev) : (zE N cols q).length = N := by simp [zE]
theorem zz (cols : Nat) (q : Ev) (h : Nat) : (yo cols q h).length = cols := by simp [yo]
theorem yE (N cols : Nat) (q : Ev) (h : Nat) (hh : h < N) : (zE N cols q).getD h [] = yo cols q h := zy _ _ _ _ hh
theorem zjC (cols : Nat) (q : Ev) (h c : Nat) (hc : c < cols) : cf (yo cols q h) c = q c h := zy _ _ _ _ hc
def zmY (qs : List (List F)) : Ev := fun c h => ev (qs.getD c []) (ptF h)
theorem zdd (N : Nat) (qs : List (List F)) : yH N qs = zE N qs.length (zmY qs) := by
 unfold yH zE
 refine List.map_congr_left (fun h _ => ?_)
 apply List.ext_getElem
 ·simp [yo]
 intro i h1 h2
 have hi : i < qs.length := by simpa using h1
 simp [yo, zmY, List.getD_eq_getElem?_getD, List.getElem?_eq_getElem hi]
theorem zcQ {N cols : Nat} {q q' : Ev} (h : ∀ c i, c < cols → q c i = q' c i) : zE N cols q = zE N cols q' := by
 unfold zE
 exact List.map_congr_left (fun i _ => Zt (fun c hc => h c i hc))
theorem zdQ (N cols n : Nat) (fac rnd : List F) : yH N (yj cols n fac rnd) = zE N cols (Jb (ev fac) n ptF rnd) := by
 rw [zdd, zbp]
 refine zcQ (fun c h hc => ?_)
 unfold zmY yj Jb
 rw [zy _ _ _ _ hc, Ju, zbw, F.mul_comm]
 rfl
noncomputable def zhk (N K : Nat) (data : List F) (c : Nat) (x : F) : F := ev (zad (zN N K) (Jn data K c)) x
noncomputable def Jl (N T K : Nat) (data rnd : List F) : Ev := fun c h => zhk N K data c (ptF h) + ev (Js rnd T c) (ptF h) * ev (zw (zN N K)) (ptF h)
theorem zdT (N T K : Nat) (data rnd : List F) : yH N (jl N T K data rnd) = zE N (ye data.length K) (Jl N T K data rnd) := by
 rw [zdd, zeX]
 refine zcQ (fun c h hc => ?_)
 unfold zmY jl Jl zhk
 rw [zy _ _ _ _ hc, Ju, ZM, Ju, zbw, F.mul_comm (ev (zw _) _)]
 rfl
theorem zkR (q : Ev) (ds : List Ev) (d : Ev) (c h : Nat) : yg q (ds ++ [d]) c h = yg q ds c h + d c h := by simp [yg, List.foldl_append]
theorem zlP (cols : Nat) (q d : Ev) (h : Nat) : zah (yo cols q h) (yo cols d h) = yo cols (fun c i => q c i + d c i) h := by
 unfold zah
 rw [zz]
 unfold yo
 refine List.map_congr_left (fun c hc => ?_)
 rw [List.mem_range] at hc
 show cf (yo cols q h) c + cf (yo cols d h) c = _
 rw [zjC _ _ _ _ hc, zjC _ _ _ _ hc]
def jn (N cols : Nat) (q : Ev) (ds : List Ev) (d : Ev) (h : Nat) : List (List F) := (List.range N).map fun i => yo cols (if i < h then yg q (ds ++ [d]) else yg q ds) i
theorem zbI (N cols : Nat) (q : Ev) (ds : List Ev) (d : Ev) : jn N cols q ds d 0 = zE N cols (yg q ds) := by
 unfold jn zE
 refine List.map_congr_left (fun i _ => ?_)
 rw [if_neg (by omega)]
theorem zep (N cols : Nat) (q : Ev) (ds : List Ev) (d : Ev) : jn N cols q ds d N = zE N cols (yg q (ds ++ [d])) := by
 unfold jn zE
 refine List.map_congr_left (fun i hi => ?_)
 rw [if_pos (List.mem_range.1 hi)]
theorem zeK (N cols : Nat) (q : Ev) (ds : List Ev) (d : Ev) (h : Nat) (hh : h < N) : (jn N cols q ds d h).getD h [] = yo cols (yg q ds) h := by
 unfold jn
 rw [zy _ _ _ _ hh, if_neg (by omega)]
theorem zdc (N cols : Nat) (q : Ev) (ds : List Ev) (d : Ev) (h : Nat) (hh : h < N) : (jn N cols q ds d h).set h (zah (yo cols (yg q ds) h) (yo cols d h)) = jn N cols q ds d (h + 1) := by
 rw [zlP]
 apply List.ext_getElem
 ·simp [jn]
 intro i h1 h2
 have hi : i < N := by simpa [jn] using h2
 rw [List.getElem_set]
 simp only [jn, List.getElem_map, List.getElem_range]
 by_cases e : h = i
 ·subst e
  rw [if_pos rfl, if_pos (by omega)]
  exact Zt (fun c _ => (zkR q ds d c h).symm)
 rw [if_neg e]
 by_cases h3 : i < h
 ·rw [if_pos h3, if_pos (by omega)]
 rw [if_neg h3, if_neg (by omega)]
def zM (r : Ri) : Rnd := ⟨r.kind, r.ds.map Int.toNat, r.target.toNat, r.sn.map Int.toNat⟩
def Jm (N K : Nat) (r : Rnd) : F → F := ev (yk N K r.kind (ptF r.target))
def yO (T K : Nat) (r : Rnd) : Nat := zD T K r.kind
def zdg (N T K : Nat) (r : Rnd) (t : List F) : Ev := Jb (Jm N K r) (yO T K r) ptF t
noncomputable def jD (N T K : Nat) (data : List F) (rs : List Ri) (ts : List (List F)) : List F :=
 Zl N (ye data.length K) (Jm N K) (yO T K) ptF (rs.map zM) (Jl N T K data (ts.getD 0 [])) (ts.drop 1)
def yv (N T K E Rm size : Int) (rs : List Ri) (ls : List Nat) : Prop := zbR N T K E Rm size rs ∧ (ls.map fun l : Nat => (l : Int)) = ZL T.toNat K.toNat (ye size.toNat K.toNat) rs
instance (N T K E Rm size : Int) (rs : List Ri) (ls : List Nat) : Decidable (yv N T K E Rm size rs ls) := by unfold yv; infer_instance
def zbq (p d q : List F) : Prop := ∃ r, (∀ i, cf p i = cf (zB q d) i + cf r i) ∧ (zj r).length < (zj d).length
open Classical in
noncomputable def Zn (p d : List F) : List F := if h : ∃ q, zbq p d q then Classical.choose h else []
theorem zpf {d : List F} {low : Nat} (h : (zj d).length = low + 1) : cf d low ≠ 0 ∧ ∀ i, low < i → cf d i = 0 := by
 refine ⟨?_, fun j hj => by rw [← zY d]; exact zJ _ _ (by omega)⟩
 have := ZX d (by intro e; rw [e] at h; simp at h)
 rw [zY, h] at this
 exact this
theorem ziP {p d q q' : List F} (h : zbq p d q) (h' : zbq p d q') (i : Nat) : cf q i = cf q' i := by
 obtain ⟨r, h1, h2⟩ := h
 obtain ⟨r', h1', h2'⟩ := h'
 obtain ⟨low, hlow⟩ : ∃ low, (zj d).length = low + 1 := ⟨(zj d).length - 1, by omega⟩
 obtain ⟨t1, t2⟩ := zpf hlow
 have h3 := zjw (p := zW r r') (d := d) (q := zW q q') (low := low) (T := 0) t1 t2 (fun j => by
  rw [JY q q' d j, zS, zS]
  have e1 := h1 j
  have e2 := h1' j
  rw [e1] at e2
  have e3 : cf (zB q d) j + cf r j + (cf (zB q d) j + cf r' j) = cf (zB q' d) j + cf r' j + (cf (zB q d) j + cf r' j) := by rw [e2]
  rw [F.add4, F.add_self, F.zero_add, F.add4, F.add_self, F.add_zero, F.add_comm (cf (zB q' d) j)] at e3
  exact e3) (fun j hj => by
  rw [zS, ← zY r, ← zY r', zJ _ _ (by omega), zJ _ _ (by omega), F.add_zero]) i (by omega)
 rw [zS] at h3
 have e : cf q i + cf q' i + cf q' i = 0 + cf q' i := by rw [h3]
 rw [F.add_assoc, F.add_self, F.add_zero, F.zero_add] at e
 exact e
theorem zjH {p d q : List F} (h : zbq p d q) : zbq p d (Zn p d) := by
 have h1 : ∃ q, zbq p d q := ⟨q, h⟩
 unfold Zn
 rw [dif_pos h1]
 exact Classical.choose_spec h1
theorem znB {p d q : List F} (h : zbq p d q) (i : Nat) : cf (Zn p d) i = cf q i := ziP (zjH h) h i
theorem zkb {p d q : List F} (h : zbq p d q) : zj (Zn p d) = zj q := Zb _ _ (znB h)
theorem zme {p d : List F} {low : Nat} (hd : (zj d).length = low + 1) : ∀ (m : Nat) (q r : List F), zff p d q r low → (zj r).length ≤ m → ∃ q, zbq p d q
 | 0, q, r, h, hm => ⟨q, r, h.2.2.1, by omega⟩
 | m + 1, q, r, h, hm => by
   rcases Nat.lt_or_ge low (zj r).length with h1 | h1
   ·obtain ⟨t, ht⟩ : ∃ t, (zj r).length = t + 1 := ⟨(zj r).length - 1, by omega⟩
    have hpr : r.length = p.length := h.2.1
    obtain ⟨h2, h3⟩ := zgN (r' := (List.range p.length).map fun i => cf r i + (if t - low ≤ i ∧ i < t - low + (low + 1) then cf r t * (cf d low).inv * cf d (i - (t - low)) else 0)) h ht (by omega) hd _ rfl ⟨by simp, fun i => by
     rcases Nat.lt_or_ge i p.length with hi | hi
     ·exact zy _ _ _ _ hi
     have hle := yD r
     rw [zJ _ _ (by simp; omega), zJ r i (by omega), if_neg (by omega), F.add_zero]⟩
    exact zme hd m _ _ h2 (by omega)
   exact ⟨q, r, h.2.2.1, by omega⟩
theorem zfR (p : List F) {d : List F} (hd : 0 < (zj d).length) : zbq p d (Zn p d) := by
 obtain ⟨low, hlow⟩ : ∃ low, (zj d).length = low + 1 := ⟨(zj d).length - 1, by omega⟩
 obtain ⟨q, h⟩ := zme hlow _ _ _ (zfE p d low) (Nat.le_refl _)
 exact zjH h
theorem zeH {t : List F} {n cols : Nat} {us us' : Nat → List F} (hl : t.length = n * cols) (h : ∀ c, c < cols → ∀ i, i < n → cf (us c) i = cf (us' c) i) : jx t n us = jx t n us' := by
 unfold jx
 refine List.map_congr_left (fun k hk => ?_)
 rw [List.mem_range, hl] at hk
 have hn : 0 < n := by
  rcases Nat.eq_zero_or_pos n with e | e
  ·rw [e] at hk; omega
  exact e
 rw [h (k / n) ((Nat.div_lt_iff_lt_mul hn).2 (by rw [Nat.mul_comm]; exact hk)) (k % n) (Nat.mod_lt _ hn)]
def jQ (N : Nat) (cur : List Int) : List Nat := (List.range N).filter fun h : Nat => decide ((h : Int) ∈ cur)
def JI (N : Nat) (cur : List Int) : List Nat := (List.range N).filter fun h : Nat => decide ((h : Int) ∉ cur)
def zbN (N T : Nat) (cur : List Int) : List Nat := jQ N cur ++ (JI N cur).take (T - (jQ N cur).length)
theorem zns {N T : Nat} {cur : List Int} {h : Nat} (h1 : (h : Int) ∈ cur) (h2 : h < N) : h ∈ zbN N T cur :=
 List.mem_append_left _ (List.mem_filter.2 ⟨List.mem_range.2 h2, decide_eq_true h1⟩)
theorem zma {N T : Nat} {cur : List Int} : ∀ h ∈ zbN N T cur, h < N := fun h hh => by
 rcases List.mem_append.1 hh with e | e
 ·exact List.mem_range.1 (List.mem_filter.1 e).1
 exact List.mem_range.1 (List.mem_filter.1 (List.mem_of_mem_take e)).1
theorem zfw {N T : Nat} {cur : List Int} : (zbN N T cur).Nodup := by
 unfold zbN
 rw [List.nodup_append]
 refine ⟨List.Pairwise.filter _ List.nodup_range, List.Pairwise.sublist (List.take_sublist _ _) (List.Pairwise.filter _ List.nodup_range), fun a ha b hb e => ?_⟩
 have h1 := of_decide_eq_true (List.mem_filter.1 ha).2
 have h2 := of_decide_eq_true (List.mem_filter.1 (List.mem_of_mem_take hb)).2
 rw [e] at h1
 exact h2 h1
theorem zgC {N T : Nat} {cur : List Int} (h : (jQ N cur).length ≤ T) : (zbN N T cur).length ≤ T := by
 unfold zbN
 rw [List.length_append, List.length_take]
 omega
theorem zdF {N K : Nat} (hNK : N + K ≤ 255) {hs : List Nat} (hn : hs.Nodup) (hl : ∀ h ∈ hs, h < N) : Unl (zN N K ++ hs.map ptF) := by
 unfold Unl
 rw [List.nodup_append]
 refine ⟨ZG N K hNK, ?_, fun a ha b hb e => ?_⟩
 ·unfold List.Nodup
  rw [List.pairwise_map]
  refine List.Pairwise.imp_of_mem ?_ hn
  intro a b ha hb hab e
  have h1 := hl a ha
  have h2 := hl b hb
  rcases Nat.lt_or_ge a 255 with h3 | h3
  ·rcases Nat.lt_or_ge b 255 with h4 | h4
   ·exact hab (zfY h3 h4 e)
   omega
  omega
 unfold zN at ha
 obtain ⟨i, hi, rfl⟩ := List.mem_map.1 ha
 obtain ⟨j, hj, rfl⟩ := List.mem_map.1 hb
 have h1 := List.mem_range.1 hi
 have h2 := hl j hj
 rcases Nat.eq_zero_or_pos K with h0 | h0
 ·omega
 have := zfY (by omega) (by omega) e
 omega
noncomputable def Zm (N K : Nat) (d : List F) (hs : List Nat) : List F := zad (zN N K ++ hs.map ptF) (d ++ List.replicate hs.length 0)
def JS (K : Nat) (a b : List F) (c : Nat) : List F := zah (Jn a K c) (Jn b K c)
theorem ZH (K : Nat) (a b : List F) (c : Nat) : (JS K a b c).length = K := by rw [JS, ZI, js]
theorem zfF (K : Nat) (a b : List F) (c : Nat) : JS K a b c = JS K b a c := by
 unfold JS zah
 rw [js, js]
 exact List.map_congr_left (fun i _ => F.add_comm _ _)
theorem znW {xs ys : List F} (hu : Unl xs) : ∃ s, zbu xs ys s := by
 have : ∀ n, n ≤ xs.length → ∃ s, zaI xs ys s n := by
  intro n
  induction n with
  | zero => exact fun _ => ⟨[], zbx xs ys⟩
  | succ n ih =>
    intro hn
    obtain ⟨s, hs⟩ := ih (by omega)
    exact ⟨_, zcm hs (by omega) (zbW hu (by omega)) (Eqv.refl _)⟩
 obtain ⟨s, hs⟩ := this xs.length (Nat.le_refl _)
 exact ⟨s, zen hs rfl⟩
theorem zdM {xs ys : List F} (hu : Unl xs) : zbu xs ys (zad xs ys) := by
 obtain ⟨s, hs⟩ := znW (ys := ys) hu
 rw [zas hu hs]
 exact hs
theorem JA {N K : Nat} (hNK : N + K ≤ 255) {d : List F} (hd : d.length = K) {hs : List Nat} (hn : hs.Nodup) (hl : ∀ h ∈ hs, h < N) :
 (∀ h ∈ hs, ev (Zm N K d hs) (ptF h) = 0) ∧ (∀ i, i < K → ev (Zm N K d hs) ((zN N K).getD i 0) = d.getD i 0) ∧ ∀ i, K + hs.length ≤ i → cf (Zm N K d hs) i = 0 := by
 have hs1 := zH N K
 obtain ⟨h1, h2, h3⟩ := zkj (zdM (ys := d ++ List.replicate hs.length 0) (zdF hNK hn hl)) (by omega) (by simp)
 rw [hs1] at h1
 rw [hs1, List.length_map] at h3
 exact ⟨fun h hh => h2 _ (List.mem_map.2 ⟨h, hh, rfl⟩), h1, h3⟩
theorem ziv {N K : Nat} (hNK : N + K ≤ 255) (a b : List F) (c : Nat) (x : F) : ev (Zm N K (JS K a b c) []) x = zhk N K a c x + zhk N K b c x := by
 have hs1 := zH N K
 have hu := ZG N K hNK
 obtain ⟨_, h2, h3⟩ := JA hNK (ZH K a b c) (hs := []) List.nodup_nil (fun h hh => by cases hh)
 have ha := zdM (ys := Jn a K c) hu
 have hb := zdM (ys := Jn b K c) hu
 unfold zhk
 rw [← ZM]
 refine zbC _ _ (zcH (n := K) (xs := zN N K) (fun i hi => h3 i (by simpa using hi)) (fun i hi => ?_) hu (by omega) (fun y hy => ?_)) x
 ·have := ha.2.1
  have := hb.2.1
  rw [zS, zJ _ _ (by omega), zJ _ _ (by omega), F.add_zero]
 obtain ⟨i, hi, rfl⟩ := zax hy
 rw [hs1] at hi
 rw [h2 i hi, ZM, ha.2.2 i (by omega), hb.2.2 i (by omega)]
 unfold JS
 show cf (zah _ _) i = _
 unfold zah
 exact zy _ _ _ _ (by rw [js]; exact hi)
section
variable (N T K : Nat) (a b : List F) (rs0 : List Ri)
noncomputable def byP (e c : Nat) : List F := Zm N K (JS K a b c) (zbN N T ((ym rs0).getD e []))
noncomputable def usP (e : Nat) (r : Rnd) : Option (Nat → List F) :=
 if r.kind = 2 then some fun c => Zn (zj (zW (byP N T K a b rs0 e c) (byP N T K a b rs0 (e + 1) c))) (zw (zN N K))
 else if r.kind = 3 then (if r.target ∈ r.seen then some fun c => Zn (byP N T K a b rs0 e c) (lin (ptF r.target)) else none)
 else if r.kind = 4 then some fun c => Zn (byP N T K a b rs0 e c) [1] else none
noncomputable def us0 (c : Nat) : List F := Zn (zj (zW (byP N T K a b rs0 0 c) (Zm N K (JS K a b c) []))) (zw (zN N K))
noncomputable def ZB (ts : List (List F)) : List (List F) := jx (ts.getD 0 []) T (us0 N T K a b rs0) :: Ze (yO T K) (usP N T K a b rs0) (rs0.map zM) 0 (ts.drop 1)
noncomputable def zlV (e : Nat) : Ev := fun c h => ev (byP N T K a b rs0 e c) (ptF h)
end
def Ji (T K cols : Nat) : List Ri → List (List F) → Prop
 | [], ts => ts = []
 | r :: rs, ts => r.ds.length ≤ ts.length ∧ (∀ t ∈ ts.take r.ds.length, t.length = zD T K r.kind * cols) ∧ Ji T K cols rs (ts.drop r.ds.length)
theorem zeV (xs : List F) : (zj (zw xs)).length ≤ xs.length + 1 := yR (fun i hi => (jB xs).2 i (by omega))
theorem zeb {d : List F} {i : Nat} (h : cf d i ≠ 0) : 0 < (zj d).length := by
 rcases Nat.eq_zero_or_pos (zj d).length with e | e
 ·exfalso
  apply h
  rw [← zY d i]
  exact zJ _ _ (by omega)
 exact e
section
variable {N T K : Nat} {a b : List F} {rs0 : List Ri}
theorem zaM (hNK : N + K ≤ 255) (e c : Nat) (hcur : (jQ N ((ym rs0).getD e [])).length ≤ T) :
 (∀ h, h < N → (h : Int) ∈ (ym rs0).getD e [] → ev (byP N T K a b rs0 e c) (ptF h) = 0) ∧ (∀ i, i < K → ev (byP N T K a b rs0 e c) ((zN N K).getD i 0) = (JS K a b c).getD i 0) ∧ ∀ i, K + T ≤ i → cf (byP N T K a b rs0 e c) i = 0 := by
 obtain ⟨h1, h2, h3⟩ := JA hNK (ZH K a b c) (zfw (N := N) (T := T) (cur := (ym rs0).getD e [])) zma
 have hl := zgC (N := N) hcur
 exact ⟨fun h hh hm => h1 h (zns hm hh), h2, fun i hi => h3 i (by omega)⟩
theorem zfT {p q : List F} {K' : Nat} (hNK : N + K ≤ 255) (hp : ∀ i, i < K → ev p ((zN N K).getD i 0) = ev q ((zN N K).getD i 0)) (d1 : ∀ i, K + K' ≤ i → cf p i = 0) (d2 : ∀ i, K + K' ≤ i → cf q i = 0) :
 (∀ x, ev (Zn (zj (zW p q)) (zw (zN N K))) x * ev (zw (zN N K)) x = ev p x + ev q x) ∧ ∀ i, K' ≤ i → cf (Zn (zj (zW p q)) (zw (zN N K))) i = 0 := by
 have hs1 := zH N K
 have hpos : 0 < (zj (zw (zN N K))).length := zeb (by rw [(jB (zN N K)).1]; exact F.one_ne)
 obtain ⟨r, h1, h2⟩ := zfR (zj (zW p q)) hpos
 have h3 := zeV (zN N K)
 obtain ⟨h4, h5⟩ := zkq (T := K') (ZG N K hNK) (fun x hx => by
  obtain ⟨i, hi, rfl⟩ := zax hx
  rw [hs1] at hi
  rw [Ju, ZM, hp i hi, F.add_self]) h1 (by omega) (fun i hi => by rw [zY, zS, d1 i (by omega), d2 i (by omega), F.add_zero])
 exact ⟨fun x => by rw [← h4 x, Ju, ZM], h5⟩
theorem Jw {r : Ri} {ce : List Int} (hr : zX N T r) (hk : r.kind ≠ 0) (hce : (jQ N ce).length ≤ T) (hsub : ∀ x ∈ r.sn, x ∈ ce) : ∃ x ∈ (zM r).dealers, x ∉ (zM r).seen := by
 obtain ⟨_, h2, _, _, h5, h6, _⟩ := hr
 rw [if_neg hk] at h2
 have nodupN : ∀ l : List Int, Ris N l → (l.map Int.toNat).Nodup := fun l hl => by
  unfold List.Nodup
  rw [List.pairwise_map]
  refine List.Pairwise.imp_of_mem ?_ (zaU hl)
  intro x y hx hy hxy e
  have := (yp hl hx).1
  have := (yp hl hy).1
  exact hxy (by omega)
 refine zmc _ _ (nodupN _ h5) ?_
 have h7 : ((zM r).seen).length ≤ (jQ N ce).length := zaZ (nodupN _ h6) (fun x hx => by
  obtain ⟨y, hy, rfl⟩ := List.mem_map.1 hx
  obtain ⟨h8, h9⟩ := yp h6 hy
  refine List.mem_filter.2 ⟨List.mem_range.2 (by omega), decide_eq_true ?_⟩
  rw [Int.toNat_of_nonneg h8]
  exact hsub y hy)
 show _ < (r.ds.map Int.toNat).length
 rw [List.length_map]
 omega
theorem zaK : ∀ (rs : List Ri) (cur : List Int), ∃ c0 tl, jm rs cur = c0 :: tl ∧ ∀ x ∈ cur, x ∈ c0
 | [], cur => ⟨cur, [], rfl, fun _ h => h⟩
 | r :: rs, cur => by
   unfold jm
   by_cases hk : r.kind = 2
   ·rw [if_pos hk]
    exact ⟨_, _, rfl, fun x hx => List.mem_append_left _ hx⟩
   rw [if_neg hk]
   obtain ⟨c0, tl, h1, h2⟩ := zaK rs (cur ++ r.sn)
   exact ⟨c0, tl, h1, fun x hx => h2 x (List.mem_append_left _ hx)⟩
theorem zdr (hT : 1 ≤ T) (hK : 1 ≤ K) (hNK : N + K ≤ 255) {cols : Nat} (hE : ∀ c ∈ ym rs0, (jQ N c).length ≤ T) : ∀ (rs : List Ri) (old : List (List Int)) (cur : List Int) (ts : List (List F)), ym rs0 = old ++ jm rs cur → (∀ r ∈ rs, zX N T r) → Ji T K cols rs ts →
 zeC cols (Jm N K) (yO T K) ptF (zlV N T K a b rs0) (usP N T K a b rs0) (rs.map zM) old.length ts
 | [], old, cur, ts, _, _, _ => trivial
 | r :: rs, old, cur, ts, he, hr, hl => by
   obtain ⟨l1, l2, l3⟩ := hl
   have hr1 := hr r (List.mem_cons_self ..)
   have hsn : ∀ x ∈ r.sn, 0 ≤ x ∧ x < (N : Int) := fun x hx => yp hr1.2.2.2.2.2.1 hx
   have hdl : (zM r).dealers.length = r.ds.length := by show (r.ds.map Int.toNat).length = _; rw [List.length_map]
   obtain ⟨ce, hce, hcm, hcs⟩ : ∃ ce, (ym rs0).getD old.length [] = ce ∧ ce ∈ ym rs0 ∧ ∀ x ∈ r.sn, x ∈ ce := by
    rw [he]
    unfold jm
    by_cases hk : r.kind = 2
    ·rw [if_pos hk, ji]
     exact ⟨_, rfl, List.mem_append_right _ (List.mem_cons_self ..), fun x hx => List.mem_append_right _ hx⟩
    rw [if_neg hk]
    obtain ⟨c0, tl, h1, h2⟩ := zaK rs (cur ++ r.sn)
    rw [h1, ji]
    exact ⟨_, rfl, List.mem_append_right _ (List.mem_cons_self ..), fun x hx => h2 x (List.mem_append_right _ hx)⟩
   have hnx : r.kind = 2 → ∃ cn, (ym rs0).getD (old.length + 1) [] = cn ∧ cn ∈ ym rs0 ∧ ∀ x ∈ r.sn, x ∈ cn := fun hk => by
    rw [he]
    unfold jm
    rw [if_pos hk]
    obtain ⟨c0, tl, h1, h2⟩ := zaK rs r.sn
    rw [h1]
    have e1 : old ++ (cur ++ r.sn) :: c0 :: tl = (old ++ [cur ++ r.sn]) ++ c0 :: tl := by rw [List.append_assoc]; rfl
    have e2 : old.length + 1 = (old ++ [cur ++ r.sn]).length := by rw [List.length_append]; rfl
    rw [e1, e2, ji]
    exact ⟨_, rfl, List.mem_append_right _ (List.mem_cons_self ..), h2⟩
   have zero_at : ∀ e ce, (ym rs0).getD e [] = ce → ce ∈ ym rs0 → (∀ x ∈ r.sn, x ∈ ce) → ∀ h ∈ (zM r).seen, ∀ c, c < cols → zlV N T K a b rs0 e c h = 0 := fun e ce h1 h2 h3 h hh c hc => by
    obtain ⟨x, hx, rfl⟩ := List.mem_map.1 hh
    obtain ⟨h4, h5⟩ := hsn x hx
    have h6 := (zaM (a := a) (b := b) (rs0 := rs0) (T := T) hNK e c (by rw [h1]; exact hE ce h2)).1 x.toNat (by omega) (by rw [h1, Int.toNat_of_nonneg h4]; exact h3 x hx)
    exact h6
   have hb := fun c => zaM (a := a) (b := b) (rs0 := rs0) (T := T) hNK old.length c (by rw [hce]; exact hE ce hcm)
   refine ⟨by rw [hdl]; exact l1, by rw [hdl]; exact l2, zero_at _ ce hce hcm hcs, fun hk => ?_, ?_, ?_⟩
   ·obtain ⟨cn, h1, h2, h3⟩ := hnx hk
    exact zero_at _ cn h1 h2 h3
   ·have hkk : (zM r).kind = r.kind := rfl
    unfold usP
    rw [hkk]
    by_cases k2 : r.kind = 2
    ·rw [if_pos k2]
     obtain ⟨cn, n1, n2, n3⟩ := hnx k2
     have hb' := fun c => zaM (a := a) (b := b) (rs0 := rs0) (T := T) hNK (old.length + 1) c (by rw [n1]; exact hE cn n2)
     have hq := fun c => zfT (K' := T) hNK (p := byP N T K a b rs0 old.length c) (q := byP N T K a b rs0 (old.length + 1) c) (fun i hi => by rw [(hb c).2.1 i hi, (hb' c).2.1 i hi]) (hb c).2.2 (hb' c).2.2
     refine ⟨.inl k2, Jw hr1 (by omega) (hE ce hcm) hcs, fun c _ i hi => (hq c).2 i ?_, fun c h _ => ?_⟩
     ·have : yO T K (zM r) = T := by unfold yO zD; rw [hkk, k2]; simp
      omega
     rw [if_pos k2]
     have : Jm N K (zM r) (ptF h) = ev (zw (zN N K)) (ptF h) := by unfold Jm yk; rw [hkk, if_pos k2]
     rw [this]
     exact (hq c).1 (ptF h)
    rw [if_neg k2]
    by_cases k3 : r.kind = 3
    ·rw [if_pos k3]
     by_cases hs : (zM r).target ∈ (zM r).seen
     ·rw [if_pos hs]
      have hz : ∀ c, ev (byP N T K a b rs0 old.length c) (ptF (zM r).target) = 0 := fun c => by
       obtain ⟨x, hx, hx2⟩ := List.mem_map.1 hs
       obtain ⟨h4, h5⟩ := hsn x hx
       rw [← hx2]
       exact (hb c).1 x.toNat (by omega) (by rw [hce, Int.toNat_of_nonneg h4]; exact hcs x hx)
      have hq : ∀ c, (∀ x, ev (byP N T K a b rs0 old.length c) x = ev (Zn (byP N T K a b rs0 old.length c) (lin (ptF (zM r).target))) x * ev (lin (ptF (zM r).target)) x) ∧ ∀ i, T + K - 1 ≤ i → cf (Zn (byP N T K a b rs0 old.length c) (lin (ptF (zM r).target))) i = 0 := fun c => by
       have hpos : 0 < (zj (lin (ptF (zM r).target))).length := zeb (i := 1) F.one_ne
       obtain ⟨q, h1, h2⟩ := zfR (byP N T K a b rs0 old.length c) hpos
       have h3 := yD (lin (ptF (zM r).target))
       have h4 : (lin (ptF (zM r).target)).length = 2 := rfl
       exact znV (T := T + K - 1) (hz c) h1 (by omega) (fun i hi => (hb c).2.2 i (by omega))
      refine ⟨.inr (.inl k3), Jw hr1 (by omega) (hE ce hcm) hcs, fun c _ i hi => (hq c).2 i ?_, fun c h _ => ?_⟩
      ·have : yO T K (zM r) = T + K - 1 := by unfold yO zD; rw [hkk, k3]; simp
       omega
      rw [if_neg k2]
      have : Jm N K (zM r) (ptF h) = ev (lin (ptF (zM r).target)) (ptF h) := by unfold Jm yk; rw [hkk, if_neg k2, if_pos k3]
      rw [this]
      exact ((hq c).1 (ptF h)).symm
     rw [if_neg hs]
     exact .inr ⟨k3, hs⟩
    rw [if_neg k3]
    by_cases k4 : r.kind = 4
    ·rw [if_pos k4]
     have hq : ∀ c, (∀ x, ev (byP N T K a b rs0 old.length c) x = ev (Zn (byP N T K a b rs0 old.length c) [1]) x * ev [1] x) ∧ ∀ i, T + K ≤ i → cf (Zn (byP N T K a b rs0 old.length c) [1]) i = 0 := fun c => by
      have hpos : 0 < (zj ([1] : List F)).length := zeb (i := 0) F.one_ne
      obtain ⟨q, h1, h2⟩ := zfR (byP N T K a b rs0 old.length c) hpos
      have h3 := yD ([1] : List F)
      simp only [List.length_singleton] at h3
      exact zmZ (T := T + K) h1 (by omega) (fun i hi => (hb c).2.2 i (by omega))
     refine ⟨.inr (.inr k4), Jw hr1 (by omega) (hE ce hcm) hcs, fun c _ i hi => (hq c).2 i ?_, fun c h _ => ?_⟩
     ·have : yO T K (zM r) = T + K := by unfold yO zD; rw [hkk, k4]; simp
      omega
     rw [if_neg k2]
     have : Jm N K (zM r) (ptF h) = ev [1] (ptF h) := by unfold Jm yk; rw [hkk, if_neg k2, if_neg k3]
     rw [this]
     exact ((hq c).1 (ptF h)).symm
    rw [if_neg k4]
    left
    rcases hr1.1 with h | h | h | h
    ·exact h
    ·exact absurd h k2
    ·exact absurd h k3
    exact absurd h k4
   have hkk : (zM r).kind = r.kind := rfl
   rw [hkk, hdl]
   unfold jm at he
   by_cases k2 : r.kind = 2
   ·rw [if_pos k2] at he ⊢
    have h1 := zdr hT hK hNK hE rs (old ++ [cur ++ r.sn]) r.sn _ (by rw [he, List.append_assoc]; rfl) (fun x hx => hr x (List.mem_cons_of_mem _ hx)) l3
    rw [List.length_append] at h1
    exact h1
   rw [if_neg k2] at he ⊢
   exact zdr hT hK hNK hE rs old (cur ++ r.sn) _ he (fun x hx => hr x (List.mem_cons_of_mem _ hx)) l3
end
theorem zkP {N T K : Nat} {a b : List F} {rs : List Ri} (hT : 1 ≤ T) (hK : 1 ≤ K) (hNK : N + K ≤ 255) (hab : a.length = b.length) (hE : ∀ c ∈ ym rs, (jQ N c).length ≤ T) (hr : ∀ r ∈ rs, zX N T r) {t0 : List F} {ts : List (List F)} (h0 : t0.length = T * ye a.length K) (hl : Ji T K (ye a.length K) rs ts) :
 jD N T K b rs (ZB N T K a b rs (t0 :: ts)) = jD N T K a rs (t0 :: ts) := by
 unfold jD ZB
 rw [← hab]
 simp only [List.getD_cons_zero, List.drop_succ_cons, List.drop_zero]
 refine zaL (δ := zlV N T K a b rs) N (ye a.length K) (Jm N K) (yO T K) ptF (rs.map zM) 0 _ _ ts (zdr hT hK hNK hE rs [] [] ts (by rw [ZF]; rfl) hr hl) (fun c h hc => ?_)
 obtain ⟨c0, tl, h1, _⟩ := zaK rs []
 have hb := fun c => zaM (a := a) (b := b) (rs0 := rs) (T := T) hNK 0 c (hE _ (by rw [ZF, h1]; exact List.mem_cons_self ..))
 have hp := fun c => JA hNK (ZH K a b c) (hs := []) List.nodup_nil (fun h hh => by cases hh)
 have hq := fun c => zfT (K' := T) hNK (p := byP N T K a b rs 0 c) (q := Zm N K (JS K a b c) []) (fun i hi => by rw [(hb c).2.1 i hi, (hp c).2.1 i hi]) (hb c).2.2 (fun i hi => (hp c).2.2 i (by simp only [List.length_nil]; omega))
 have h2 := zif (cols := ye a.length K) (T := T) (tape := t0) (us := us0 N T K a b rs) (rt := ev (zw (zN N K))) (a := zhk N K a) (b := zhk N K b) (δ := fun c x => ev (byP N T K a b rs 0 c) x) h0 (fun c _ i hi => (hq c).2 i hi) (fun c x _ => by
  rw [← ziv hNK a b c x]
  exact (hq c).1 x) c hc (ptF h)
 exact h2
end Go.Proofs.Ytpeiejkcoadhfaa
namespace Go.Proofs.Ytpeiejkcoadhfaa
section
variable {N T K : Nat} {a b : List F} {rs : List Ri}
theorem zgK : byP N T K a b rs = byP N T K b a rs := by
 funext e c
 unfold byP
 rw [zfF]
theorem zmA : usP N T K a b rs = usP N T K b a rs := by
 funext e r
 unfold usP
 rw [zgK]
theorem zmK : us0 N T K a b rs = us0 N T K b a rs := by
 funext c
 unfold us0
 rw [zgK, zfF]
theorem zbL : ∀ {rs : List Ri} {cols : Nat} {ts : List (List F)}, Ji T K cols rs ts → zkG (rs.map zM) ts
 | [], _, _, h => h
 | r :: rs, cols, ts, ⟨h1, _, h3⟩ => by
   have e : (zM r).dealers.length = r.ds.length := by show (r.ds.map Int.toNat).length = _; rw [List.length_map]
   refine ⟨by rw [e]; exact h1, ?_⟩
   rw [e]
   exact zbL h3
theorem zkU {t0 : List F} {ts : List (List F)} (h : zkG (rs.map zM) ts) : ZB N T K b a rs (ZB N T K a b rs (t0 :: ts)) = t0 :: ts := by
 unfold ZB
 simp only [List.getD_cons_zero, List.drop_succ_cons, List.drop_zero]
 rw [zmK (a := b), zmA (a := b), zfa, zcJ _ _ _ _ _ h]
theorem zck {t0 : List F} {ts : List (List F)} (h : zkG (rs.map zM) ts) : (ZB N T K a b rs (t0 :: ts)).map List.length = (t0 :: ts).map List.length := by
 unfold ZB
 simp only [List.getD_cons_zero, List.drop_succ_cons, List.drop_zero, List.map_cons]
 rw [yK, zea _ _ _ _ _ h]
end
theorem zlM {T K cols : Nat} : ∀ (rs : List Ri) (ts : List (List F)), (ts.map fun t => (t.length : Int)) = (rs.flatMap fun r => r.ds.map fun _ => ((zD T K r.kind * cols : Nat) : Int)) → Ji T K cols rs ts
 | [], ts, h => by
   rw [List.flatMap_nil, List.map_eq_nil_iff] at h
   exact h
 | r :: rs, ts, h => by
   rw [List.flatMap_cons] at h
   have hl : r.ds.length ≤ ts.length := by
    have := congrArg List.length h
    rw [List.length_map, List.length_append, List.length_map] at this
    omega
   refine ⟨hl, fun t ht => ?_, zlM rs _ ?_⟩
   ·have h1 := congrArg (List.take r.ds.length) h
    rw [← List.map_take, List.take_left' (by rw [List.length_map])] at h1
    have h2 : (t.length : Int) ∈ (ts.take r.ds.length).map fun t => (t.length : Int) := List.mem_map.2 ⟨t, ht, rfl⟩
    rw [h1] at h2
    obtain ⟨_, _, h3⟩ := List.mem_map.1 h2
    omega
   have h1 := congrArg (List.drop r.ds.length) h
   rw [← List.map_drop, List.drop_left' (by rw [List.length_map])] at h1
   exact h1
theorem zap {N T K : Nat} {E Rm size : Int} {rs : List Ri} {ts : List (List F)} (h : yv N T K E Rm size rs (ts.map List.length)) : ∃ t0 tl, ts = t0 :: tl ∧ t0.length = T * ye size.toNat K ∧ Ji T K (ye size.toNat K) rs tl ∧ (∀ r ∈ rs, zX N T r) ∧ (∀ c ∈ ym rs, (jQ N c).length ≤ T) ∧ 1 ≤ T ∧ 1 ≤ K ∧ N + K ≤ 255 ∧ T + K ≤ N := by
 obtain ⟨⟨hg, _, _, _, hr, he⟩, hl⟩ := h
 rw [List.map_map] at hl
 simp only [Int.toNat_natCast] at hl
 obtain ⟨g1, g2, g3, g4, g5, g6, g7, g8, g9, g10, g11, g12⟩ := hg
 cases ts with
 | nil => unfold ZL at hl; simp at hl
 | cons t0 tl =>
   unfold ZL at hl
   rw [List.map_cons] at hl
   injection hl with h1 h2
   have h1' : ((t0.length : Nat) : Int) = ((T * ye size.toNat K : Nat) : Int) := h1
   refine ⟨t0, tl, rfl, by omega, zlM rs tl h2, hr, fun c hc => ?_, by omega, by omega, by omega, by omega⟩
   have h3 := he c hc
   have h4 : (jQ N c).length ≤ (nd c).length := by
    have e : (jQ N c).length = ((jQ N c).map fun h : Nat => (h : Int)).length := by rw [List.length_map]
    rw [e]
    refine zaZ ?_ (fun x hx => ?_)
    ·unfold List.Nodup
     rw [List.pairwise_map]
     refine List.Pairwise.imp ?_ (List.Pairwise.filter _ List.nodup_range)
     intro x y hxy e
     exact hxy (by omega)
    obtain ⟨y, hy, rfl⟩ := List.mem_map.1 hx
    exact (zbB c _).2 (of_decide_eq_true (List.mem_filter.1 hy).2)
   omega
theorem zbt {N T K : Nat} {E Rm size : Int} {rs : List Ri} {ts : List (List F)} {a b : List F} (h : yv N T K E Rm size rs (ts.map List.length)) : yv N T K E Rm size rs ((ZB N T K a b rs ts).map List.length) := by
 obtain ⟨t0, tl, rfl, _, h1, _⟩ := zap h
 rw [zck (zbL h1)]
 exact h
theorem zfO {N T K : Nat} {E Rm : Int} {rs : List Ri} {ts : List (List F)} {a b : List F} (hab : a.length = b.length) (h : yv N T K E Rm a.length rs (ts.map List.length)) : jD N T K b rs (ZB N T K a b rs ts) = jD N T K a rs ts ∧ ZB N T K b a rs (ZB N T K a b rs ts) = ts := by
 obtain ⟨t0, tl, rfl, h0, h1, hr, he, hT, hK, hNK, _⟩ := zap h
 rw [Int.toNat_natCast] at h0 h1
 exact ⟨zkP hT hK hNK hab he hr h0 h1, zkU (zbL h1)⟩
end Go.Proofs.Ytpeiejkcoadhfaa
namespace Go.Proofs.Ytpeiejkcoadhfaa
open Go.RowKit Go.Shelf Go.Proofs.YtpeiejkcoadhfaaW.PrintWords Go.Proofs.YtpeiejkcoadhfaaW.PrintMore
open Go.BigFrame
theorem zdC {N T K E Rm size : Int} {rs : List Ri} {ls : List Nat} : yv N T K E Rm size rs ls ↔ (jZ N T K E Rm size rs).length ≠ 0 ∧ (ls.map fun l : Nat => (l : Int)) = jZ N T K E Rm size rs := by
 unfold yv jZ
 by_cases h : zbR N T K E Rm size rs
 ·rw [if_pos h]
  exact ⟨fun h2 => ⟨by unfold ZL; simp, h2.2⟩, fun h2 => ⟨h, h2.2⟩⟩
 rw [if_neg h]
 exact ⟨fun h2 => absurd h2.1 h, fun h2 => absurd rfl h2.1⟩
theorem zbA {W : World} {A : Option Addr} {n : Nat} {qs : List (List F)} (h : PL W A n qs) : qs.length = n := by obtain ⟨_, _, h, _⟩ := h; exact h
set_option maxRecDepth 100000 in
set_option maxHeartbeats 3200000 in
theorem zbc (w : World) (N T K E Rm size : Int) (A : Option Addr) (n c : Nat) (rs : List Ri) (hR : RL w A n rs) (hn : n ≤ 9223372036854775807) (hsm : ∀ r ∈ rs, r.ds.length ≤ 9223372036854775807 ∧ r.sn.length ≤ 9223372036854775807) (hN : -9223372036854775808 ≤ N ∧ N ≤ 9223372036854775807)
 (B : Option Addr) (m d : Nat) (ts : List (List F)) (hT : PL w B m ts) (hm : m ≤ 9223372036854775807) :
 Calls Try.prog 105 #[zv N T K E Rm, .int .i64 size, .slice A n c, .slice B m d] w fun e w' => e = .returned (.bool (decide (yv N T K E Rm size rs (ts.map List.length)))) ∧ Below w.heap.size w w' := by
 obtain ⟨W0, hW0, hz0, a0, hb0⟩ := zU w (Obj.cells #[.int .i64 N, .int .i64 T, .int .i64 K, .int .i64 E, .int .i64 Rm] 48)
 have HTA := za.mk (zky W0 N T K E Rm size A n c rs (zA hR hb0) hn hsm hN)
 have HB0 := za.mk hb0
 have HT := za.mk hT
 have HTL := za.mk (zbA hT)
 obtain ⟨res, hres⟩ : ∃ res, res = decide (yv N T K E Rm size rs (ts.map List.length)) := ⟨_, rfl⟩
 have HRES : za (res = decide ((jZ N T K E Rm size rs).length ≠ 0 ∧ ((ts.map List.length).map fun l : Nat => (l : Int)) = jZ N T K E Rm size rs)) := ⟨by rw [hres, decide_eq_decide]; exact zdC⟩
 rw [← hres]
 obtain ⟨wl, hwl⟩ : ∃ wl, wl = jZ N T K E Rm size rs := ⟨_, rfl⟩
 rw [← hwl] at HTA HRES
 obtain ⟨ls, hls⟩ : ∃ ls, ls = (ts.map List.length).map fun l : Nat => (l : Int) := ⟨_, rfl⟩
 rw [← hls] at HRES
 have HLS : za (ls.length = m ∧ ∀ k, ls.getD k 0 = ((ts.getD k []).length : Int)) := ⟨by
  rw [hls]
  refine ⟨by rw [List.length_map, List.length_map]; exact HTL.out, fun k => ?_⟩
  rw [List.getD_eq_getElem?_getD, List.getD_eq_getElem?_getD, List.getElem?_map, List.getElem?_map]
  cases ts[k]? <;> rfl⟩
 rw [hW0] at HTA HB0
 have hu48 := Try.underlying48
 clear hres hR hT hsm hW0 hz0 a0 hb0 hwl hls
 obtain ⟨k0, hk0⟩ : ∃ k0, k0 = wl.length := ⟨_, rfl⟩
 rw [← hk0] at HTA HRES
 have HK0 := za.mk hk0
 unfold zv at *
 by_cases c1 : k0 = 0
 ·have HX : za (res = false) := ⟨by rw [HRES.out]; exact decide_eq_false (fun h => h.1 c1)⟩
  subst c1
  clear hk0
  go_enter Try.func105, Try.ntmps105
  go_wp2_with (go_at_call 68; with_reducible refine HTA.out.mono ?_; rintro e w1 ⟨X, dx, rfl, hX, hb1⟩; have HB1 := za.mk (HB0.out.trans (hb1.mono HB0.out.size)); clear hb1 hX)
  go_ret
  exact ⟨by rw [HX.out]; rfl, HB1.out⟩
 have e1 : ((k0 : Int) == 0) = false := by simp; exact c1
 by_cases c2 : k0 = m
 ·have e2 : ((k0 : Int) != (m : Int)) = false := by simp; omega
  have HRE2 : za (res = decide (ls = wl)) := ⟨by
   rw [HRES.out, decide_eq_decide]
   exact ⟨fun h => h.2, fun h => ⟨c1, h⟩⟩⟩
  clear hk0
  go_enter Try.func105, Try.ntmps105
  go_wp2_with (go_at_call 68; with_reducible refine HTA.out.mono ?_; rintro e w1 ⟨X, dx, rfl, hX, hb1⟩; have HB1 := za.mk (HB0.out.trans (hb1.mono HB0.out.size)); have HX := za.mk (R_C hX); clear hb1 hX)
  go_loopw [28] (fun v28 wr => ∃ (k t : Nat), k ≤ m ∧ v28 = .int .i64 k ∧ wr = w1.drewN t ∧ za (ls.take k = wl.take k)) (fun v28 _ => m - (intOf v28).toNat)
  case atStart => exact ⟨0, 0, by omega, rfl, rfl, ⟨by simp⟩⟩
  obtain ⟨k, t, hk, rfl, rfl, HTK⟩ := hrel
  by_cases hlt : k < m
  ·obtain ⟨ad, Bq, cq, rfl, hcell, _, _⟩ := jV (zG HT.out HB1.out) k hlt
   obtain ⟨adx, rfl, hx⟩ := zbf HX.out (Fr.refl (fun _ => False) w1) (fun _ h => h.elim) k (by omega)
   have hlen : k < ls.length := by rw [HLS.out.1]; exact hlt
   have hlk := HLS.out.2 k
   obtain ⟨q, hq⟩ : ∃ q, q = (ts.getD k []).length := ⟨_, rfl⟩
   rw [← hq] at hcell hlk
   obtain ⟨y, hy⟩ : ∃ y, y = wl.getD k 0 := ⟨_, rfl⟩
   rw [← hy] at hx
   have hjI : (k : Int) < (m : Int) := by omega
   have hkI : (k : Int) < (k0 : Int) := by omega
   by_cases c3 : (q : Int) = y
   ·have e3 : ((q : Int) != y) = false := by simp; exact c3
    have HN : za (ls.take (k + 1) = wl.take (k + 1)) := ⟨by rw [zK 0 ls k hlen, zK 0 wl k (by rw [← HK0.out]; omega), HTK.out, hlk, ← hy, c3]⟩
    clear hq hy hlk hlen c3
    go_wp2
    go_roundw
    case rel => exact ⟨k + 1, t, by omega, by go_num, rfl, HN⟩
    simp [intOf]; omega
   have e3 : ((q : Int) != y) = true := by simp; exact c3
   have HY : za (res = false) := ⟨by rw [HRE2.out]; exact decide_eq_false (fun h => c3 (by rw [← hlk, h, hy]))⟩
   clear hq hy hlk hlen c3
   go_wp2
   go_ret
   exact ⟨by rw [HY.out]; rfl, zb HB1.out t⟩
  obtain rfl : k = m := by omega
  have HY : za (res = true) := ⟨by
   rw [HRE2.out, decide_eq_true_iff]
   have h := HTK.out
   rwa [List.take_of_length_le (by rw [HLS.out.1]; exact Nat.le_refl _), List.take_of_length_le (by rw [← HK0.out, c2]; exact Nat.le_refl _)] at h⟩
  go_wp2
  go_ret
  exact ⟨by rw [HY.out]; rfl, zb HB1.out t⟩
 have e2 : ((k0 : Int) != (m : Int)) = true := by simp; omega
 have HY : za (res = false) := ⟨by rw [HRES.out]; exact decide_eq_false (fun h => c2 (by rw [HK0.out, ← h.2, HLS.out.1]))⟩
 clear hk0
 go_enter Try.func105, Try.ntmps105
 go_wp2_with (go_at_call 68; with_reducible refine HTA.out.mono ?_; rintro e w1 ⟨X, dx, rfl, hX, hb1⟩; have HB1 := za.mk (HB0.out.trans (hb1.mono HB0.out.size)); clear hb1 hX)
 go_ret
 exact ⟨by rw [HY.out]; rfl, HB1.out⟩
end Go.Proofs.Ytpeiejkcoadhfaa
namespace Go.Proofs.Ytpeiejkcoadhfaa
open Go.RowKit Go.Shelf Go.Proofs.YtpeiejkcoadhfaaW.PrintWords Go.Proofs.YtpeiejkcoadhfaaW.PrintMore
open Go.BigFrame
attribute [local go_sem] Oper.semAt_some
theorem zgy {W : World} {a : Nat} {x : F} (h : W.heap[a]? = some (.cells #[.int .u8 x.v] 5 (0, 0))) : Kd.C fk W (some ⟨a, 0, none⟩) 1 [x] := by
 refine Kd.C_of_reads (d := (0 : F)) ⟨rfl, by decide, fun _ => ⟨⟨a, 0, none⟩, rfl, fun j hj => ?_⟩⟩
 obtain rfl : j = 0 := by simp at hj; omega
 rw [yi]
 exact zh h rfl
theorem zph {W : World} {b N : Nat} {A : Option Addr} {len cap : Nat} {ok : Bool} {qs : List (List F)} (h : SV W b N A len cap ok qs) (e : ok = true) : ∃ g, A = some ⟨g, 0, none⟩ ∧ len = N ∧ cap = N ∧ b ≤ g ∧ yP W b (fun _ => True) g N (yH N qs) := by
 unfold SV at h
 rwa [if_pos e] at h
abbrev ki : Kd Int := Kd.int .i64
theorem jS : ZA Try.prog ki 3 (fun x => (Lit.int .i64 x).wf = true) (fun _ => 1) := zfu 3 .i64 Try.underlying3 (by kernel_rfl)
theorem zes : ZA Try.prog (Kd.slice 3 ki) 50 (fun l => ∀ a ∈ l, (Lit.int .i64 a).wf = true) (fun l => (l.map fun _ => 1).sum + 1) := Jt 50 Try.underlying50 (by kernel_rfl) jS
abbrev Par : Type := Int × Int × Int × Int × Int
abbrev kpar : Kd Par := Kd.iso (Kd.pair ki (Kd.pair ki (Kd.pair ki (Kd.pair ki ki)))) id
def wfI (x : Int) : Prop := (Lit.int .i64 x).wf = true
def zou (p : Par) : Prop := wfI p.1 ∧ wfI p.2.1 ∧ wfI p.2.2.1 ∧ wfI p.2.2.2.1 ∧ wfI p.2.2.2.2
theorem zgr : ZA Try.prog kpar 48 zou (fun _ => 1 + (1 + (1 + (1 + 1))) + 1) :=
 JZ 48 _ Try.underlying48 (by kernel_rfl) (yT _ _ 0 rfl jS (yT _ _ 1 rfl jS (yT _ _ 2 rfl jS (yT _ _ 3 rfl jS (zbD _ 4 rfl jS))))) id id (fun _ => rfl)
theorem JT (l : List Int) (h : ∀ a ∈ l, (Lit.int .u8 a).wf = true) : ∃ p : List F, bs p = l := by
 induction l with
 | nil => exact ⟨[], rfl⟩
 | cons a l ih =>
   obtain ⟨p, hp⟩ := ih (fun b hb => h b (List.mem_cons_of_mem _ hb))
   obtain ⟨n, rfl, hn⟩ := zpS (h a (List.mem_cons_self ..))
   exact ⟨⟨n, hn⟩ :: p, by simp [bs, ← hp]⟩
theorem zia {cols en : Nat} {fs rnd : List F} : ∀ q ∈ yj cols en fs rnd, q.length ≤ fs.length + en + 1 := fun q hq => by
 obtain ⟨j, _, rfl⟩ := List.mem_map.1 hq
 exact yR (fun i hi => yZ fs (yn rnd en j) (fs.length + 1) en (fun k hk => zJ _ _ (by omega)) (fun k hk => zJ _ _ (by simp [yn]; omega)) i (by omega) (by omega))
end Go.Proofs.Ytpeiejkcoadhfaa
