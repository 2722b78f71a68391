/- What the view's laws take, Vu32: PzL. -/
import Derived.Test.YtpeiejkcoadhfaaVu23
set_option linter.all false
namespace Go.Proofs.Ytpeiejkcoadhfaa
open Go.RowKit Go.Shelf Go.Proofs.YtpeiejkcoadhfaaW.PrintWords Go.Proofs.YtpeiejkcoadhfaaW.PrintMore
open Go.BigFrame
attribute [local go_sem] Oper.semAt_some
set_option maxRecDepth 100000 in
set_option maxHeartbeats 1600000 in
theorem zmF (w : World) (g N T K : Nat) (E Rm : Int) (A R : Option Addr) (n c m mc : Nat) (data : List F) (hd : Kd.C fk w A n data) (hc : n ≤ c) (hn : n ≤ 1000000) (hT : T ≤ 1000) (hK : K ≤ 255) (hK1 : 1 ≤ K) (hne : m ≠ T * ye n K) :
 Calls Try.prog 51 #[.pointer (some ⟨g, 0, none⟩), zv N T K E Rm, .slice A n c, .slice R m mc] w fun e w' => e = .returned (.tuple #[.slice none 0 0, .bool false]) ∧ Fr (fun _ => False) w w' := by
 have hnl := Zx n K hK1
 have HN := za.mk (fun W => zaj W N T K E Rm 1 (ye n K) hT (by omega) (by omega) (by omega))
 have HSP := za.mk (fun W (h : Kd.C fk W A n data) => zcp W A n c K (bs data) (Jz.2 h) hc hK1 hK (by omega))
 have he1 : zD T K 1 = T := by simp [zD]
 rw [he1] at HN
 generalize ye n K = nc at *
 obtain ⟨q, hq⟩ : ∃ q, q = T * nc := ⟨_, rfl⟩
 rw [← hq] at HN hne
 have hnb : ((m : Int) != (q : Int)) = true := by simp; omega
 have HD := za.mk hd
 clear hd hq he1
 have hu48 := Try.underlying48
 unfold zv at *
 obtain ⟨w0, hw0, hz0, a0, a1, hb0⟩ := zey w (Obj.cells #[Value.pointer (some { block := g, off := 0 })] 23) (Obj.cells #[Value.int IntKind.i64 ↑N, Value.int IntKind.i64 ↑T, Value.int IntKind.i64 ↑K, Value.int IntKind.i64 E, Value.int IntKind.i64 Rm] 48)
 have HB0 := za.mk hb0
 have HZ0 := za.mk hz0
 have HW0 := za.mk hw0
 have HA0 := za.mk a0
 have HG : za (∀ W, Below w0.heap.size w0 W → W.cell? ⟨w.heap.size + 1, 0, none⟩ = some (.int .i64 N) ∧ W.cell? ⟨w.heap.size + 1, 1, none⟩ = some (.int .i64 T) ∧ W.cell? ⟨w.heap.size + 1, 2, none⟩ = some (.int .i64 K) ∧ W.cell? ⟨w.heap.size + 1, 3, none⟩ = some (.int .i64 E) ∧ W.cell? ⟨w.heap.size + 1, 4, none⟩ = some (.int .i64 Rm)) :=
  ⟨fun W hW => by
    have h1 := zl a1 hW
    exact ⟨zh h1 rfl, zh h1 rfl, zh h1 rfl, zh h1 rfl, zh h1 rfl⟩⟩
 clear hw0 hz0 a0 a1 hb0
 go_enter Try.func51, Try.ntmps51
 go_wp2_with (first | (go_at_call 37; refine (HSP.out _ ?_).mono ?_; (exact Kd.C_below HD.out (zc (zc (Below.refl _ _) _) _)); rintro e W1 ⟨B, d, rfl, hS, hf1⟩; rw [← HW0.out] at hf1; clear hS; obtain ⟨v0, v1, v2, v3, v4⟩ := HG.out (W1.alloc (.cells #[.slice B nc d] 37)) (yh (hf1.below (Nat.le_refl _) (fun _ h => h.elim)) hf1.size (zc (Below.refl _ W1) _)); replace hf1 := za.mk hf1) | (go_at_call 49; refine (HN.out _).mono ?_; rintro e W2 ⟨rfl, hb1⟩; replace hb1 := za.mk hb1))
 go_ret2
 exact ⟨rfl, ((((Fr.of_below HB0.out _).trans' hf1.out).alloc _)).below_ hb1.out⟩
set_option maxRecDepth 100000 in
set_option maxHeartbeats 40000000 in
theorem zkN (w : World) (g N T K : Nat) (E Rm : Int) (A R : Option Addr) (n c m mc : Nat) (data rnd : List F) (hF : Fld w g) (hd : Kd.C fk w A n data) (hr : Kd.C fk w R m rnd) (hc : n ≤ c) (hmc : m ≤ mc) (hn : n ≤ 100000) (hN : N ≤ 1000) (hT : T ≤ 1000) (hK : K ≤ 255) (hK1 : 1 ≤ K) (hNK : N + K ≤ 255) (hm : m = T * ye n K) :
 Calls Try.prog 51 #[.pointer (some ⟨g, 0, none⟩), zv N T K E Rm, .slice A n c, .slice R m mc] w fun e w' => ∃ b, e = .returned (.tuple #[.slice (some ⟨b, 0, none⟩) N N, .bool true]) ∧ w.heap.size ≤ b ∧ yP w' w.heap.size (fun _ => True) b N (yH N (jl N T K data rnd)) ∧ Fr (fun _ => False) w w' := by
 have hnl := Zx n K hK1
 have HDL := za.mk (Kd.C_len hd)
 have HNC := za.mk (zaj · N T K E Rm 1 (ye n K) hT (by omega) (by omega) (by omega))
 have HSP := za.mk (fun W (h : Kd.C fk W A n data) => zcp W A n c K (bs data) (Jz.2 h) hc hK1 hK (by omega))
 have HSE := za.mk (fun W => Zz W N K T E Rm hN (by omega))
 have he1 : zD T K 1 = T := by simp [zD]
 rw [he1] at HNC
 obtain ⟨nc, hnc⟩ : ∃ nc, nc = ye n K := ⟨_, rfl⟩
 rw [← hnc] at HNC HSP hm hnl
 rw [← hm] at HNC
 have hnb : ((m : Int) != (m : Int)) = false := by simp
 have HPC := za.mk (fun W => zdJ W N T K E Rm 1 nc R m mc)
 have HD := za.mk hd
 have HR := za.mk hr
 have HF := za.mk hF
 have HNCC := za.mk hnc
 have HM := za.mk hm
 have HE1 := za.mk he1
 clear hd hr hF hnc hm he1
 have hu48 := Try.underlying48
 unfold zv at *
 obtain ⟨w0, hw0, hz0, a0, a1, hb0⟩ := zey w (Obj.cells #[Value.pointer (some { block := g, off := 0 })] 23) (Obj.cells #[Value.int IntKind.i64 ↑N, Value.int IntKind.i64 ↑T, Value.int IntKind.i64 ↑K, Value.int IntKind.i64 E, Value.int IntKind.i64 Rm] 48)
 have HB0 := za.mk hb0
 have HZ0 := za.mk hz0
 have HW0 := za.mk hw0
 have HA0 := za.mk a0
 have HG : za (∀ W, Below w0.heap.size w0 W → W.cell? ⟨w.heap.size + 1, 0, none⟩ = some (.int .i64 N) ∧ W.cell? ⟨w.heap.size + 1, 1, none⟩ = some (.int .i64 T) ∧ W.cell? ⟨w.heap.size + 1, 2, none⟩ = some (.int .i64 K) ∧ W.cell? ⟨w.heap.size + 1, 3, none⟩ = some (.int .i64 E) ∧ W.cell? ⟨w.heap.size + 1, 4, none⟩ = some (.int .i64 Rm) ∧ W.cell? ⟨w.heap.size, 0, none⟩ = some (.pointer (some ⟨g, 0, none⟩))) :=
  ⟨fun W hW => by
    have h1 := zl a1 hW
    exact ⟨zh h1 rfl, zh h1 rfl, zh h1 rfl, zh h1 rfl, zh h1 rfl, zh (zl HA0.out hW) rfl⟩⟩
 clear hw0 hz0 a0 a1 hb0
 refine (callsIn_wide (n := 3)).1 (callsIn_of_wp_marks Try.func51 rfl trivial ?_ rfl)
 simp only [Try.ntmps51, List.size_toArray, List.length_cons, List.length_nil, Nat.reduceAdd, Nat.reduceSub, Array.replicate_succ, Array.replicate_zero, List.push_toArray, List.append_toArray, List.nil_append, List.cons_append]
 gi_wp2_with (refine ⟨trivial, ?_⟩; first
  | (gi_at_call 37; refine (callsIn_wide.2 (HSP.out _ ?_)).mono ?_; (exact Kd.C_below HD.out (zc (zc (Below.refl _ _) _) _)); rintro e W1 ⟨B, d, rfl, hS, hf1⟩; rw [← HW0.out] at hf1 hS; have HB1 := za.mk (hf1.below (Nat.le_refl _) (fun _ h => h.elim)); have HS1 := za.mk hS; clear hS hf1; have HB1A := za.mk (yh HB1.out HB1.out.size (zc (Below.refl _ W1) (.cells #[.slice B nc d] 37))); obtain ⟨v0, v1, v2, v3, v4, v5⟩ := HG.out _ HB1A.out; have HCOL : za (∀ W, Below (W1.alloc (.cells #[.slice B nc d] 37)).heap.size (W1.alloc (.cells #[.slice B nc d] 37)) W → W.heap[W1.heap.size]? = some (.cells #[.slice B nc d] 37 (0, 0))) := ⟨fun W hW => zl (yw _ _) hW⟩)
  | (gi_at_call 49; refine (callsIn_wide.2 (HNC.out _)).mono ?_; rintro e W2 ⟨rfl, hb2⟩; have HB12 := za.mk hb2; have HB2 := za.mk (HB1A.out.trans (hb2.mono HB1A.out.size)); clear hb2; obtain ⟨u0, u1, u2, u3, u4, u5⟩ := HG.out _ HB2.out)
  | (gi_at_call 47; refine (callsIn_wide.2 (HSE.out _)).mono ?_; rintro e W3 ⟨X, dX, rfl, hX, hb3⟩; have HX := za.mk hX; have HB23 := za.mk hb3; have HB3 := za.mk (HB2.out.trans (hb3.mono HB2.out.size)); clear hX hb3; have HB3A := za.mk (yh HB3.out HB3.out.size (zc (Below.refl _ W3) (.cells #[.slice X K dX] 36))); obtain ⟨t0, t1, t2, t3, t4, t5⟩ := HG.out _ HB3A.out)
  | (gi_at_call 83; refine (callsIn_wide.2 (JC _ g X K dX (zN N K) ?_ ?_ ?_)).mono ?_; (exact (HF.out.fr (Fr.of_below (HB0.out.trans (HB3A.out.mono HB0.out.size)) (fun _ => False)) (fun h => h))); (exact Kd.C_below (R_C HX.out) (zc (Below.refl _ _) _)); omega; rintro e W4 ⟨Z, rfl, hZ, hf4⟩; have HZ := za.mk hZ; have hb4 := hf4.below (Nat.le_refl _) (fun _ h => h.elim); have HB34 := za.mk hb4; have HB4 := za.mk (HB3A.out.trans (hb4.mono HB3A.out.size)); clear hZ hf4 hb4; have HB4A := za.mk (yh HB4.out HB4.out.size (zc (zc (Below.refl _ W4) (.cells #[.slice Z (K + 1) (K + 1)] 36)) (.cells #[.slice none 0 0] 37))); obtain ⟨s0, s1, s2, s3, s4, s5⟩ := HG.out _ HB4A.out; have HB34X := za.mk (yh (zc (Below.refl _ W3) (.cells #[.slice X K dX] 36)) (by simp) HB34.out); have HB24 := za.mk (yh (yh HB23.out HB23.out.size (zc (Below.refl _ W3) (.cells #[.slice X K dX] 36))) (by have := HB23.out.size; simp; omega) HB34.out); have HB14 := za.mk (HB12.out.trans (HB24.out.mono HB12.out.size)); have HB14A := za.mk (yh HB14.out HB14.out.size (zc (zc (Below.refl _ W4) (.cells #[.slice Z (K + 1) (K + 1)] 36)) (.cells #[.slice none 0 0] 37))); have s6 := zh (HCOL.out _ HB14A.out) (j := 0) rfl)
  | (gi_at_call 84; refine (callsIn_wide.2 (HPC.out _)).mono ?_; rintro e W' ⟨rfl, rfl⟩))
 obtain ⟨wB, hwB, hzB, a3, a4, hbB⟩ := zey W4 (Obj.cells #[Value.slice Z (K + 1) (K + 1)] 36) (Obj.cells #[Value.slice none 0 0] 37)
 obtain ⟨w2, hw2, hz2, a5, a6, a7, a8, hb2⟩ := zgO wB (Obj.cells #[Value.int IntKind.i64 ↑N, Value.int IntKind.i64 ↑T, Value.int IntKind.i64 ↑K, Value.int IntKind.i64 E, Value.int IntKind.i64 Rm] 48) (Obj.cells #[Value.int IntKind.i64 1] 3) (Obj.cells #[Value.int IntKind.i64 ↑nc] 3) (Obj.cells #[Value.slice R m mc] 36)
 rw [← hwB, ← hw2]
 have hB42 : Below W4.heap.size W4 w2 := hbB.trans (hb2.mono hbB.size)
 have b0 := zl (zl HA0.out HB4.out) hB42
 have b1 := zl (HCOL.out _ HB14.out) hB42
 have b2 := zl (zl (yw W3 (.cells #[.slice X K dX] 36)) HB34.out) hB42
 have b3 := zl a3 hb2
 have b4 := zl a4 hb2
 have hrl := zQ (zN N K)
 rw [zH] at hrl
 have HX4 := za.mk (Kd.C_below (R_C HX.out) HB34X.out)
 have hZ4 := HZ.out.1
 rw [hrl] at hZ4
 have HZ4 := za.mk hZ4
 have hC1 : Kd.C u8s W1 B nc (jd (bs data) K) := by
  have h := Kd.S_reads' HS1.out
  have h2 := h.2.2
  rwa [← h.1] at h2
 have HC4 := za.mk (Kd.C_below hC1 (yh (zc (Below.refl _ W1) (.cells #[.slice B nc d] 37)) (by simp) HB14.out))
 have HBW4 := za.mk (HB0.out.trans (HB4.out.mono HB0.out.size))
 obtain ⟨s, hs⟩ : ∃ s, s = w.heap.size := ⟨_, rfl⟩
 obtain ⟨o1, ho1⟩ : ∃ o, o = W1.heap.size := ⟨_, rfl⟩
 obtain ⟨o2, ho2⟩ : ∃ o, o = W3.heap.size := ⟨_, rfl⟩
 obtain ⟨o3, ho3⟩ : ∃ o, o = W4.heap.size := ⟨_, rfl⟩
 have hz0 := HZ0.out
 have hl1 := HB1.out.size
 have hl2 := HB12.out.size
 have hl3 := HB23.out.size
 have hl4 := HB34.out.size
 simp only [World.size_alloc] at hl2 hl4
 have hz4 : w2.heap.size = o3 + 1 + 1 + 1 + 1 + 1 + 1 := by omega
 have hord : s + 1 < o1 ∧ o1 < o2 ∧ o2 < o3 := by omega
 have hzB' : wB.heap.size = o3 + 1 + 1 := by omega
 rw [hzB'] at a5 a6 a7 a8
 rw [← hs] at b0 ⊢
 rw [← ho1] at b1 ⊢
 rw [← ho2] at b2 ⊢
 rw [← ho3] at b3 b4 ⊢
 have HS := za.mk hs
 have HO3 := za.mk (And.intro ho3 hB42)
 clear hs ho1 ho2 ho3 hz0 hl1 hl2 hl3 hl4 hzB' hwB hw2 hzB hz2 hB42 hbB hb2 a3 a4 hrl hZ4 v0 v1 v2 v3 v4 v5 u0 u1 u2 u3 u4 u5 t0 t1 t2 t3 t4 t5 s0 s1 s2 s3 s4 s5 s6
 obtain ⟨f, hfq⟩ : ∃ f, f = fun j => zj (zW (zad (zN N K) (Jn data K j)) (zj (zB (zw (zN N K)) (yn rnd T j)))) := ⟨_, rfl⟩
 have HFQ : za (∀ j, f j = zj (zW (zad (zN N K) (Jn data K j)) (zj (zB (zw (zN N K)) (yn rnd T j))))) := ⟨fun j => by rw [hfq]⟩
 have HPQ : za ((List.range nc).map f = jl N T K data rnd) := ⟨by rw [hfq]; unfold jl; rw [HDL.out, ← HNCC.out]⟩
 clear hfq
 refine zaH (P := Try.prog) (gf := 120) (lb := #[.pointer (some ⟨o3 + 1 + 1, 0, none⟩), .pointer (some ⟨o3 + 1 + 1 + 1, 0, none⟩), .pointer (some ⟨o3 + 1 + 1 + 1 + 1, 0, none⟩), .pointer (some ⟨o3 + 1 + 1 + 1 + 1 + 1, 0, none⟩)]) rfl (fun _ _ => rfl) (encs := fun (j : Nat) => #[.int .i64 (j : Int), Zg R mc T j]) (Rel := fun pre j _ => j = pre.length ∧ j < nc) (S := fun j => j = o3 + 1) (Full := fun xs => xs = List.range nc)
  (zdE _ w2 (o3 + 1 + 1) (o3 + 1 + 1 + 1) (o3 + 1 + 1 + 1 + 1) (o3 + 1 + 1 + 1 + 1 + 1) N T K E Rm 1 nc R m mc T HE1.out hT (by omega) (by omega) (by rw [HM.out]; exact Nat.le_refl _) hmc (by rw [HM.out]; have := Nat.mul_le_mul hT (Nat.le_trans hnl hn); omega) (by omega) a5 a6 a7 a8 (by omega) (by omega) (by omega) (by omega)) (fun _ => rfl) (fun j hj => by omega)
  (zgW f w2 (o3 + 1)) (zfz _ _ _ (by omega)) (fun pre x W W' h _ => h) ⟨_, b4, zho _ _, Fr.refl _ _⟩
  (fun j => { tmps := #[Value.pointer (some { block := g, off := 0 }), Value.agg #[Value.int IntKind.i64 ↑N, Value.int IntKind.i64 ↑T, Value.int IntKind.i64 ↑K, Value.int IntKind.i64 E, Value.int IntKind.i64 Rm], Value.slice A n c, Value.slice R m mc, Value.pointer (some { block := s, off := 0 }), Value.pointer (some { block := s + 1, off := 0 }), undef, undef, Value.slice none 0 0, Value.bool false, Value.pointer (some { block := o1, off := 0 }), Value.pointer (some { block := o2, off := 0 }), Value.pointer (some { block := o3, off := 0 }), Value.pointer (some { block := o3 + 1, off := 0 }), .int .i64 (j : Int), Zg R mc T j, undef, undef,
        Value.slice A n c, Value.pointer (some { block := s + 1, off := 2 }), Value.int IntKind.i64 ↑K, Value.slice B nc d, Value.slice R m mc, Value.int IntKind.i64 ↑m, Value.agg #[Value.int IntKind.i64 ↑N, Value.int IntKind.i64 ↑T, Value.int IntKind.i64 ↑K, Value.int IntKind.i64 E, Value.int IntKind.i64 Rm], Value.slice B nc d, Value.int IntKind.i64 ↑nc, Value.int IntKind.i64 ↑m, Value.bool false, Value.agg #[Value.int IntKind.i64 ↑N, Value.int IntKind.i64 ↑T, Value.int IntKind.i64 ↑K, Value.int IntKind.i64 E, Value.int IntKind.i64 Rm],
        Value.slice X K dX, Value.pointer (some { block := g, off := 0 }), Value.slice X K dX, Value.slice Z (K + 1) (K + 1), Value.agg #[Value.int IntKind.i64 ↑N, Value.int IntKind.i64 ↑T, Value.int IntKind.i64 ↑K, Value.int IntKind.i64 E, Value.int IntKind.i64 Rm], Value.slice B nc d, Value.int IntKind.i64 ↑nc, Value.slice R m mc,
        Value.func (Fn.func 120) #[] #[Value.pointer (some { block := o3 + 1 + 1, off := 0 }), Value.pointer (some { block := o3 + 1 + 1 + 1, off := 0 }), Value.pointer (some { block := o3 + 1 + 1 + 1 + 1, off := 0 }), Value.pointer (some { block := o3 + 1 + 1 + 1 + 1 + 1, off := 0 })], .int .i64 (j : Int), Zg R mc T j, undef, undef, undef, undef, undef, undef, undef, undef, undef, undef, undef, undef, undef, undef, undef, undef, undef, undef, undef, undef, undef, undef, undef], defers := [] }) ?_ ?_ ?_
 ·intro l pre j W K hr hK
  clear hr
  rw [zlw]
  gi_wp2
  exact hK
 ·rintro l pre j W hsz ⟨v, hv, hp, hf⟩ ⟨hj, hlt⟩
  obtain ⟨Bv, dv, rfl⟩ := JJ hp
  rw [List.length_map, ← hj] at hv
  have hp' := hp
  rw [List.length_map, ← hj] at hp'
  have hb4 : Below W4.heap.size W4 W := HO3.out.2.trans (hf.below HO3.out.2.size (fun k hk => by have := HO3.out.1; omega))
  have hF4 : Fld W g := (HF.out.fr (Fr.of_below HBW4.out (fun _ => False)) (fun h => h)).fr (Fr.of_below hb4 (fun _ => False)) (fun h => h)
  obtain ⟨ad, A0, c0, hBe, hcol, hcc, hCol⟩ := zci (Kd.C_below HC4.out hb4) j hlt
  subst hBe
  have hrow : (jd (bs data) K).getD j [] = bs (Jn data K j) := by
   rw [List.getD_eq_getElem?_getD, zby _ _ _ (by rw [zx, HDL.out, ← HNCC.out]; exact hlt)]
   exact zdq data K j
  rw [hrow, zx, js] at hcol hcc hCol
  have hCf := Jz.1 hCol
  have c0' : W.cell? ⟨s, 0, none⟩ = some (.pointer (some ⟨g, 0, none⟩)) := zh (hf.blk b0 (by omega)) rfl
  have c1 : W.cell? ⟨o1, 0, none⟩ = some (.slice (some ad) nc d) := zh (hf.blk b1 (by omega)) rfl
  have c2 : W.cell? ⟨o2, 0, none⟩ = some (.slice X K dX) := zh (hf.blk b2 (by omega)) rfl
  have c3 : W.cell? ⟨o3, 0, none⟩ = some (.slice Z (K + 1) (K + 1)) := zh (hf.blk b3 (by omega)) rfl
  have hb0 : Below W.heap.size W W.drew := yf (Below.refl _ W)
  have HTH := za.mk (zcV W.drew g X A0 K dX c0 (zN N K) (Jn data K j) (hF4.fr ((Fr.refl (fun _ => False) W).drew) (fun h => h)) (Kd.C_below (Kd.C_below HX4.out hb4) hb0) (Kd.C_below hCf hb0) (by omega) (ZG N K hNK))
  have mixed : Try.prog.follows .mixedOrders = true := by kernel_rfl
  have hjI : (j : Int) < (nc : Int) := by omega
  have HV := za.mk hv
  have HP := za.mk hp'
  have HFr := za.mk hf
  have HJ := za.mk hj
  have HB4W := za.mk hb4
  have HF4 := za.mk hF4
  have HSZ := za.mk hsz
  have HRR := za.mk hrow
  clear hv hp hp' hf hj hb4 hF4 hsz hrow hCol hCf hb0 b0 b1 b2 b3 b4 a5 a6 a7 a8
  gi_wp2
  unfold Zg
  rename_i Q1 K1 h1
  have tail : ∀ (D : Option Addr) (sm : List F) (V : World), zbu (zN N K) (Jn data K j) sm → RF V W.drew.heap.size D sm → Fr (fun _ => False) W.drew V → K1 { tmps := #[Value.pointer (some { block := g, off := 0 }), Value.agg #[Value.int IntKind.i64 ↑N, Value.int IntKind.i64 ↑T, Value.int IntKind.i64 ↑K, Value.int IntKind.i64 E, Value.int IntKind.i64 Rm], Value.slice A n c, Value.slice R m mc, Value.pointer (some { block := s, off := 0 }), Value.pointer (some { block := s + 1, off := 0 }), undef, undef, Value.slice none 0 0, Value.bool false, Value.pointer (some { block := o1, off := 0 }), Value.pointer (some { block := o2, off := 0 }), Value.pointer (some { block := o3, off := 0 }), Value.pointer (some { block := o3 + 1, off := 0 }), .int .i64 (j : Int), .slice (zaF R mc (j * T)) T (mc - j * T), .slice D sm.length sm.length, .bool true,
        Value.slice A n c, Value.pointer (some { block := s + 1, off := 2 }), Value.int IntKind.i64 ↑K, Value.slice (some ad) nc d, Value.slice R m mc, Value.int IntKind.i64 ↑m, Value.agg #[Value.int IntKind.i64 ↑N, Value.int IntKind.i64 ↑T, Value.int IntKind.i64 ↑K, Value.int IntKind.i64 E, Value.int IntKind.i64 Rm], Value.slice (some ad) nc d, Value.int IntKind.i64 ↑nc, Value.int IntKind.i64 ↑m, Value.bool false, Value.agg #[Value.int IntKind.i64 ↑N, Value.int IntKind.i64 ↑T, Value.int IntKind.i64 ↑K, Value.int IntKind.i64 E, Value.int IntKind.i64 Rm],
        Value.slice X K dX, Value.pointer (some { block := g, off := 0 }), Value.slice X K dX, Value.slice Z (K + 1) (K + 1), Value.agg #[Value.int IntKind.i64 ↑N, Value.int IntKind.i64 ↑T, Value.int IntKind.i64 ↑K, Value.int IntKind.i64 E, Value.int IntKind.i64 Rm], Value.slice (some ad) nc d, Value.int IntKind.i64 ↑nc, Value.slice R m mc,
        Value.func (Fn.func 120) #[] #[Value.pointer (some { block := o3 + 1 + 1, off := 0 }), Value.pointer (some { block := o3 + 1 + 1 + 1, off := 0 }), Value.pointer (some { block := o3 + 1 + 1 + 1 + 1, off := 0 }), Value.pointer (some { block := o3 + 1 + 1 + 1 + 1 + 1, off := 0 })], .int .i64 (j : Int), .slice (zaF R mc (j * T)) T (mc - j * T), .tuple #[.slice D sm.length sm.length, .bool true], Value.pointer (some { block := g, off := 0 }), Value.slice X K dX, Value.slice (some ad) nc d, .int .i64 (j : Int), .pointer (some (ad.add j)), .slice A0 K c0, .tuple #[.slice D sm.length sm.length, .bool true], .slice D sm.length sm.length, .bool true, undef, undef, undef, undef, undef, undef, undef, undef, undef, undef, undef, undef, undef], defers := [] } V := by
   intro D sm V hth hD hfV
   refine h1 _ _ ?_
   clear h1 HTH
   have hfWV : Fr (fun _ => False) W V := ((Fr.refl (fun _ => False) W).drew).trans' hfV
   have hvV := hfWV.blk HV.out (fun h => h)
   have e0 : V.cell? ⟨s, 0, none⟩ = some (.pointer (some ⟨g, 0, none⟩)) := hfWV.cell c0' (fun h => h)
   have e3 : V.cell? ⟨o3, 0, none⟩ = some (.slice Z (K + 1) (K + 1)) := hfWV.cell c3 (fun h => h)
   have e4 : V.cell? ⟨o3 + 1, 0, none⟩ = some (.slice Bv j dv) := zh hvV rfl
   have hbV : Below W.heap.size W V.drew := hfWV.drew.below (Nat.le_refl _) (fun _ h => h.elim)
   have hjn : j * T + T ≤ m := by
    have h1 := Nat.mul_le_mul_left T (show j + 1 ≤ nc from hlt)
    rw [Nat.mul_add, Nat.mul_one] at h1
    rw [Nat.mul_comm j T, HM.out]
    omega
   have hrC : Kd.C fk V.drew R m rnd := Kd.C_below (Kd.C_below (Kd.C_below HR.out HBW4.out) HB4W.out) hbV
   have hsl : sm.length ≤ 255 := by have := hth.2.1; rw [zH] at this; omega
   obtain ⟨q1, hq1⟩ : ∃ q, q = zj (zB (zw (zN N K)) (yn rnd T j)) := ⟨_, rfl⟩
   have hq1l : q1.length ≤ 2000 := by
    have hrl := zQ (zN N K)
    rw [zH] at hrl
    have h2 : (zj (zB (zw (zN N K)) (yn rnd T j))).length ≤ K + 1 + T := yR (fun i hi => yZ _ _ (K + 1) T (fun k hk => zJ _ _ (by omega)) (fun k hk => zJ _ _ (by simp [yn]; omega)) i (by omega) (by omega))
    rw [hq1]
    omega
   have HMU := za.mk (zbM V.drew g Z (zaF R mc (j * T)) (K + 1) T (K + 1) (mc - j * T) (zw (zN N K)) (yn rnd T j) (HF4.out.fr (Fr.of_below hbV (fun _ => False)) (fun h => h)) (Kd.C_below (Kd.C_below HZ4.out HB4W.out) hbV) (zfU hrC hjn hmc) (by omega))
   rw [← hq1] at HMU
   have hqe : f j = zj (zW sm q1) := by rw [HFQ.out, zas (ZG N K hNK) hth, ← hq1]
   obtain ⟨q2, hq2⟩ : ∃ q, q = zj (zW sm q1) := ⟨_, rfl⟩
   have HADD : za (∀ D2 V3, RF V3 V.drew.heap.size D2 q1 → Fr (fun _ => False) V.drew V3 → V3.cell? ⟨o3 + 1, 0, none⟩ = some (.slice Bv j dv) ∧
    Calls Try.prog 86 #[.slice D sm.length sm.length, .slice D2 q1.length q1.length] V3 fun e V4 => ∃ D4, e = .returned (.slice D4 q2.length q2.length) ∧ V4.cell? ⟨o3 + 1, 0, none⟩ = some (.slice Bv j dv) ∧ (V4.alloc (.cells #[.slice D4 q2.length q2.length] 36)).cell? ⟨o3 + 1, 0, none⟩ = some (.slice Bv j dv) ∧
    ∃ B' d' V5, (Builtin.append_ #[37, 37] 37 #[.slice Bv j dv, .slice (some ⟨V4.heap.size, 0, none⟩) 1 1]).run Try.prog (V4.alloc (.cells #[.slice D4 q2.length q2.length] 36)) = .ok (.slice B' (j + 1) d') V5 ∧ V5.cell? ⟨o3 + 1, 0, none⟩ = some (.slice Bv j dv) ∧ V5.frozen? ⟨o3 + 1, 0, none⟩ = false ∧
      ∀ v', v' = V5.setCell ⟨o3 + 1, 0, none⟩ (.slice B' (j + 1) d') → Fr (fun k => k = o3 + 1 ∨ w2.heap.size + 2 ≤ k) W v' ∧ zgW f w2 (o3 + 1) (pre ++ [j]) v') := ⟨fun D2 V3 hD2 hf3 => by
    have hfWV3 : Fr (fun _ => False) W V3 := (hfWV.drew).trans' hf3
    have hfV3 : Fr (fun _ => False) V V3 := ((Fr.refl (fun _ => False) V).drew).trans' hf3
    have hv3 := hfWV3.blk HV.out (fun h => h)
    have hD3 := zan hD hfV3 (fun _ _ _ h => h)
    refine ⟨zh hv3 rfl, (zfS V3 D D2 sm.length q1.length sm.length q1.length sm q1 hD3.1 hD2.1 (by omega) (by omega)).mono ?_⟩
    rw [← hq2]
    rintro e V4 ⟨D4, rfl, hD4, hf4⟩
    have hfWV4 := hfWV3.trans' hf4
    have hv4 := hfWV4.blk HV.out (fun h => h)
    have hvA := zt hv4 (Obj.cells #[.slice D4 q2.length q2.length] 36)
    have hp4 := zbT HP.out hfWV4 (zdw _ _)
    have hWs : w2.heap.size + 2 ≤ V4.heap.size := Nat.le_trans HSZ.out hfWV4.size
    obtain ⟨B', d', V5, hrun, hp5, hf5⟩ := zfo V4 (w2.heap.size + 2) (.slice Bv j dv) _ hp4 hWs D4 q2 (yr hD4 (Nat.le_trans HSZ.out hfWV3.size)) j (by rw [List.length_map, HJ.out]) (by omega)
    have hv5 := hf5.blk hv4 (fun h => by omega)
    refine ⟨D4, rfl, zh hv4 rfl, zh hvA rfl, B', d', V5, hrun, zh hv5 rfl, yV hv5, ?_⟩
    rintro v' rfl
    have hf6 : Fr (fun k => k = o3 + 1) V5 (V5.setCell ⟨o3 + 1, 0, none⟩ (.slice B' (j + 1) d')) := (Fr.refl (fun k => k = o3 + 1) V5).set_ (p := ⟨o3 + 1, 0, none⟩) (.inl rfl) _
    have hfa : Fr (fun k => k = o3 + 1 ∨ w2.heap.size + 2 ≤ k) W (V5.setCell ⟨o3 + 1, 0, none⟩ (.slice B' (j + 1) d')) := ((hfWV4.mono (fun _ h => h.elim)).trans' (hf5.mono (fun k hk => .inr hk.1))).trans' (hf6.mono (fun k hk => .inl hk))
    refine ⟨hfa, _, zab hv5 0 _, ?_, HFr.out.trans hfa (fun k hk => by omega)⟩
    rw [List.map_append, List.map_singleton, hqe, ← hq2]
    refine zbT hp5 hf6 ?_
    rintro k _ rfl cells t hc
    rw [hv5] at hc
    injection hc with hc
    injection hc with _ hc
    rw [← hc]
    decide⟩
   clear hq1 hq2 hqe hq1l hrC hbV hvV hfWV hfV hD hth c0' c1 c2 c3 hcol hcc
   gi_wp2
   refine jy l mixed rfl (by kernel_rfl) ?_
   repeat' (first
    | exact AllReadyIn.nil
    | refine wpAnyIn_done (by decide +kernel) ?_ _
    | (refine wpAnyIn_take (i := 1) (v := ?_) rfl rfl (by kernel_rfl) (by decide +kernel) (by decide +kernel) (fun _ _ _ h => h) ⟨Or.inl ⟨by rfl, ?_⟩, fun _ => rfl⟩ ?_; rotate_left 1; focus (intro w; go_simp; (try with_reducible rfl); done))
    | (refine wpAnyIn_take (i := 4) (v := ?_) rfl rfl (by kernel_rfl) (by decide +kernel) (by decide +kernel) (fun _ _ _ h => h) ⟨Or.inl ⟨by rfl, ?_⟩, fun _ => rfl⟩ ?_; rotate_left 1; focus (intro w; go_simp; (try with_reducible rfl); done))
    | refine wpAnyIn_ready (rs := [0, 2, 3]) (by decide +kernel) (by simp) ?_
    | refine wpAnyIn_ready (rs := [0, 2]) (by decide +kernel) (by simp) ?_
    | refine wpAnyIn_ready (rs := [0, 3]) (by decide +kernel) (by simp) ?_
    | refine wpAnyIn_ready (rs := [2, 3]) (by decide +kernel) (by simp) ?_
    | refine wpAnyIn_ready (rs := [0, 5]) (by decide +kernel) (by simp) ?_
    | refine wpAnyIn_ready (rs := [0, 6]) (by decide +kernel) (by simp) ?_
    | refine wpAnyIn_ready (rs := [0, 7]) (by decide +kernel) (by simp) ?_
    | refine wpAnyIn_ready (rs := [0]) (by decide +kernel) (by simp) ?_
    | refine wpAnyIn_ready (rs := [2]) (by decide +kernel) (by simp) ?_
    | refine wpAnyIn_ready (rs := [3]) (by decide +kernel) (by simp) ?_
    | refine wpAnyIn_ready (rs := [5]) (by decide +kernel) (by simp) ?_
    | refine wpAnyIn_ready (rs := [6]) (by decide +kernel) (by simp) ?_
    | refine wpAnyIn_ready (rs := [7]) (by decide +kernel) (by simp) ?_
    | refine wpAnyIn_ready (rs := [8]) (by decide +kernel) (by simp) ?_
    | refine wpAnyIn_ready (rs := [9]) (by decide +kernel) (by simp) ?_
    | refine AllReadyIn.cons rfl (fun K hK => ?_) ?_
    | (rw [if_pos (by rfl)]; go_simp; refine ⟨trivial, ?_⟩; gi_at_call 87; refine (callsIn_wide.2 HMU.out).mono ?_; rintro e V3 ⟨D2, rfl, hD2, hf3⟩; obtain ⟨q0, hA⟩ := HADD.out D2 V3 hD2 hf3; replace hA := za.mk hA; clear hD2 hf3; go_simp; refine hK _ _ ?_; clear hK K)
    | (rw [if_pos (by rfl)]; go_simp; refine ⟨trivial, ?_⟩; gi_at_call 86; refine (callsIn_wide.2 hA.out).mono ?_; rintro e V4 ⟨D4, rfl, q1, q2, B', d', V5, hrun, q3, q4, hfin⟩; replace hrun := za.mk hrun; replace hfin := za.mk hfin; clear hA; go_simp; refine hK _ _ ?_; clear hK K)
    | (rw [if_pos (by rfl)]; refine zbj _ _ _ _ rfl rfl rfl hrun.out ?_; refine hK _ _ ?_; clear hK K)
    | (go_simp; refine hK _ _ ?_; clear hK K))
   all_goals (gi_wp2; exact hfin.out _ rfl)
  have TAIL := za.mk tail
  clear tail h1
  refine jy l mixed rfl (by kernel_rfl) ?_
  repeat' (first
   | exact AllReadyIn.nil
   | refine wpAnyIn_done (by decide +kernel) ?_ _
   | (refine wpAnyIn_take (i := 3) (v := ?_) rfl rfl (by kernel_rfl) (by decide +kernel) (by decide +kernel) (fun _ _ _ h => h) ⟨Or.inl ⟨by rfl, ?_⟩, fun _ => rfl⟩ ?_; rotate_left 1; focus (intro w; go_simp; (try with_reducible rfl); done))
   | (refine wpAnyIn_take (i := 4) (v := ?_) rfl rfl (by kernel_rfl) (by decide +kernel) (by decide +kernel) (fun _ _ _ h => h) ⟨Or.inl ⟨by rfl, ?_⟩, fun _ => rfl⟩ ?_; rotate_left 1; focus (intro w; go_simp; (try with_reducible rfl); done))
   | (refine wpAnyIn_take (i := 7) (v := ?_) rfl rfl (by kernel_rfl) (by decide +kernel) (by decide +kernel) (fun _ _ _ h => h) ⟨Or.inl ⟨by rfl, ?_⟩, fun _ => rfl⟩ ?_; rotate_left 1; focus (intro w; go_simp; (try with_reducible rfl); done))
   | (refine wpAnyIn_take (i := 8) (v := ?_) rfl rfl (by kernel_rfl) (by decide +kernel) (by decide +kernel) (fun _ _ _ h => h) ⟨Or.inl ⟨by rfl, ?_⟩, fun _ => rfl⟩ ?_; rotate_left 1; focus (intro w; go_simp; (try with_reducible rfl); done))
   | (refine wpAnyIn_take (i := 9) (v := ?_) rfl rfl (by kernel_rfl) (by decide +kernel) (by decide +kernel) (fun _ _ _ h => h) ⟨Or.inl ⟨by rfl, ?_⟩, fun _ => rfl⟩ ?_; rotate_left 1; focus (intro w; go_simp; (try with_reducible rfl); done))
   | (refine wpAnyIn_take (i := 10) (v := ?_) rfl rfl (by kernel_rfl) (by decide +kernel) (by decide +kernel) (fun _ _ _ h => h) ⟨Or.inl ⟨by rfl, ?_⟩, fun _ => rfl⟩ ?_; rotate_left 1; focus (intro w; go_simp; (try with_reducible rfl); done))
   | (refine wpAnyIn_take (i := 11) (v := ?_) rfl rfl (by kernel_rfl) (by decide +kernel) (by decide +kernel) (fun _ _ _ h => h) ⟨Or.inl ⟨by rfl, ?_⟩, fun _ => rfl⟩ ?_; rotate_left 1; focus (intro w; go_simp; (try with_reducible rfl); done))
   | refine wpAnyIn_ready (rs := [0, 1, 2]) (by decide +kernel) (by simp) ?_
   | refine wpAnyIn_ready (rs := [0, 1]) (by decide +kernel) (by simp) ?_
   | refine wpAnyIn_ready (rs := [0, 2]) (by decide +kernel) (by simp) ?_
   | refine wpAnyIn_ready (rs := [1, 2]) (by decide +kernel) (by simp) ?_
   | refine wpAnyIn_ready (rs := [0, 1, 5]) (by decide +kernel) (by simp) ?_
   | refine wpAnyIn_ready (rs := [0, 5]) (by decide +kernel) (by simp) ?_
   | refine wpAnyIn_ready (rs := [1, 5]) (by decide +kernel) (by simp) ?_
   | refine wpAnyIn_ready (rs := [0]) (by decide +kernel) (by simp) ?_
   | refine wpAnyIn_ready (rs := [1]) (by decide +kernel) (by simp) ?_
   | refine wpAnyIn_ready (rs := [2]) (by decide +kernel) (by simp) ?_
   | refine wpAnyIn_ready (rs := [5]) (by decide +kernel) (by simp) ?_
   | refine wpAnyIn_ready (rs := [6]) (by decide +kernel) (by simp) ?_
   | refine AllReadyIn.cons rfl (fun K hK => ?_) ?_
   | (rw [if_pos (by rfl)]; go_simp; refine ⟨trivial, ?_⟩; gi_at_call 85; refine (callsIn_wide.2 HTH.out).mono ?_; rintro e W3 ⟨D, sm, rfl, hD, hth, hf3⟩; replace hD := za.mk hD; replace hth := za.mk hth; replace hf3 := za.mk hf3; go_simp; refine hK _ _ ?_; clear hK K)
   | (go_simp; refine hK _ _ ?_; clear hK K))
  all_goals (exact TAIL.out _ _ _ hth.out hD.out hf3.out)
 rintro zs W hzs ⟨v, hv, hp, hf⟩ hKD
 subst hzs
 obtain ⟨Bv, dv, rfl⟩ := JJ hp
 have hdl := HPQ.out
 rw [hdl] at hv hp
 have hdn : (jl N T K data rnd).length = nc := by rw [← hdl]; simp
 have hql : ∀ q ∈ jl N T K data rnd, q.length ≤ 1099511627776 := fun q hq => by have := zeL N T K data rnd q hq; omega
 obtain ⟨qs, hqs⟩ : ∃ qs, qs = jl N T K data rnd := ⟨_, rfl⟩
 rw [← hqs] at hv hp hdn hql
 have HQS := za.mk hqs
 clear hqs hdl
 rw [hdn] at hv hp
 have c0 : W.cell? ⟨s, 0, none⟩ = some (.pointer (some ⟨g, 0, none⟩)) := zh (hf.blk b0 (by omega)) rfl
 have c3 : W.cell? ⟨o3 + 1, 0, none⟩ = some (.slice Bv nc dv) := zh hv rfl
 have hb4 : Below W4.heap.size W4 W := HO3.out.2.trans (hf.below HO3.out.2.size (fun k hk => by have := HO3.out.1; omega))
 have hbW : Below w.heap.size w W := HBW4.out.trans (hb4.mono HBW4.out.size)
 obtain ⟨u0, u1, u2, u3, u4, _⟩ := HG.out W (HB4.out.trans (hb4.mono HB4.out.size))
 have hsw := HS.out
 rw [← hsw] at u0 u1 u2 u3 u4
 have HSH := za.mk (zdI W g N T K E Rm Bv nc dv qs (HF.out.fr (Fr.of_below hbW (fun _ => False)) (fun h => h)) (zjf hp) hN (by omega) hql)
 unfold zv at HSH
 obtain ⟨Dd, hDd⟩ : ∃ D, D = w2.heap.size := ⟨_, rfl⟩
 rw [← hDd] at hKD ⊢
 have HKD := za.mk hKD
 have HBWW := za.mk hbW
 have HDD : za (Dd < W.heap.size ∧ w.heap.size ≤ Dd) := ⟨by have := yB hKD; have := HBW4.out.size; have := HO3.out.2.size; omega⟩
 clear hsw hDd hKD hp hv hf hbW hb4 b0 b1 b2 b3 b4 a5 a6 a7 a8 hql hdn hz4
 gi_wp2_with (refine ⟨trivial, ?_⟩; gi_at_call 88; refine (callsIn_wide.2 HSH.out).mono ?_; rintro e W3 ⟨b, rfl, hb, hrows, hf3⟩; replace hrows := za.mk hrows; replace hf3 := za.mk hf3; replace hb := za.mk hb)
 refine ⟨by simp, .inl ⟨_, _, rfl, run_takeDeferred (hf3.out.blk HKD.out (fun h => h)), ?_⟩⟩
 have hpf := JM W3 Dd (.deferred none)
 refine ⟨_, results_tmp2 rfl _ _ _, b, rfl, ?_, ?_, ?_⟩
 ·have := HBWW.out.size; have := hb.out; omega
 ·rw [← HQS.out]
  exact ZZ (zhO hrows.out hpf (fun k hk => by have := HDD.out; have := hb.out; omega)) HBWW.out.size
 exact ((Fr.of_below HBWW.out _).trans' hf3.out).trans hpf (fun k hk => .inr (by have := HDD.out; omega))
end Go.Proofs.Ytpeiejkcoadhfaa
