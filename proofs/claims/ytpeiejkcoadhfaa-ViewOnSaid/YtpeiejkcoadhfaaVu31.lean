/- What the view's laws take, Vu31: PzAB. -/
import Derived.Test.YtpeiejkcoadhfaaVu23
import Derived.Test.YtpeiejkcoadhfaaVu30
import Derived.Deep.RegionHeld3
import Derived.Deep.RegionHeldLaw
set_option linter.all false
namespace Go.Proofs.Ytpeiejkcoadhfaa
open Go.RowKit Go.Shelf Go.Proofs.YtpeiejkcoadhfaaW.PrintWords Go.Proofs.YtpeiejkcoadhfaaW.PrintMore
open Go.BigFrame
attribute [local go_sem] Oper.semAt_some
theorem zhm (w : World) (A : Option Addr) (n c K : Nat) (data : List F) (hd : Kd.C fk w A n data) (hc : n ≤ c) (hK1 : 1 ≤ K) (hK : K ≤ 255) (hn : n ≤ 1000000) :
 Calls Try.prog 41 #[.slice A n c, .int .i64 (K : Int)] w fun e w' => ∃ B d, e = .returned (.slice B (ye n K) d) ∧ ye n K ≤ d ∧ Kd.C u8s w' B (ye n K) (jd (bs data) K) ∧ Below w.heap.size w w' := by
 obtain rfl : data.length = n := Kd.C_len hd
 obtain ⟨q, hq⟩ := zmJ (bs data) K hK1 hK (by rw [zx]; omega)
 have h := PDealSecret.shamrockref06_Split.calls q A c (bs data) K _ w (by rw [zx]; exact Jz.2 hd) (by rw [zx]; exact hc) hq
 rw [zx] at h
 refine h.mono ?_
 rintro e w' ⟨v, rfl, hS, hb⟩
 obtain ⟨B, d, rfl⟩ := Kd.S_slice hS
 have h1 := Kd.S_reads' hS
 rw [zbi, zx] at h1 ⊢
 exact ⟨B, d, rfl, h1.2.1, h1.2.2, hb⟩
theorem zmM {xs ys s : List F} (h : zbu xs ys s) : s.length ≤ xs.length := by
 unfold zbu at h
 exact h.2.1
noncomputable def jL (N T K : Nat) (data rnd : List F) (k : Nat) : List (List F) := (List.range (ye data.length K)).map fun j => if j < k then zj (zW (zad (zN N K) (Jn data K j)) (zj (zB (zw (zN N K)) (yn rnd T j)))) else zj (zB (zw (zN N K)) (yn rnd T j))
theorem zgA (N T K : Nat) (data rnd : List F) : jL N T K data rnd 0 = yj (ye data.length K) T (zw (zN N K)) rnd := by
 unfold jL yj
 apply List.map_congr_left
 intro j _
 rw [if_neg (by omega)]
theorem zhi (N T K : Nat) (data rnd : List F) : jL N T K data rnd (ye data.length K) = jl N T K data rnd := by
 unfold jL jl
 apply List.map_congr_left
 intro j hj
 rw [if_pos (List.mem_range.1 hj)]
theorem zhq (N T K : Nat) (data rnd : List F) (k : Nat) (hk : k < ye data.length K) : (jL N T K data rnd k).getD k [] = zj (zB (zw (zN N K)) (yn rnd T k)) := by
 unfold jL
 rw [zy _ _ _ _ hk, if_neg (by omega)]
theorem zkM (p q : List F) : zj (zW p q) = zj (zW q p) := Zb _ _ (fun i => by rw [zS, zS, F.add_comm])
theorem zfM (N T K : Nat) (data rnd : List F) (k : Nat) (hk : k < ye data.length K) : (jL N T K data rnd k).set k (zj (zW (zj (zB (zw (zN N K)) (yn rnd T k))) (zad (zN N K) (Jn data K k)))) = jL N T K data rnd (k + 1) := by
 rw [zkM]
 apply List.ext_getElem
 ·simp [jL]
 intro i h1 h2
 have hi : i < ye data.length K := by simpa [jL] using h2
 rw [List.getElem_set]
 simp only [jL, List.getElem_map, List.getElem_range]
 by_cases e : k = i
 ·subst e
  rw [if_pos rfl, if_pos (by omega)]
 rw [if_neg e]
 by_cases h3 : i < k
 ·rw [if_pos h3, if_pos (by omega)]
 rw [if_neg h3, if_neg (by omega)]
set_option maxRecDepth 100000 in
set_option maxHeartbeats 3200000 in
theorem zja (w : World) (N T K : Nat) (E Rm : Int) (A R : Option Addr) (n c m mc : Nat) (data rnd : List F) (hd : Kd.C fk w A n data) (hr : Kd.C fk w R m rnd) (hc : n ≤ c) (hmc : m ≤ mc) (hn : n ≤ 100000) (hN : N ≤ 1000) (hT : T ≤ 1000) (hK : K ≤ 255) (hK1 : 1 ≤ K) (hNK : N + K ≤ 255) (hm : m = T * ye n K) :
 Calls Try.prog 54 #[zv N T K E Rm, .slice A n c, .slice R m mc] w fun e w' => ∃ B d, e = .returned (.slice B (ye n K) d) ∧ ZE w' w.heap.size (.slice B (ye n K) d) (jl N T K data rnd) ∧ Below w.heap.size w w' := by
 have hnl := Zx n K hK1
 have hdl := Kd.C_len hd
 have hml : m ≤ 100000000 := by
  rw [hm]
  have := Nat.mul_le_mul hT (Nat.le_trans hnl hn)
  omega
 have HSP := za.mk (fun W (h : Kd.C fk W A n data) => zhm W A n c K data h hc hK1 hK (by omega))
 have HSE := za.mk (fun W => zbZ W N T K E Rm hN (by omega))
 have he1 : zD T K 1 = T := by simp [zD]
 have HTL := za.mk (fun W X cz hR (hX : Kd.C fk W X (K + 1) (zw (zN N K))) => zcU W N T K E Rm 1 (ye n K) R X m mc (K + 1) cz rnd _ hR hX hmc hT (by omega) (by omega) (by omega) (by rw [he1, ← hm]; exact Nat.le_refl _) (by omega) (by omega))
 rw [he1] at HTL
 have hp0 := zgA N T K data rnd
 have hpa := zhi N T K data rnd
 rw [hdl] at hp0 hpa
 rw [← hp0] at HTL
 rw [← hpa]
 have HD := za.mk hd
 have HR := za.mk hr
 have HDL := za.mk hdl
 obtain ⟨nc, hnc⟩ : ∃ nc, nc = ye n K := ⟨_, rfl⟩
 rw [← hnc] at HSP HTL hnl ⊢
 have HNC := za.mk hnc
 clear hd hr hdl hm hnc he1 hp0 hpa
 have hu48 := Try.underlying48
 unfold zv at *
 obtain ⟨w0, hw0, hz0, a0, hb0⟩ := zU w (Obj.cells #[Value.int IntKind.i64 ↑N, Value.int IntKind.i64 ↑T, Value.int IntKind.i64 ↑K, Value.int IntKind.i64 E, Value.int IntKind.i64 Rm] 48)
 obtain ⟨s, hs⟩ : ∃ s, s = w.heap.size := ⟨_, rfl⟩
 rw [← hs] at a0
 have HG : za (∀ W, Fr (fun j => s + 1 ≤ j) w0 W → W.cell? ⟨s, 0, none⟩ = some (.int .i64 N) ∧ W.cell? ⟨s, 1, none⟩ = some (.int .i64 T) ∧ W.cell? ⟨s, 2, none⟩ = some (.int .i64 K) ∧ W.cell? ⟨s, 3, none⟩ = some (.int .i64 E) ∧ W.cell? ⟨s, 4, none⟩ = some (.int .i64 Rm)) :=
  ⟨fun W hW => by
    have h1 := hW.blk a0 (by omega)
    exact ⟨zh h1 rfl, zh h1 rfl, zh h1 rfl, zh h1 rfl, zh h1 rfl⟩⟩
 have HS := za.mk hs
 have HB0 := za.mk hb0
 have HZ0 : za (w0.heap.size = s + 1) := ⟨by omega⟩
 go_enter Try.func54, Try.ntmps54
 go_wp2_with (go_at_call 41; rw [← hw0]; with_reducible refine (HSP.out _ ?_).mono ?_; (exact Kd.C_below HD.out hb0); rintro e W1 ⟨B1, d1, rfl, hd1, hC1, hb1⟩; replace hb1 := za.mk hb1; have HC1 := za.mk hC1; clear hC1)
 clear a0 hz0 hb0 hs
 rw [← HS.out]
 have S1 := HG.out W1 (Fr.of_below hb1.out _)
 have HBB1 := za.mk (HB0.out.trans (hb1.out.mono HB0.out.size))
 go_region_held3 (fun W => W.cell? ⟨s, 0, none⟩ = some (.int .i64 N) ∧ W.cell? ⟨s, 1, none⟩ = some (.int .i64 T) ∧ W.cell? ⟨s, 2, none⟩ = some (.int .i64 K) ∧ W.cell? ⟨s, 3, none⟩ = some (.int .i64 E) ∧ W.cell? ⟨s, 4, none⟩ = some (.int .i64 Rm))
  (first | exact S4 | exact S3 | exact S2 | exact HG.out _ (Fr.of_below (yh hb1.out hb1.out.size (yf (Below.refl _ _))) _))
  (first
    | (go_at_call 48; with_reducible refine (HSE.out _).mono ?_; rintro e W2 ⟨B2, d2, rfl, hd2, hC2, hb2⟩; have HB2 := za.mk (ZR hb2); have HRO := za.mk (zbr W2 B2 K d2 (zN N K) hC2 (by omega)); have S2 := HG.out W2 (Fr.of_below (hb1.out.trans (HB2.out.mono hb1.out.size)) _); clear hC2 hb2)
    | (go_at_call 57; with_reducible refine HRO.out.mono ?_; rintro e W3 ⟨B3, d3, rfl, hd3, hC3, hb3⟩; have HB3 := za.mk (HB2.out.trans (hb3.mono HB2.out.size)); have HT3 := za.mk (HTL.out W3 B3 d3 (Kd.C_below HR.out (HBB1.out.trans (HB3.out.mono HBB1.out.size))) hC3); have S3 := HG.out W3 (Fr.of_below (hb1.out.trans (HB3.out.mono hb1.out.size)) _); clear hC3 hb3)
    | (go_at_call 89; with_reducible refine HT3.out.mono ?_; rintro e W4 ⟨B4, d4, rfl, hP4, hb4⟩; have HP4 := za.mk hP4; have HZ34 := za.mk hb4.size; have HB4 := za.mk (HB3.out.trans (hb4.mono HB3.out.size)); have S4 := HG.out W4 (Fr.of_below (hb1.out.trans (HB4.out.mono hb1.out.size)) _); clear hP4 hb4))
 have hz34 : W1.heap.size ≤ W3.heap.size := HB3.out.size
 have hz44 : W3.heap.size ≤ W4.heap.size := by have := HB3.out.size; have := HP4.out; exact HZ34.out
 clear S1 S2 S3 S4 HT3 HRO HTL HSP
 obtain ⟨z3, hz3⟩ : ∃ z3, z3 = W3.heap.size := ⟨_, rfl⟩
 rw [← hz3] at HP4 hz34 hz44
 clear hz3
 have HZZ := za.mk (And.intro hz34 hz44)
 have HS1 : za (s + 1 ≤ W1.heap.size ∧ w.heap.size = s) := ⟨by have := hb1.out.size; have := HZ0.out; omega, HS.out.symm⟩
 clear hz34 hz44
 go_wp2
 go_loopw [9] (fun v9 wr => ∃ (k : Nat), k ≤ nc ∧ v9 = .int .i64 k ∧ za (ZE wr z3 (.slice B4 nc d4) (jL N T K data rnd k)) ∧ za (Fr (fun j => z3 ≤ j) W4 wr)) (fun v9 _ => nc - (intOf v9).toNat)
 case atStart => exact ⟨0, by omega, rfl, HP4, ⟨Fr.refl _ _⟩⟩
 clear HP4
 obtain ⟨k, hk, rfl, HP, HF⟩ := hrel
 have hbw : Below W1.heap.size W1 wr := HB4.out.trans ((HF.out.below HZZ.out.2 (fun j hj => hj)).mono HZZ.out.1)
 by_cases hlt : k < nc
 ·obtain ⟨g, Bq, dq, rfl, hzg, hx, hqd, hCq, hfz, hpol⟩ := zmU HP.out k hlt
  obtain ⟨ad, A0, c0, rfl, hcol, hcc, hCol⟩ := zci (Kd.C_below HC1.out hbw) k hlt
  have hrow : (jd (bs data) K).getD k [] = bs (Jn data K k) := by
   rw [List.getD_eq_getElem?_getD, zby _ _ _ (by rw [zx, HDL.out, ← HNC.out]; exact hlt)]
   exact zdq data K k
  rw [hrow, zx, js] at hcol hcc hCol
  have hCf := Jz.1 hCol
  have hkd : k < ye data.length K := by rw [HDL.out, ← HNC.out]; exact hlt
  have hst := zfM N T K data rnd k hkd
  rw [zhq N T K data rnd k hkd] at hx hqd hCq hpol
  obtain ⟨q0, hq0⟩ : ∃ q0, q0 = zj (zB (zw (zN N K)) (yn rnd T k)) := ⟨_, rfl⟩
  have hql : q0.length ≤ 3000 := by
   have hrl := zQ (zN N K)
   rw [zH] at hrl
   rw [hq0]
   have : (zj (zB (zw (zN N K)) (yn rnd T k))).length ≤ K + 1 + T := yR (fun i hi => yZ _ _ (K + 1) T (fun k hk => zJ _ _ (by omega)) (fun k hk => zJ _ _ (by simp [yn]; omega)) i (by omega) (by omega))
   omega
  rw [← hq0] at hx hqd hCq hpol hst
  have HST := za.mk hst
  have HPO := za.mk hpol
  have HCQ := za.mk hCq
  have HCF := za.mk hCf
  obtain ⟨lq, hlq⟩ : ∃ lq, lq = q0.length := ⟨_, rfl⟩
  rw [← hlq] at hx hqd HPO HCQ
  have HLQ := za.mk hlq
  have hkI : (k : Int) < (nc : Int) := by omega
  have HBW := za.mk hbw
  have hwr : Fr (fun j => s + 1 ≤ j) w0 wr := Fr.of_below (hb1.out.trans (hbw.mono hb1.out.size)) _
  have hadb : ad.block < W1.heap.size := by
   obtain ⟨ad1, A1, c1, e1, hcol1, _⟩ := zci HC1.out k hlt
   injection e1 with e1
   subst e1
   have h1 := World.block_lt_of_cell? W1 _ hcol1
   rwa [show (ad.add k).block = ad.block from by unfold Addr.add; split <;> rfl] at h1
  have HSS : za (∀ W, Fr (fun j => z3 ≤ j) wr W → W.cell? ⟨s, 0, none⟩ = some (.int .i64 N) ∧ W.cell? ⟨s, 1, none⟩ = some (.int .i64 T) ∧ W.cell? ⟨s, 2, none⟩ = some (.int .i64 K) ∧ W.cell? ⟨s, 3, none⟩ = some (.int .i64 E) ∧ W.cell? ⟨s, 4, none⟩ = some (.int .i64 Rm) ∧ W.cell? (ad.add k) = some (.slice A0 K c0)) := ⟨fun W hW => by
   obtain ⟨h0, h1, h2, h3, h4⟩ := HG.out W (hwr.trans' (hW.mono (fun j hj => by have := HS1.out.1; have := HZZ.out.1; omega)))
   exact ⟨h0, h1, h2, h3, h4, hW.cell hcol (fun h => by rw [show (ad.add k).block = ad.block from by unfold Addr.add; split <;> rfl] at h; have := HZZ.out.1; omega)⟩⟩
  have S4 := HSS.out wr (Fr.refl _ _)
  have hzgI := za.mk hzg
  clear hpol hst hq0 hCol hCf hrow hcc hCq hlq hwr hadb hbw hfz hkd hzg
  go_wp2
  obtain ⟨k0, k1, k2, k3, k4, k5⟩ := S4
  obtain ⟨j0, j1, j2, j3, j4, j5⟩ := HSS.out wr.drew ((Fr.refl _ wr).drew)
  obtain ⟨o4, _, _⟩ := HPO.out wr.drew (yf (Below.refl _ _))
  go_region_with (first
   | (go_at_call 48; with_reducible refine (HSE.out _).mono ?_; rintro e W5 ⟨B5, d5, rfl, hd5, hC5, hb5⟩; have HB5 := za.mk (ZR hb5); obtain ⟨i0, i1, i2, i3, i4, i5⟩ := HSS.out W5 (Fr.of_below HB5.out _); have HTH := za.mk (zfL W5 B5 A0 K d5 c0 (zN N K) (Jn data K k) hC5 (Kd.C_below HCF.out HB5.out) hd5 (by omega) (ZG N K hNK)); obtain ⟨o5, _, _⟩ := HPO.out W5 HB5.out; clear hC5 hb5)
   | (go_at_call 55; with_reducible refine HTH.out.mono ?_; rintro e W6 ⟨D6, d6, s6, rfl, hd6, hC6, hth, hb6⟩; have HB6 := za.mk (HB5.out.trans (hb6.mono HB5.out.size)); obtain ⟨h0, h1, h2, h3, h4, h5⟩ := HSS.out W6 (Fr.of_below HB6.out _); have HAD := za.mk (zhI W6 Bq D6 lq s6.length dq d6 q0 s6 (Kd.C_below HCQ.out HB6.out) hC6 (by have := HLQ.out; omega) (by have := zmM hth; rw [zH] at this; omega)); have HTE := za.mk (zas (ZG N K hNK) hth); obtain ⟨o6, _, _⟩ := HPO.out W6 HB6.out; clear hC6 hb6 hth)
   | (go_at_call 90; with_reducible refine HAD.out.mono ?_; rintro e W7 ⟨D7, d7, rfl, hR7, hb7⟩; have HB7 := za.mk (HB6.out.trans (hb7.mono HB6.out.size)); obtain ⟨o7, z7, hset7⟩ := HPO.out W7 HB7.out; have HSET := za.mk hset7; have HR7 := za.mk (And.intro hR7 HB6.out.size); clear hR7 hb7 hset7))
  all_goals
   have hnp := HSET.out D7 (zj (zW q0 s6)) d7 (zfq HR7.out.1) (yr (jN HR7.out.1) (by have := HZZ.out.2; have := HF.out.size; have := HR7.out.2; omega))
   have hst := HST.out
   rw [HTE.out] at hst
   rw [hst] at hnp
   have HNP := za.mk hnp
   have HNF := za.mk (HF.out.trans' ((Fr.of_below HB7.out _).set_ (p := ⟨g, k, none⟩) (.inl hzgI.out) (.slice D7 (zj (zW q0 s6)).length d7)))
   clear hnp hst
   go_wp2
   go_roundw
   case rel => exact ⟨k + 1, by omega, by go_num, HNP, HNF⟩
   simp [intOf]; omega
 obtain rfl : k = nc := by omega
 go_wp2
 go_ret
 have h1 := HZZ.out
 have h2 := HS1.out
 exact ⟨_, d4, rfl, zgD HP.out (by omega), HBB1.out.trans (hbw.mono HBB1.out.size)⟩
end Go.Proofs.Ytpeiejkcoadhfaa
