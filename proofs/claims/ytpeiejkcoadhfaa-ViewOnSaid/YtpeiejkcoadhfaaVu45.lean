/- What the view's laws take, Vu45: VwCJ. -/
import Derived.Test.YtpeiejkcoadhfaaVu25
import Derived.Test.YtpeiejkcoadhfaaVu33
import Derived.Test.YtpeiejkcoadhfaaVu39
import Derived.Test.YtpeiejkcoadhfaaVu44
set_option linter.all false
namespace Go.Proofs.Ytpeiejkcoadhfaa
open Go.RowKit Go.Shelf Go.Proofs.YtpeiejkcoadhfaaW.PrintWords Go.Proofs.YtpeiejkcoadhfaaW.PrintMore
open Go.BigFrame
attribute [local go_sem] Oper.semAt_some
theorem zkW {w : World} {v : Value} {bl : List Nat} {E : List (List Int)} {b : Nat} (h : yX w b v bl E) : ∃ S c, v = .slice S E.length c ∧ yX w b (.slice S E.length c) bl E := by
 obtain ⟨S, c, rfl, _⟩ := zgl h
 exact ⟨S, c, rfl, h⟩
set_option maxRecDepth 100000 in
set_option maxHeartbeats 12800000 in
theorem zaG (w : World) (nN nT nK : Nat) (E Rm : Int) (A : Option Addr) (n ca : Nat) (fr : List F) (ha : Kd.C fk w A n fr) (hca : n ≤ ca) (B : Option Addr) (cb : Nat) (nw : List F) (hb : Kd.C fk w B n nw) (hcb : n ≤ cb) (X : Option Addr) (nr cr : Nat) (rs : List Ri) (hR : RL w X nr rs) (hsm : ∀ r ∈ rs, r.ds.length ≤ 9223372036854775807 ∧ r.sn.length ≤ 9223372036854775807)
 (Z : Option Addr) (m d : Nat) (ts : List (List F)) (hT : PL w Z m ts) (hm : m ≤ 500000) (hok : yv nN nT nK E Rm n rs (ts.map List.length)) :
 Calls Try.prog 74 #[zv nN nT nK E Rm, .slice A n ca, .slice B n cb, .slice X nr cr, .slice Z m d] w fun e w' => ∃ O co, e = .returned (.tuple #[.slice O m co, .bool true]) ∧ PL w' O m (ZB nN nT nK fr nw rs ts) ∧ m ≤ co ∧ Below w.heap.size w w' := by
 obtain ⟨res, hres⟩ : ∃ res, res = ZB nN nT nK fr nw rs ts := ⟨_, rfl⟩
 have HRS := za.mk hres
 rw [← hres]
 clear hres
 obtain ⟨t0, tl, hts, ht0, hlen, hro, hep, g1, g2, g3, g4⟩ := zap hok
 have hnl : rs.length = nr := Zi hR
 have hdl : fr.length = n := Kd.C_len ha
 have hdl2 : nw.length = n := Kd.C_len hb
 have htl : ts.length = m := zbA hT
 have hnn : nr ≤ 1024 := by have := hok.1.2.2.2.1; omega
 have hn256 : n ≤ 256 := by have := hok.1.2.2.1; omega
 rw [Int.toNat_natCast] at ht0 hlen
 have hm1 : 0 < m := by rw [← htl, hts]; simp
 have hsn : ∀ r ∈ rs, r.sn.length ≤ 1000 ∧ ∀ x ∈ r.sn, 0 ≤ x ∧ x ≤ 255 := fun r hr => by
  have h := (hro r hr).2.2.2.2.2.1
  exact ⟨by have := jO h; omega, fun x hx => by have := yp h hx; omega⟩
 have hok2 := zdr (a := fr) (b := nw) (rs0 := rs) g1 g2 g3 hep rs [] [] tl (by rw [ZF]; rfl) hro hlen
 obtain ⟨W0, hW0, hz0, a0, hb0⟩ := zU w (Obj.cells #[.int .i64 nN, .int .i64 nT, .int .i64 nK, .int .i64 E, .int .i64 Rm] 48)
 have HRT := za.mk (zbc W0 nN nT nK E Rm n X nr cr rs (zA hR hb0) (by omega) hsm (by omega) Z m d ts (zG hT hb0) (by omega))
 rw [decide_eq_true hok] at HRT
 have HB0 := za.mk hb0
 have HP0 := za.mk a0
 obtain ⟨s, hs⟩ : ∃ s, s = w.heap.size := ⟨_, rfl⟩
 rw [← hs] at HP0
 have HW0 := za.mk hW0
 have HS := za.mk hs
 obtain ⟨cols, hcols⟩ : ∃ cols, cols = ye n nK := ⟨_, rfl⟩
 rw [← hcols] at ht0 hlen hok2
 have hcl : cols ≤ 256 := by rw [hcols]; exact Nat.le_trans (Zx n nK g2) hn256
 have hSP : ∀ (D : Option Addr) (c : Nat) (xs : List F), Kd.C fk w D n xs → n ≤ c → ∀ W, Below w.heap.size w W → Calls Try.prog 37 #[.slice D n c, .int .i64 nK] W fun e w' => ∃ P d, e = .returned (.slice P cols d) ∧ Kd.C u8s w' P cols (jd (bs xs) nK) ∧ Below W.heap.size W w' := fun D c xs hC hc W hW => by
  refine (zcp W D n c nK (bs xs) (Jz.2 (Kd.C_below hC hW)) hc g2 (by omega) (by omega)).mono ?_
  rintro e w' ⟨P, d, rfl, hS, hf⟩
  have h := Kd.S_reads' hS
  have h2 := h.2.2
  rw [← h.1] at h2
  rw [hcols]
  exact ⟨P, d, rfl, h2, hf.f_below⟩
 have HSA := za.mk (hSP A ca fr ha hca)
 have HSB := za.mk (hSP B cb nw hb hcb)
 have HNW := za.mk (fun W => zji W)
 obtain ⟨ne, hne⟩ : ∃ ne, ne = (ym rs).length := ⟨_, rfl⟩
 have hne2 : ne = zdO rs + 1 := by rw [hne]; exact ziz rs
 have hnel : ne ≤ 1025 := by rw [hne]; have := zew rs; omega
 have HSN : za (∀ W, Below w.heap.size w W → Calls Try.prog 100 #[.slice X nr cr] W fun e w' => ∃ S c bl, e = .returned (.slice S ne c) ∧ yX w' W.heap.size (.slice S ne c) bl (ym rs) ∧ Below W.heap.size W w') := ⟨fun W hW => by
  refine (zhP W X nr cr rs (zA hR hW) hnn hsn).mono ?_
  rintro e w' ⟨v, bl, rfl, hS, hb⟩
  obtain ⟨S, c, rfl, hS2⟩ := zkW hS
  rw [← hne] at hS2 ⊢
  exact ⟨S, c, bl, rfl, hS2, hb⟩⟩
 have HC2 : za (∀ W, Below W0.heap.size W0 W → W.cell? ⟨s, 2, none⟩ = some (.int .i64 nK)) := ⟨fun W hW => zh (zl HP0.out hW) rfl⟩
 have HC5 : za (∀ W, Below W0.heap.size W0 W → W.cell? ⟨s, 0, none⟩ = some (.int .i64 nN) ∧ W.cell? ⟨s, 1, none⟩ = some (.int .i64 nT) ∧ W.cell? ⟨s, 2, none⟩ = some (.int .i64 nK) ∧ W.cell? ⟨s, 3, none⟩ = some (.int .i64 E) ∧ W.cell? ⟨s, 4, none⟩ = some (.int .i64 Rm)) := ⟨fun W hW => by
  have h := zl HP0.out hW
  exact ⟨zh h rfl, zh h rfl, zh h rfl, zh h rfl, zh h rfl⟩⟩
 have HBT : za (∀ W W', Below W0.heap.size W0 W → Below W.heap.size W W' → Below W0.heap.size W0 W') := ⟨fun W W' h h' => h.trans (h'.mono h.size)⟩
 have HW : za (∀ W, Below W0.heap.size W0 W → Below w.heap.size w W) := ⟨fun W h => HB0.out.trans (h.mono HB0.out.size)⟩
 have hu48 := Try.underlying48
 have hu90 := Try.underlying90
 have hu134 := Try.underlying134
 have hnb : ((n : Int) != (n : Int)) = false := by simp
 unfold zv at *
 have HA := za.mk ha
 have HB := za.mk hb
 have HRL := za.mk hR
 have HT := za.mk hT
 have HLEN := za.mk hlen
 have HRO := za.mk hro
 have HEP := za.mk hep
 have HTS := za.mk hts
 have HT0 := za.mk ht0
 have HNL := za.mk hnl
 have HDL := za.mk hdl
 have HDL2 := za.mk hdl2
 have HTL := za.mk htl
 have HCOLS := za.mk hcols
 have HOK2 := za.mk hok2
 have HNE := za.mk hne
 have HNE2 := za.mk hne2
 have HHE : za (∀ e, (jQ nN ((ym rs).getD e [])).length ≤ nT) := ⟨fun e => by
  rcases Nat.lt_or_ge e (ym rs).length with h | h
  ·exact hep _ (by rw [List.getD_eq_getElem?_getD, List.getElem?_eq_getElem h]; exact List.getElem_mem h)
  rw [List.getD_eq_getElem?_getD, List.getElem?_eq_none h]
  unfold jQ
  rw [List.filter_eq_nil_iff.2 (by simp)]
  exact Nat.zero_le _⟩
 have HG := za.mk (And.intro g1 (And.intro g2 (And.intro g3 g4)))
 clear ha hb hR hsm hT hok hlen hro hep hts hnl hdl hdl2 htl hW0 hz0 a0 hb0 hcols ht0 hs hok2 hsn hSP hne hne2
 go_enter Try.func74, Try.ntmps74
 go_wp2_with (go_at_call 105; rw [← HW0.out, ← HS.out]; with_reducible refine HRT.out.mono ?_; rintro e w1 ⟨rfl, hb1⟩; have HB1 := za.mk hb1; clear hb1)
 have HB1d : za (Below W0.heap.size W0 w1.drew) := ⟨HB1.out.drew⟩
 have k0 := za.mk (HC2.out _ HB1d.out)
 refine wp_region_held_drew (S := (fun W => W.cell? ⟨s, 2, none⟩ = some (.int .i64 nK))) (by kernel_rfl) (k0.out) (fun hS => ?_)
 refine zk 0 50 hS ?_
 refine zk 1 51 hS ?_
 refine zk 2 52 hS ?_
 refine zk 4 54 hS ?_
 refine zk 5 55 hS ?_
 refine zk 6 56 hS ?_
 refine wpAnyH_ready (rs := [3]) (by kernel_rfl) (by simp) ?_
 refine AllReadyH.cons rfl (fun K hK => ?_) AllReadyH.nil
 rw [if_pos (by rfl)]
 go_simp
 go_at_call 37; first | (with_reducible refine (HSA.out _ (HW.out _ HB1d.out)).mono ?_; rintro e w2 ⟨Pa, pa, rfl, hPa, hb2⟩; have HPA := za.mk hPa; have HB2 := za.mk (HBT.out _ _ HB1d.out hb2); have k1 := za.mk (HC2.out _ HB2.out); clear hPa hb2) | (with_reducible refine (HSB.out _ (HW.out _ HB2.out)).mono ?_; rintro e w3 ⟨Pb, pb, rfl, hPb, hb3⟩; have HPB := za.mk hPb; have HB23 := za.mk hb3; have HB3 := za.mk (HBT.out _ _ HB2.out hb3); have k2 := za.mk (HC2.out _ HB3.out); clear hPb hb3)
 refine hK.out _ _ (by first | with_reducible exact k2.out | with_reducible exact k1.out) (fun hS2 => ?_)
 clear hK K hS
 have hS := hS2
 clear hS2
 try simp only [Act.put, List.setIfInBounds_toArray, List.set_cons_zero, List.set_cons_succ]
 refine wpAnyH_ready (rs := [7]) (by kernel_rfl) (by simp) ?_
 refine AllReadyH.cons rfl (fun K hK => ?_) AllReadyH.nil
 rw [if_pos (by rfl)]
 go_simp
 go_at_call 37; first | (with_reducible refine (HSA.out _ (HW.out _ HB1d.out)).mono ?_; rintro e w2 ⟨Pa, pa, rfl, hPa, hb2⟩; have HPA := za.mk hPa; have HB2 := za.mk (HBT.out _ _ HB1d.out hb2); have k1 := za.mk (HC2.out _ HB2.out); clear hPa hb2) | (with_reducible refine (HSB.out _ (HW.out _ HB2.out)).mono ?_; rintro e w3 ⟨Pb, pb, rfl, hPb, hb3⟩; have HPB := za.mk hPb; have HB23 := za.mk hb3; have HB3 := za.mk (HBT.out _ _ HB2.out hb3); have k2 := za.mk (HC2.out _ HB3.out); clear hPb hb3)
 refine hK.out _ _ (by first | with_reducible exact k2.out | with_reducible exact k1.out) (fun hS2 => ?_)
 clear hK K hS
 have hS := hS2
 clear hS2
 try simp only [Act.put, List.setIfInBounds_toArray, List.set_cons_zero, List.set_cons_succ]
 refine zk 8 12 hS ?_
 refine zk 9 13 hS ?_
 refine wpAnyH_done (by kernel_rfl) ?_ _
 clear hS k0 k1 k2
 go_wp2
 have HB3d : za (Below W0.heap.size W0 w3.drew) := ⟨HB3.out.drew⟩
 have k0 := za.mk (HC5.out _ HB3d.out)
 have HST : za (∀ W W' o, Below W0.heap.size W0 W → Below W.heap.size W W' → Below W0.heap.size W0 (W'.alloc o)) := ⟨fun W W' o h h' => zc (h.trans (h'.mono h.size)) _⟩
 refine wp_region_held_drew (S := (fun W => W.cell? ⟨s, 0, none⟩ = some (.int .i64 nN) ∧ W.cell? ⟨s, 1, none⟩ = some (.int .i64 nT) ∧ W.cell? ⟨s, 2, none⟩ = some (.int .i64 nK) ∧ W.cell? ⟨s, 3, none⟩ = some (.int .i64 E) ∧ W.cell? ⟨s, 4, none⟩ = some (.int .i64 Rm))) (by kernel_rfl) (k0.out) (fun hS => ?_)
 refine zk 1 59 hS ?_
 refine zk 2 60 hS ?_
 refine zk 3 61 hS ?_
 refine wpAnyH_ready (rs := [0]) (by kernel_rfl) (by simp) ?_
 refine AllReadyH.cons rfl (fun K hK => ?_) AllReadyH.nil
 rw [if_pos (by rfl)]
 go_simp
 go_at_call 28; with_reducible refine (HNW.out _).mono ?_; rintro e w4 ⟨g, rfl, hg0, hg, hF, hf4⟩; have HF4 := za.mk hF; have HG4 := za.mk hg; have HB4 := za.mk (HBT.out _ _ HB3d.out hf4.f_below); have HB34 := za.mk hf4.f_below; have k1 := za.mk (HC5.out _ HB4.out); have k2 := za.mk (HC5.out _ (HST.out _ _ (yx g nN nT nK E Rm cols (.slice none 0 0)) HB3d.out hf4.f_below)); clear hF hg0 hg hf4
 refine hK.out _ _ (by first | with_reducible exact k1.out | exact k2.out) (fun hS2 => ?_)
 clear hK K hS
 have hS := hS2
 clear hS2
 try simp only [Act.put, List.setIfInBounds_toArray, List.set_cons_zero, List.set_cons_succ]
 refine zk 4 62 hS ?_
 refine wpAnyH_ready (rs := [5]) (by kernel_rfl) (by simp) ?_
 refine AllReadyH.cons rfl (fun K hK => ?_) AllReadyH.nil
 rw [if_pos (by rfl)]
 go_simp
 refine hK.out _ _ (by first | with_reducible exact k1.out | exact k2.out) (fun hS2 => ?_)
 clear hK K hS
 have hS := hS2
 clear hS2
 try simp only [Act.put, List.setIfInBounds_toArray, List.set_cons_zero, List.set_cons_succ]
 refine zk 6 14 hS ?_
 refine wpAnyH_done (by kernel_rfl) ?_ _
 clear hS k0 k1 k2
 obtain ⟨W5, hW5, hz5, a5, hb5⟩ := zU w4 (Obj.cells #[.pointer (some ⟨g, 0, none⟩), .int .i64 nN, .int .i64 nT, .int .i64 nK, .int .i64 E, .int .i64 Rm, .int .i64 (cols : Int), .slice none 0 0] 134)
 rw [← hW5]
 obtain ⟨s1, hs1⟩ : ∃ s1, s1 = w4.heap.size := ⟨_, rfl⟩
 rw [← hs1]
 rw [← hs1] at a5 hz5
 have HS5 : za (W5.heap[s1]? = some (yx g nN nT nK E Rm cols (.slice none 0 0))) := ⟨a5⟩
 have HZ5 := za.mk (And.intro hs1 hz5)
 have HB5 : za (Below w4.heap.size w4 W5) := ⟨hb5⟩
 have HPRE : za (∀ W, Below w4.heap.size w4 W → (Kd.C u8s W Pa cols (jd (bs fr) nK) ∧ Kd.C u8s W Pb cols (jd (bs nw) nK) ∧ Fld W g ∧ Below w.heap.size w W) ∧ W.cell? ⟨s, 0, none⟩ = some (.int .i64 nN) ∧ W.cell? ⟨s, 1, none⟩ = some (.int .i64 nT) ∧ W.cell? ⟨s, 2, none⟩ = some (.int .i64 nK) ∧ W.cell? ⟨s, 3, none⟩ = some (.int .i64 E) ∧ W.cell? ⟨s, 4, none⟩ = some (.int .i64 Rm)) := ⟨fun W hW => by
  have h0 : Below W0.heap.size W0 W := HB4.out.trans (hW.mono HB4.out.size)
  have h3 : Below w3.drew.heap.size w3.drew W := HB34.out.trans (hW.mono HB34.out.size)
  refine ⟨⟨Kd.C_below (Kd.C_below (Kd.C_below HPA.out HB23.out) ((Below.refl _ w3).drew)) h3, Kd.C_below (Kd.C_below HPB.out ((Below.refl _ w3).drew)) h3, HF4.out.fr (Fr.of_below hW (fun _ => False)) (fun h => h), HW.out _ h0⟩, HC5.out _ h0⟩⟩
 have HSN5 := za.mk (HSN.out W5 (HW.out _ (HB4.out.trans (HB5.out.mono HB4.out.size))))
 obtain ⟨bp, hbp⟩ : ∃ bp : Nat → Nat → List F, bp = fun e c => byP nN nT nK fr nw rs e c := ⟨_, rfl⟩
 have HBP := za.mk hbp
 clear hW5 hs1 hz5 a5 hb5 hbp HSN HPA HPB HB1 HB1d HB2 HB3 HB3d HB23 HB34 HC2 HRT HSA HSB HNW HST HBT HP0
 go_wp2_with (go_at_call 100; with_reducible refine HSN5.out.mono ?_; rintro e V ⟨Se, ce, bl, rfl, hS, hbV⟩; have HSE := za.mk hS; have HBV := za.mk hbV; clear hS hbV)
 have HBV4 : za (Below w4.heap.size w4 V) := ⟨HB5.out.trans (HBV.out.mono HB5.out.size)⟩
 have HSV : za (V.heap[s1]? = some (yx g nN nT nK E Rm cols (.slice none 0 0))) := ⟨zl HS5.out HBV.out⟩
 have HSL : za (s1 < W5.heap.size ∧ s1 < V.heap.size ∧ w4.heap.size ≤ s1) := ⟨by
  have h1 := HZ5.out.1
  have h2 := HZ5.out.2
  have h3 := HBV.out.size
  exact ⟨by omega, by omega, by omega⟩⟩
 clear HS5 HSN5 HB5 HBV HC5 HZ5
 go_loopw [67] (fun v67 wr => ∃ (i : Nat) (Bv : Option Addr) (cv : Nat), i ≤ ne ∧ v67 = .int .i64 i ∧ za (wr.heap[s1]? = some (yx g nN nT nK E Rm cols (.slice Bv i cv))) ∧ za (ByJ wr V.heap.size (.slice Bv i cv) ((List.range i).map fun e => (List.range cols).map (bp e))) ∧ za (Fr (fun k => k = s1) V wr)) (fun v67 _ => ne - (intOf v67).toNat)
 case atStart => exact ⟨0, none, 0, by omega, rfl, HSV, ⟨zoF _ _⟩, ⟨Fr.refl _ _⟩⟩
 obtain ⟨i, Bv, cv, hi, rfl, HS1, HBJ, HFr⟩ := hrel
 obtain ⟨Wi, hWi⟩ : ∃ Wi, Wi = wr := ⟨_, rfl⟩
 rw [← hWi] at HS1 HBJ HFr ⊢
 have HI4 : za (∀ W, Below Wi.heap.size Wi W → Below w4.heap.size w4 W) := ⟨fun W hW => by
  have h1 := HFr.out.below HBV4.out.size (fun k hk => by have := HSL.out.2.2; omega)
  have h2 := HBV4.out.trans h1
  exact h2.trans (hW.mono h2.size)⟩
 by_cases hlt : i < ne
 ·obtain ⟨S', c', eS, -, hat⟩ := zgl (zkC HSE.out HFr.out HSL.out.1)
  have hlte : i < (ym rs).length := by rw [← HNE.out]; exact hlt
  obtain ⟨adS, mm, e2, hcS, hMp⟩ := hat i hlte
  injection eS with eS e3 e4
  rw [e2] at eS
  subst eS
  clear hat e2 e3 e4
  obtain ⟨cur, hcur⟩ : ∃ cur, cur = (ym rs).getD i [] := ⟨_, rfl⟩
  rw [← hcur] at hMp
  have hcm : cur ∈ ym rs := by rw [hcur, List.getD_eq_getElem?_getD, List.getElem?_eq_getElem hlte]; exact List.getElem_mem hlte
  have hhl := zgC (N := nN) (HEP.out cur hcm)
  obtain ⟨hl, hhd⟩ : ∃ hl, hl = zbN nN nT cur := ⟨_, rfl⟩
  have hnd : hl.Nodup := by rw [hhd]; exact zfw
  have hlN : ∀ h ∈ hl, h < nN := by rw [hhd]; exact zma
  rw [← hhd] at hhl
  obtain ⟨lh, hlh⟩ : ∃ lh, lh = hl.length := ⟨_, rfl⟩
  have hbpi : ∀ c, bp i c = Zm nN nK (JS nK fr nw c) hl := fun c => by rw [HBP.out, hhd, hcur]; rfl
  have HHID : za (∀ W, Below Wi.heap.size Wi W → Calls Try.prog 110 #[.agg #[.int .i64 nN, .int .i64 nT, .int .i64 nK, .int .i64 E, .int .i64 Rm], .map (some mm)] W fun e w' => ∃ H dh, e = .returned (.slice H lh dh) ∧ Kd.C kn w' H lh hl ∧ Below W.heap.size W w') := ⟨fun W hW => by
   refine (ziM W nN nT nK E Rm mm cur (Jx hMp (Fr.of_below hW (fun _ => False)) (fun h => h)) (by omega) (by omega)).mono ?_
   rintro e w' ⟨H, dh, rfl, h1, h2⟩
   rw [← hhd, ← hlh] at h1 ⊢
   exact ⟨H, dh, rfl, R_C h1, h2⟩⟩
  have HDIF : za (∀ W D cd H dh c, Below Wi.heap.size Wi W → Kd.C fk W D nK (JS nK fr nw c) → Kd.C kn W H lh hl → Calls Try.prog 109 #[.pointer (some ⟨s1, 0, none⟩), .slice D nK cd, .slice H lh dh] W fun e w' => ∃ Q, e = .returned (.slice Q (bp i c).length (bp i c).length) ∧ RF w' W.heap.size Q (bp i c) ∧ Fr (fun _ => False) W w') := ⟨fun W D cd H dh c hW hD hH => by
   rw [hbpi c]
   exact zdY W s1 g nN nT nK E Rm cols _ (zl HS1.out hW) (HPRE.out W (HI4.out W hW)).1.2.2.1 D cd _ hD H lh dh hl hH (by omega) (by omega) (by omega) hnd hlN (by rw [hlh]; have := HG.out; omega)⟩
  have hltI : (i : Int) < (ne : Int) := by omega
  clear hMp hcm hhl hnd hlN hhd hlh hbpi hcur hlte
  clear hWi
  go_wp2
  go_loopw [18, 73] (fun v18 v73 wq => ∃ (c cp : Nat) (D : Option Addr), c ≤ cols ∧ v73 = .int .i64 c ∧ v18 = .slice D c cp ∧ za (yQ wq Wi.heap.size (.slice D c cp) ((List.range c).map (bp i))) ∧ za (Below Wi.heap.size Wi wq)) (fun _ v73 _ => cols - (intOf v73).toNat)
  case atStart => exact ⟨0, 0, none, by omega, rfl, rfl, ⟨ziw _ _⟩, ⟨Below.refl _ _⟩⟩
  obtain ⟨c, cp, D, hc, rfl, rfl, HJ, HBq⟩ := hrel
  by_cases hltc : c < cols
  ·obtain ⟨⟨hPa, hPb, -, -⟩, -⟩ := HPRE.out wr (HI4.out wr HBq.out)
   obtain ⟨adA, A0, c0, rfl, hxa, -, hCa⟩ := zfH hPa (by rw [HDL.out]; exact HCOLS.out) c hltc
   obtain ⟨adB, B0, d0, rfl, hxb, -, hCb⟩ := zfH hPb (by rw [HDL2.out]; exact HCOLS.out) c hltc
   have HSUM : za (Calls Try.prog 63 #[.slice A0 nK c0, .slice B0 nK d0] wr.drew fun e w' => ∃ D cd, e = .returned (.tuple #[.slice D nK cd, .bool true]) ∧ Kd.C fk w' D nK (JS nK fr nw c) ∧ Below wr.heap.size wr w') := ⟨by
    refine (zgw wr.drew A0 B0 nK c0 d0 _ _ (Kd.C_below hCa ((Below.refl _ wr).drew)) (Kd.C_below hCb ((Below.refl _ wr).drew)) (by omega)).mono ?_
    rintro e w' ⟨D, cd, rfl, h1, h2⟩
    exact ⟨D, cd, rfl, R_C h1, ZR h2⟩⟩
   obtain ⟨dc, hdc⟩ : ∃ dc, dc = JS nK fr nw c := ⟨_, rfl⟩
   rw [← hdc] at HSUM
   have HK : za (∀ W, Below wr.heap.size wr W → W.cell? (adA.add c) = some (.slice A0 nK c0) ∧ W.cell? (adB.add c) = some (.slice B0 nK d0)) := ⟨fun W hW => ⟨(Fr.of_below hW (fun _ => False)).cell hxa (fun h => h), (Fr.of_below hW (fun _ => False)).cell hxb (fun h => h)⟩⟩
   have HBI : za (∀ W, Below wr.heap.size wr W → Below Wi.heap.size Wi W) := ⟨fun W hW => HBq.out.trans (hW.mono HBq.out.size)⟩
   obtain ⟨q, hq⟩ : ∃ q, q = bp i c := ⟨_, rfl⟩
   obtain ⟨lq, hlq⟩ : ∃ lq, lq = q.length := ⟨_, rfl⟩
   have HDI : za (∀ W D cd H dh, Below Wi.heap.size Wi W → Kd.C fk W D nK dc → Kd.C kn W H lh hl → Calls Try.prog 109 #[.pointer (some ⟨s1, 0, none⟩), .slice D nK cd, .slice H lh dh] W fun e w' => ∃ Q, e = .returned (.slice Q lq lq) ∧ RF w' W.heap.size Q q ∧ Below W.heap.size W w') := ⟨fun W D cd H dh hW hD hH => by
    rw [hdc] at hD
    refine (HDIF.out W D cd H dh c hW hD hH).mono ?_
    rintro e w' ⟨Q, rfl, h1, h2⟩
    rw [← hq] at h1 ⊢
    rw [← hlq]
    exact ⟨Q, rfl, h1, h2.f_below⟩⟩
   have HSTEP : za (∀ w7 w8 Q, Below wr.heap.size wr w7 → RF w8 w7.heap.size Q q → Below w7.heap.size w7 w8 → ∃ D2 cp2 w9, (Builtin.append_ #[37, 37] 37 #[.slice D c cp, .slice (some ⟨w8.heap.size, 0, none⟩) 1 1]).run Try.prog (w8.alloc (.cells #[.slice Q lq lq] 36)) = .ok (.slice D2 (c + 1) cp2) w9 ∧ za (yQ w9 Wi.heap.size (.slice D2 (c + 1) cp2) ((List.range (c + 1)).map (bp i))) ∧ za (Below Wi.heap.size Wi w9)) := ⟨fun w7 w8 Q h7 hQ h8 => by
    have hb8 := h7.trans (h8.mono h7.size)
    have hJ8 := JG HJ.out (Fr.of_below hb8 (fun _ => False))
    obtain ⟨D2, cp2, w9, hrun, hJ9, hb9, hf9⟩ := zds hJ8 (HBI.out _ hb8) Q q q.length (yr hQ (HBI.out _ h7).size) (Nat.le_refl _) (by omega)
    rw [← hlq] at hrun
    rw [hq, ← List.map_singleton (f := bp i), ← List.map_append, ← List.range_succ] at hJ9
    exact ⟨D2, cp2, w9, hrun, ⟨hJ9⟩, ⟨hb9⟩⟩⟩
   have hcI : (c : Int) < (cols : Int) := by omega
   obtain ⟨y1, y2⟩ := HK.out wr (Below.refl _ _)
   clear hPa hPb hxa hxb hCa hCb hdc hq hlq
   go_wp2
   clear y1 y2
   have k0 := za.mk (HK.out wr.drew (Below.refl _ _).drew)
   refine wp_region_held_drew (S := (fun W => W.cell? (adA.add c) = some (.slice A0 nK c0) ∧ W.cell? (adB.add c) = some (.slice B0 nK d0))) (by kernel_rfl) (k0.out) (fun hS => ?_)
   refine zk 0 77 hS ?_
   refine zk 1 78 hS ?_
   refine zk 2 79 hS ?_
   refine zk 3 80 hS ?_
   refine zk 4 81 hS ?_
   refine zk 5 82 hS ?_
   refine zk 6 83 hS ?_
   refine zk 7 84 hS ?_
   refine wpAnyH_ready (rs := [8]) (by kernel_rfl) (by simp) ?_
   refine AllReadyH.cons rfl (fun K hK => ?_) AllReadyH.nil
   rw [if_pos (by rfl)]
   go_simp
   go_at_call 63; with_reducible refine HSUM.out.mono ?_; rintro e w6 ⟨Dd, cd, rfl, hDd, hb6⟩; have HDD := za.mk hDd; have HB6 := za.mk hb6; have k1 := za.mk (HK.out _ hb6); clear hDd hb6
   refine hK.out _ _ (by with_reducible exact k1.out) (fun hS2 => ?_)
   clear hK K hS
   have hS := hS2
   clear hS2
   try simp only [Act.put, List.setIfInBounds_toArray, List.set_cons_zero, List.set_cons_succ]
   refine zk 9 76 hS ?_
   refine zk 10 86 hS ?_
   refine zk 11 87 hS ?_
   refine zk 12 20 hS ?_
   refine zk 13 21 hS ?_
   refine wpAnyH_done (by kernel_rfl) ?_ _
   clear hS k0 k1
   obtain ⟨-, p0, p1, p2, p3, p4⟩ := HPRE.out w6 (HI4.out w6 (HBI.out _ HB6.out))
   have HBT : za (∀ W W', Below wr.heap.size wr W → Below W.heap.size W W' → Below wr.heap.size wr W') := ⟨fun W W' h h' => h.trans (h'.mono h.size)⟩
   have HDC : za (∀ W', Below w6.heap.size w6 W' → Kd.C fk W' Dd nK dc) := ⟨fun W' h => Kd.C_below HDD.out h⟩
   go_wp2_with (first
    | (go_at_call 110; with_reducible refine (HHID.out _ (HBI.out _ HB6.out)).mono ?_; rintro e w7 ⟨H, dh, rfl, hH, hb7⟩; have HB7 := za.mk (HBT.out _ _ HB6.out hb7); have HH := za.mk hH; have HD7 := za.mk (HDC.out _ hb7); clear hH hb7)
    | (go_at_call 109; with_reducible refine (HDI.out _ _ _ _ _ (HBI.out _ HB7.out) HD7.out HH.out).mono ?_; rintro e w8 ⟨Q, rfl, hQ, hb8⟩; obtain ⟨D2, cp2, w9, run9, HJ9, HB9⟩ := HSTEP.out w7 w8 Q HB7.out hQ hb8; clear hQ hb8)
    | (at_builtin; refine zm rfl _ _ _ _ rfl rfl rfl run9 ?_))
   clear run9 p0 p1 p2 p3 p4
   go_roundw
   case rel => exact ⟨c + 1, cp2, D2, by omega, by go_num, rfl, HJ9, HB9⟩
   simp [intOf]; omega
  obtain rfl : cols = c := by omega
  have hs1 := zl HS1.out HBq.out
  obtain ⟨A9, c9, w9, run9, hBJ, hf9⟩ := zlX (zhB HBJ.out (Fr.of_below HBq.out (fun _ => False))) (Nat.le_trans HFr.out.size HBq.out.size) D ((List.range cols).map (bp i)) cols cp (zlr HJ.out HFr.out.size) (by omega)
  have hs9 : w9.heap[s1]? = some (yx g nN nT nK E Rm cols (.slice Bv i cv)) := hf9.blk hs1 (fun h => by have := HSL.out.2.1; omega)
  have hc1 : wr.cell? ⟨s1, 7, none⟩ = some (.slice Bv i cv) := by
   unfold yx at hs1
   exact zh hs1 rfl
  have hc9 : w9.cell? ⟨s1, 7, none⟩ = some (.slice Bv i cv) := by
   unfold yx at hs9
   exact zh hs9 rfl
  have hz9 : w9.frozen? ⟨s1, 7, none⟩ = false := by
   unfold yx at hs9
   exact yV hs9
  have HS10 : za ((w9.setCell ⟨s1, 7, none⟩ (.slice A9 (i + 1) c9)).heap[s1]? = some (yx g nN nT nK E Rm cols (.slice A9 (i + 1) c9))) := ⟨zmx hs9 _⟩
  have hfs : Fr (fun k => k = s1) w9 (w9.setCell ⟨s1, 7, none⟩ (.slice A9 (i + 1) c9)) := (Fr.refl (fun k => k = s1) w9).set_ (p := ⟨s1, 7, none⟩) (.inl rfl) _
  have HBJ10 : za (ByJ (w9.setCell ⟨s1, 7, none⟩ (.slice A9 (i + 1) c9)) V.heap.size (.slice A9 (i + 1) c9) ((List.range (i + 1)).map fun e => (List.range cols).map (bp e))) := ⟨by
   have h1 := zpw hBJ hfs (fun k hk => by have := HSL.out.2.1; omega)
   rw [List.range_succ, List.map_append]
   exact h1⟩
  have HFr10 : za (Fr (fun k => k = s1) V (w9.setCell ⟨s1, 7, none⟩ (.slice A9 (i + 1) c9))) := ⟨((HFr.out.trans (Fr.of_below HBq.out (fun _ => False)) (fun _ h => h.elim)).trans hf9 (fun k hk => .inr hk.1)).trans hfs (fun k hk => .inl hk)⟩
  clear hs1 hBJ hf9 hs9 hfs
  go_wp2_with (at_builtin; refine zm rfl _ _ _ _ rfl rfl rfl run9 ?_)
  clear run9 hc1 hc9 hz9
  go_roundw
  case rel => exact ⟨i + 1, A9, c9, by omega, by go_num, HS10, HBJ10, HFr10⟩
  simp [intOf]; omega
 obtain rfl : ne = i := by omega
 obtain ⟨pp, hpp⟩ : ∃ pp : Nat → List F, pp = fun c => Zm nN nK (JS nK fr nw c) [] := ⟨_, rfl⟩
 have HPP := za.mk hpp
 have HDIF : za (∀ W D cd c, Below Wi.heap.size Wi W → Kd.C fk W D nK (JS nK fr nw c) → Calls Try.prog 109 #[.pointer (some ⟨s1, 0, none⟩), .slice D nK cd, .slice none 0 0] W fun e w' => ∃ Q, e = .returned (.slice Q (pp c).length (pp c).length) ∧ RF w' W.heap.size Q (pp c) ∧ Fr (fun _ => False) W w') := ⟨fun W D cd c hW hD => by
  rw [hpp]
  exact zdY W s1 g nN nT nK E Rm cols _ (zl HS1.out hW) (HPRE.out W (HI4.out W hW)).1.2.2.1 D cd _ hD none 0 0 [] (Kd.C_nil _ _) (by omega) (by omega) (by omega) List.nodup_nil (fun _ h => by cases h) (by omega)⟩
 clear hpp hWi
 go_wp2
 go_loopw [15, 111] (fun v15 v111 wq => ∃ (c cp : Nat) (D : Option Addr), c ≤ cols ∧ v111 = .int .i64 c ∧ v15 = .slice D c cp ∧ za (yQ wq Wi.heap.size (.slice D c cp) ((List.range c).map pp)) ∧ za (Below Wi.heap.size Wi wq)) (fun _ v111 _ => cols - (intOf v111).toNat)
 case atStart => exact ⟨0, 0, none, by omega, rfl, rfl, ⟨ziw _ _⟩, ⟨Below.refl _ _⟩⟩
 obtain ⟨c, cp, D, hc, rfl, rfl, HJ, HBq⟩ := hrel
 by_cases hltc : c < cols
 ·obtain ⟨⟨hPa, hPb, -, -⟩, -⟩ := HPRE.out wr (HI4.out wr HBq.out)
  obtain ⟨adA, A0, c0, rfl, hxa, -, hCa⟩ := zfH hPa (by rw [HDL.out]; exact HCOLS.out) c hltc
  obtain ⟨adB, B0, d0, rfl, hxb, -, hCb⟩ := zfH hPb (by rw [HDL2.out]; exact HCOLS.out) c hltc
  have HSUM : za (Calls Try.prog 63 #[.slice A0 nK c0, .slice B0 nK d0] wr.drew fun e w' => ∃ D cd, e = .returned (.tuple #[.slice D nK cd, .bool true]) ∧ Kd.C fk w' D nK (JS nK fr nw c) ∧ Below wr.heap.size wr w') := ⟨by
   refine (zgw wr.drew A0 B0 nK c0 d0 _ _ (Kd.C_below hCa ((Below.refl _ wr).drew)) (Kd.C_below hCb ((Below.refl _ wr).drew)) (by omega)).mono ?_
   rintro e w' ⟨D, cd, rfl, h1, h2⟩
   exact ⟨D, cd, rfl, R_C h1, ZR h2⟩⟩
  obtain ⟨dc, hdc⟩ : ∃ dc, dc = JS nK fr nw c := ⟨_, rfl⟩
  rw [← hdc] at HSUM
  have HK : za (∀ W, Below wr.heap.size wr W → W.cell? (adA.add c) = some (.slice A0 nK c0) ∧ W.cell? (adB.add c) = some (.slice B0 nK d0)) := ⟨fun W hW => ⟨(Fr.of_below hW (fun _ => False)).cell hxa (fun h => h), (Fr.of_below hW (fun _ => False)).cell hxb (fun h => h)⟩⟩
  have HBI : za (∀ W, Below wr.heap.size wr W → Below Wi.heap.size Wi W) := ⟨fun W hW => HBq.out.trans (hW.mono HBq.out.size)⟩
  obtain ⟨q, hq⟩ : ∃ q, q = pp c := ⟨_, rfl⟩
  obtain ⟨lq, hlq⟩ : ∃ lq, lq = q.length := ⟨_, rfl⟩
  have HDI : za (∀ W D cd, Below Wi.heap.size Wi W → Kd.C fk W D nK dc → Calls Try.prog 109 #[.pointer (some ⟨s1, 0, none⟩), .slice D nK cd, .slice none 0 0] W fun e w' => ∃ Q, e = .returned (.slice Q lq lq) ∧ RF w' W.heap.size Q q ∧ Below W.heap.size W w') := ⟨fun W D cd hW hD => by
   rw [hdc] at hD
   refine (HDIF.out W D cd c hW hD).mono ?_
   rintro e w' ⟨Q, rfl, h1, h2⟩
   rw [← hq] at h1 ⊢
   rw [← hlq]
   exact ⟨Q, rfl, h1, h2.f_below⟩⟩
  have HSTEP : za (∀ w7 w8 Q, Below wr.heap.size wr w7 → RF w8 w7.heap.size Q q → Below w7.heap.size w7 w8 → ∃ D2 cp2 w9, (Builtin.append_ #[37, 37] 37 #[.slice D c cp, .slice (some ⟨w8.heap.size, 0, none⟩) 1 1]).run Try.prog (w8.alloc (.cells #[.slice Q lq lq] 36)) = .ok (.slice D2 (c + 1) cp2) w9 ∧ za (yQ w9 Wi.heap.size (.slice D2 (c + 1) cp2) ((List.range (c + 1)).map pp)) ∧ za (Below Wi.heap.size Wi w9)) := ⟨fun w7 w8 Q h7 hQ h8 => by
   have hb8 := h7.trans (h8.mono h7.size)
   have hJ8 := JG HJ.out (Fr.of_below hb8 (fun _ => False))
   obtain ⟨D2, cp2, w9, hrun, hJ9, hb9, hf9⟩ := zds hJ8 (HBI.out _ hb8) Q q q.length (yr hQ (HBI.out _ h7).size) (Nat.le_refl _) (by omega)
   rw [← hlq] at hrun
   rw [hq, ← List.map_singleton (f := pp), ← List.map_append, ← List.range_succ] at hJ9
   exact ⟨D2, cp2, w9, hrun, ⟨hJ9⟩, ⟨hb9⟩⟩⟩
  have hcI : (c : Int) < (cols : Int) := by omega
  obtain ⟨y1, y2⟩ := HK.out wr (Below.refl _ _)
  clear hPa hPb hxa hxb hCa hCb hdc hq hlq
  go_wp2
  clear y1 y2
  have k0 := za.mk (HK.out wr.drew (Below.refl _ _).drew)
  refine wp_region_held_drew (S := (fun W => W.cell? (adA.add c) = some (.slice A0 nK c0) ∧ W.cell? (adB.add c) = some (.slice B0 nK d0))) (by kernel_rfl) (k0.out) (fun hS => ?_)
  refine zk 0 115 hS ?_
  refine zk 1 116 hS ?_
  refine zk 2 117 hS ?_
  refine zk 3 118 hS ?_
  refine zk 4 119 hS ?_
  refine zk 5 120 hS ?_
  refine zk 6 121 hS ?_
  refine zk 7 122 hS ?_
  refine wpAnyH_ready (rs := [8]) (by kernel_rfl) (by simp) ?_
  refine AllReadyH.cons rfl (fun K hK => ?_) AllReadyH.nil
  rw [if_pos (by rfl)]
  go_simp
  go_at_call 63; with_reducible refine HSUM.out.mono ?_; rintro e w6 ⟨Dd, cd, rfl, hDd, hb6⟩; have HDD := za.mk hDd; have HB6 := za.mk hb6; have k1 := za.mk (HK.out _ hb6); clear hDd hb6
  refine hK.out _ _ (by with_reducible exact k1.out) (fun hS2 => ?_)
  clear hK K hS
  have hS := hS2
  clear hS2
  try simp only [Act.put, List.setIfInBounds_toArray, List.set_cons_zero, List.set_cons_succ]
  refine zk 9 114 hS ?_
  refine zk 10 124 hS ?_
  refine zk 11 125 hS ?_
  refine zk 12 23 hS ?_
  refine zk 13 24 hS ?_
  refine wpAnyH_done (by kernel_rfl) ?_ _
  clear hS k0 k1
  go_wp2_with (first
   | (go_at_call 109; with_reducible refine (HDI.out _ _ _ (HBI.out _ HB6.out) HDD.out).mono ?_; rintro e w8 ⟨Q, rfl, hQ, hb8⟩; obtain ⟨D2, cp2, w9, run9, HJ9, HB9⟩ := HSTEP.out w6 w8 Q HB6.out hQ hb8; clear hQ hb8)
   | (at_builtin; refine zm rfl _ _ _ _ rfl rfl rfl run9 ?_))
  clear run9
  go_roundw
  case rel => exact ⟨c + 1, cp2, D2, by omega, by go_num, rfl, HJ9, HB9⟩
  simp [intOf]; omega
 obtain rfl : cols = c := by omega
 obtain ⟨Wp, hWp⟩ : ∃ Wp, Wp = wr := ⟨_, rfl⟩
 rw [← hWp] at HJ HBq ⊢
 have HP4 : za (∀ W, Below Wp.heap.size Wp W → Below w4.heap.size w4 W) := ⟨fun W hW => HI4.out W (HBq.out.trans (hW.mono HBq.out.size))⟩
 have hs1 := zl HS1.out HBq.out
 have HSP := za.mk hs1
 have hBJ := zhB HBJ.out (Fr.of_below HBq.out (fun _ => False))
 have HBJP := za.mk hBJ
 have hne0 : 0 < ne := by have := HNE2.out; omega
 obtain ⟨adY, Y0, cy0, eY, hY, hJY⟩ := zhw hBJ 0 hne0
 subst eY
 rw [zy _ _ _ _ hne0] at hY hJY
 rw [List.length_map, List.length_range] at hY hJY
 rw [yi] at hY
 have hwp := (HPRE.out Wp (HP4.out Wp (Below.refl _ _))).1.2.2.2
 obtain ⟨adZ, T0, tc, eZ, hZ, hZl, hZC⟩ := jV (zG HT.out hwp) 0 hm1
 subst eZ
 have ht00 : ts.getD 0 [] = t0 := by rw [HTS.out]; rfl
 rw [ht00] at hZ hZl hZC
 rw [yi] at hZ
 obtain ⟨tn, htn⟩ : ∃ tn, tn = t0.length := ⟨_, rfl⟩
 rw [← htn] at hZ hZl hZC
 have hbpl : ∀ e i, (bp e i).length ≤ 1000 := fun e i => by
  rw [HBP.out]
  refine Nat.le_trans (zcB _ _) ?_
  rw [List.length_append, zH, List.length_map]
  have := zgC (N := nN) (HHE.out e)
  have := HG.out
  omega
 have hppl : ∀ i, (pp i).length ≤ 1000 := fun i => by
  rw [HPP.out]
  refine Nat.le_trans (zcB _ _) ?_
  rw [List.length_append, zH]
  have := HG.out
  simp
  omega
 have HBPL := za.mk hbpl
 obtain ⟨sm, hsm⟩ : ∃ sm, sm = JF ((List.range cols).map (bp 0)) ((List.range cols).map pp) cols := ⟨_, rfl⟩
 have hsmg : ∀ i, i < cols → sm.getD i [] = zj (zW (bp 0 i) (pp i)) := fun i hi => by
  rw [hsm]
  unfold JF
  rw [zy _ _ _ _ hi, zy _ _ _ _ hi, zy _ _ _ _ hi]
 have HSUM : za (∀ W, Below Wp.heap.size Wp W → Calls Try.prog 112 #[.slice Y0 cols cy0, .slice D cols cp] W fun x w' => ∃ Q cq, x = .returned (.slice Q cols cq) ∧ PL w' Q cols sm ∧ Below W.heap.size W w') := ⟨fun W hW => by
  refine (zgX W Y0 cols cy0 _ D cp _ (zG (zcX hJY) hW) (zG (zcX HJ.out) hW) (by omega) (fun i hi => by rw [zy _ _ _ _ hi]; exact Nat.le_trans (hbpl 0 i) (by decide)) (fun i hi => by rw [zy _ _ _ _ hi]; exact Nat.le_trans (hppl i) (by decide))).mono ?_
  rintro x w' ⟨Q, cq, rfl, h1, h2⟩
  rw [← hsm] at h1
  exact ⟨Q, cq, rfl, zcX h1, h2⟩⟩
 obtain ⟨sl, hsl⟩ : ∃ sl, sl = zN nN nK := ⟨_, rfl⟩
 have HSEC : za (∀ W, Calls Try.prog 47 #[.agg #[.int .i64 nN, .int .i64 nT, .int .i64 nK, .int .i64 E, .int .i64 Rm]] W fun e w' => ∃ B d, e = .returned (.slice B nK d) ∧ Kd.C fk w' B nK sl ∧ Below W.heap.size W w') := ⟨fun W => by
  refine (Zz W nN nK (nT : Int) E Rm (by omega) (by omega)).mono ?_
  rintro e w' ⟨B, d, rfl, h1, h2⟩
  rw [hsl]
  exact ⟨B, d, rfl, R_C h1, h2⟩⟩
 obtain ⟨rt, hrt⟩ : ∃ rt, rt = zw sl := ⟨_, rfl⟩
 have hrl : rt.length = nK + 1 := by rw [hrt, hsl, zQ, zH]
 have HRT : za (∀ W (Y : Option Addr) d, Below Wp.heap.size Wp W → Kd.C fk W Y nK sl → Calls Try.prog 83 #[.pointer (some ⟨g, 0, none⟩), .slice Y nK d] W fun x w' => ∃ D, x = .returned (.slice D (nK + 1) (nK + 1)) ∧ Kd.C fk w' D (nK + 1) rt ∧ Below W.heap.size W w') := ⟨fun W Y d hW hC => by
  refine (JC W g Y nK d sl (HPRE.out W (HP4.out W hW)).1.2.2.1 hC (by omega)).mono ?_
  rintro x w' ⟨D, rfl, h1, h2⟩
  have h3 := h1.1
  rw [← hrt, hrl] at h3
  exact ⟨D, rfl, h3, h2.f_below⟩⟩
 obtain ⟨r0, hr0⟩ : ∃ r0, r0 = jx t0 nT (us0 nN nT nK fr nw rs) := ⟨_, rfl⟩
 have HADD : za (∀ W Q cq Rr, Below Wp.heap.size Wp W → PL W Q cols sm → Kd.C fk W Rr (nK + 1) rt → Calls Try.prog 111 #[.pointer (some ⟨s1, 0, none⟩), .slice T0 tn tc, .slice Q cols cq, .slice Rr (nK + 1) (nK + 1)] W fun x w' => ∃ O co, x = .returned (.slice O tn co) ∧ RF w' W.heap.size O r0 ∧ tn ≤ co ∧ Below W.heap.size W w') := ⟨fun W Q cq Rr hW hQ hR => by
  have hdeg : ∀ i, i < cols → (zj (Zn (sm.getD i []) rt)).length ≤ nT := fun i hi => by
   rw [hsmg i hi, hrt, hsl]
   refine zem (zfT HG.out.2.2.1 (fun j hj => ?_) ?_ ?_).2
   ·rw [HBP.out, (zaM HG.out.2.2.1 0 i (HHE.out 0)).2.1 j hj, HPP.out, (JA HG.out.2.2.1 (ZH nK fr nw i) List.nodup_nil (fun _ h => by cases h)).2.1 j hj]
   ·rw [HBP.out]
    exact (zaM HG.out.2.2.1 0 i (HHE.out 0)).2.2
   rw [HPP.out]
   intro j hj
   exact (JA HG.out.2.2.1 (ZH nK fr nw i) List.nodup_nil (fun _ h => by cases h)).2.2 j (by simp; omega)
  refine (zhx W s1 g nN nT nK E Rm cols _ (zl hs1 hW) (HPRE.out W (HP4.out W hW)).1.2.2.1 T0 tn tc t0 (Kd.C_below hZC hW) Q cq sm hQ Rr (nK + 1) (nK + 1) rt hR (Nat.le_refl _) (by omega) nK (by rw [hrt, zeh, hsl, zH]) nT (by rw [htn]; exact HT0.out) hcl (by omega) (fun i hi => by
   rw [hsmg i hi]
   refine Nat.le_trans (yR (n := 1000) (fun j hj => ?_)) (by decide)
   rw [zS, zJ _ _ (Nat.le_trans (hbpl 0 i) hj), zJ _ _ (Nat.le_trans (hppl i) hj), F.add_zero]) hdeg).mono ?_
  rintro x w' ⟨O, co, rfl, h1, h2⟩
  have e1 : jx t0 nT (fun i => Zn (sm.getD i []) rt) = r0 := by
   rw [hr0]
   refine zeH HT0.out (fun c hc i _ => ?_)
   rw [hsmg c hc, hrt, hsl, HBP.out, HPP.out]
   rfl
  rw [e1] at h1
  exact ⟨O, co, rfl, jN h1, (Kd.R_reads' h1).2.1, h2⟩⟩
 have HK : za (∀ W, Below Wp.heap.size Wp W → W.cell? adZ = some (.slice T0 tn tc) ∧ W.cell? ⟨s1, 0, none⟩ = some (.pointer (some ⟨g, 0, none⟩)) ∧ W.cell? ⟨s1, 7, none⟩ = some (.slice (some adY) ne cv) ∧ W.cell? adY = some (.slice Y0 cols cy0) ∧ W.cell? ⟨s, 0, none⟩ = some (.int .i64 nN) ∧ W.cell? ⟨s, 1, none⟩ = some (.int .i64 nT) ∧ W.cell? ⟨s, 2, none⟩ = some (.int .i64 nK) ∧ W.cell? ⟨s, 3, none⟩ = some (.int .i64 E) ∧ W.cell? ⟨s, 4, none⟩ = some (.int .i64 Rm)) := ⟨fun W hW => by
  have h := zl hs1 hW
  unfold yx at h
  have hf := Fr.of_below hW (fun _ => False)
  exact ⟨hf.cell hZ (fun h => h), zh h rfl, zh h rfl, hf.cell hY (fun h => h), (HPRE.out W (HP4.out W hW)).2⟩⟩
 have HBT : za (∀ W W', Below Wp.heap.size Wp W → Below W.heap.size W W' → Below Wp.heap.size Wp W') := ⟨fun W W' h h' => h.trans (h'.mono h.size)⟩
 have HBA : za (∀ W o, Below Wp.heap.size Wp W → Below Wp.heap.size Wp (W.alloc o)) := ⟨fun W o h => zc h _⟩
 have HPLB : za (∀ W W' Q, PL W Q cols sm → Below W.heap.size W W' → PL W' Q cols sm) := ⟨fun W W' Q h h' => zG h h'⟩
 have HR0 := za.mk hr0
 have HTN := za.mk htn
 have HBP0 : za (Below Wp.heap.size Wp Wp.drew) := ⟨(Below.refl _ _).drew⟩
 clear hs1 hBJ hY hJY hwp hZ hZl hZC ht00 htn hbpl hppl hsm hsmg hsl hrt hrl hr0 hWp HBJ HS1 HFr
 go_wp2
 have k0 := za.mk (HK.out _ HBP0.out)
 refine wp_region_held_drew (S := (fun W => W.cell? adZ = some (.slice T0 tn tc) ∧ W.cell? ⟨s1, 0, none⟩ = some (.pointer (some ⟨g, 0, none⟩)) ∧ W.cell? ⟨s1, 7, none⟩ = some (.slice (some adY) ne cv) ∧ W.cell? adY = some (.slice Y0 cols cy0) ∧ W.cell? ⟨s, 0, none⟩ = some (.int .i64 nN) ∧ W.cell? ⟨s, 1, none⟩ = some (.int .i64 nT) ∧ W.cell? ⟨s, 2, none⟩ = some (.int .i64 nK) ∧ W.cell? ⟨s, 3, none⟩ = some (.int .i64 E) ∧ W.cell? ⟨s, 4, none⟩ = some (.int .i64 Rm))) (by kernel_rfl) (k0.out) (fun hS => ?_)
 refine zk 0 133 hS ?_
 refine zk 1 134 hS ?_
 refine zk 2 135 hS ?_
 refine zk 3 136 hS ?_
 refine zk 4 137 hS ?_
 refine zk 5 138 hS ?_
 refine zk 6 139 hS ?_
 refine zk 7 140 hS ?_
 refine zk 8 141 hS ?_
 refine zk 9 142 hS ?_
 refine zk 10 143 hS ?_
 refine zk 12 145 hS ?_
 refine zk 13 146 hS ?_
 refine zk 14 147 hS ?_
 refine zk 15 148 hS ?_
 refine zk 16 149 hS ?_
 refine wpAnyH_ready (rs := [11]) (by kernel_rfl) (by simp) ?_
 refine AllReadyH.cons rfl (fun K hK => ?_) AllReadyH.nil
 rw [if_pos (by rfl)]
 go_simp
 go_at_call 112; with_reducible refine (HSUM.out _ HBP0.out).mono ?_; rintro x x1 ⟨Q, cq, rfl, hQ, hb1⟩; have HX1 := za.mk (HBT.out _ _ HBP0.out hb1); have HQ1 := za.mk hQ; have k1 := za.mk (HK.out _ HX1.out); clear hQ hb1
 refine hK.out _ _ (by first | with_reducible exact k5.out | with_reducible exact k4.out | with_reducible exact k3.out | with_reducible exact k2.out | with_reducible exact k1.out) (fun hS2 => ?_)
 clear hK K hS
 have hS := hS2
 clear hS2
 try simp only [Act.put, List.setIfInBounds_toArray, List.set_cons_zero, List.set_cons_succ]
 refine wpAnyH_ready (rs := [17]) (by kernel_rfl) (by simp) ?_
 refine AllReadyH.cons rfl (fun K hK => ?_) AllReadyH.nil
 rw [if_pos (by rfl)]
 go_simp
 go_at_call 47; with_reducible refine (HSEC.out _).mono ?_; rintro x x2 ⟨Y, dy, rfl, hR, hb2⟩; have HR := za.mk hR; have HX2 := za.mk (HBT.out _ _ HX1.out hb2); have HQ2 := za.mk (HPLB.out _ _ _ HQ1.out hb2); have k2 := za.mk (HK.out _ HX2.out); clear hR hb2
 refine hK.out _ _ (by first | with_reducible exact k5.out | with_reducible exact k4.out | with_reducible exact k3.out | with_reducible exact k2.out | with_reducible exact k1.out) (fun hS2 => ?_)
 clear hK K hS
 have hS := hS2
 clear hS2
 try simp only [Act.put, List.setIfInBounds_toArray, List.set_cons_zero, List.set_cons_succ]
 refine wpAnyH_ready (rs := [18]) (by kernel_rfl) (by simp) ?_
 refine AllReadyH.cons rfl (fun K hK => ?_) AllReadyH.nil
 rw [if_pos (by rfl)]
 go_simp
 go_at_call 83; with_reducible refine (HRT.out _ _ _ HX2.out HR.out).mono ?_; rintro x x3 ⟨Rr, rfl, hZ, hb3⟩; have HZR := za.mk hZ; have HX3 := za.mk (HBT.out _ _ HX2.out hb3); have HQ3 := za.mk (HPLB.out _ _ _ HQ2.out hb3); have k3 := za.mk (HK.out _ HX3.out); clear hZ hb3
 refine hK.out _ _ (by first | with_reducible exact k5.out | with_reducible exact k4.out | with_reducible exact k3.out | with_reducible exact k2.out | with_reducible exact k1.out) (fun hS2 => ?_)
 clear hK K hS
 have hS := hS2
 clear hS2
 try simp only [Act.put, List.setIfInBounds_toArray, List.set_cons_zero, List.set_cons_succ]
 refine wpAnyH_ready (rs := [19]) (by kernel_rfl) (by simp) ?_
 refine AllReadyH.cons rfl (fun K hK => ?_) AllReadyH.nil
 rw [if_pos (by rfl)]
 go_simp
 go_at_call 111; with_reducible refine (HADD.out _ _ _ _ HX3.out HQ3.out HZR.out).mono ?_; rintro x x4 ⟨O, co, rfl, hO, hoc, hb4⟩; have HO := za.mk hO; have HX4 := za.mk (HBT.out _ _ HX3.out hb4); have k4 := za.mk (HK.out _ HX4.out); have k5 := za.mk (HK.out _ (HBA.out _ (.cells #[.slice O tn co] 36) HX4.out)); clear hO hb4
 refine hK.out _ _ (by first | with_reducible exact k5.out | with_reducible exact k4.out | with_reducible exact k3.out | with_reducible exact k2.out | with_reducible exact k1.out) (fun hS2 => ?_)
 clear hK K hS
 have hS := hS2
 clear hS2
 try simp only [Act.put, List.setIfInBounds_toArray, List.set_cons_zero, List.set_cons_succ]
 refine wpAnyH_ready (rs := [20]) (by kernel_rfl) (by simp) ?_
 refine AllReadyH.cons rfl (fun K hK => ?_) AllReadyH.nil
 rw [if_pos (by rfl)]
 go_simp
 refine hK.out _ _ (by first | with_reducible exact k5.out | with_reducible exact k4.out | with_reducible exact k3.out | with_reducible exact k2.out | with_reducible exact k1.out) (fun hS2 => ?_)
 clear hK K hS
 have hS := hS2
 clear hS2
 try simp only [Act.put, List.setIfInBounds_toArray, List.set_cons_zero, List.set_cons_succ]
 refine zk 21 25 hS ?_
 refine wpAnyH_done (by kernel_rfl) ?_ _
 clear hS k0 k1 k2 k3 k4 k5
 obtain ⟨V7, hV7, hz7, a7, hb7⟩ := zU x4 (.cells #[.slice O tn co] 36)
 rw [← hV7]
 have hol : r0.length = tn := by rw [HR0.out, yK]; exact HTN.out.symm
 have HPJ0 : za (yQ V7 Wp.heap.size (.slice (some ⟨x4.heap.size, 0, none⟩) 1 1) [r0]) := ⟨by
  refine ⟨[(O, tn, co)], ?_, rfl, fun i hi => ?_⟩
  ·rw [hV7]
   exact Kd.R_of_own (yA (enc := ja) x4 Wp.heap.size 36 [(O, tn, co)] HX4.out.size (by simp)) (fun _ _ => trivial)
  obtain rfl : i = 0 := by rw [List.length_singleton] at hi; omega
  refine ⟨O, co, ?_, ?_, ?_⟩
  ·show (O, tn, co) = (O, r0.length, co)
   rw [hol]
  ·show r0.length ≤ co
   rw [hol]
   exact hoc
  exact zan (yr HO.out HX3.out.size) (Fr.of_below hb7 (fun _ => False)) (fun _ _ _ h => h)⟩
 have HBV7 : za (Below Wp.heap.size Wp V7) := ⟨HX4.out.trans (hb7.mono HX4.out.size)⟩
 obtain ⟨us, hus⟩ : ∃ us, us = usP nN nT nK fr nw rs := ⟨_, rfl⟩
 have HUS := za.mk hus
 have HRES0 : za ([r0] ++ Ze (yO nT nK) us ((rs.drop 0).map zM) 0 (ts.drop 1) = res) := ⟨by
  rw [HRS.out, hus, HR0.out, HTS.out]
  rfl⟩
 have HTO0 : za (zeC cols (Jm nN nK) (yO nT nK) ptF (zlV nN nT nK fr nw rs) us ((rs.drop 0).map zM) 0 (ts.drop 1)) := ⟨by
  rw [hus, HTS.out]
  exact HOK2.out⟩
 have HLN0 : za (Ji nT nK cols (rs.drop 0) (ts.drop 1)) := ⟨by
  rw [HTS.out]
  exact HLEN.out⟩
 have HCN0 : za (0 + zdO (rs.drop 0) + 1 = ne) := ⟨by
  rw [HNE2.out, List.drop_zero, Nat.zero_add]⟩
 have HRSL : za (res.length = m) := ⟨by
  rw [HRS.out]
  have h := congrArg List.length (zck (N := nN) (T := nT) (K := nK) (a := fr) (b := nw) (t0 := t0) (zbL HLEN.out))
  rw [List.length_map, List.length_map, ← HTS.out, HTL.out] at h
  exact h⟩
 clear hV7 hz7 a7 hb7 hol hus HSUM HSEC HRT HADD HBP0 HX1 HQ1 HR HX2 HQ2 HZR HX3 HQ3 HO HX4 hoc HOK2 HLEN HK HDIF HBT HBA HPLB
 go_wp2
 go_loopw [25, 26, 27, 156] (fun v25 v26 v27 v156 wq => ∃ (i nx e no co2 : Nat) (Oo : Option Addr) (out : List (List F)), i ≤ nr ∧ v156 = .int .i64 i ∧ v25 = .slice Oo no co2 ∧ v26 = .int .i64 e ∧ v27 = .int .i64 nx ∧ za (yQ wq Wp.heap.size (.slice Oo no co2) out) ∧ za (Below Wp.heap.size Wp wq) ∧ za (out ++ Ze (yO nT nK) us ((rs.drop i).map zM) e (ts.drop nx) = res) ∧ za (Ji nT nK cols (rs.drop i) (ts.drop nx)) ∧ za (zeC cols (Jm nN nK) (yO nT nK) ptF (zlV nN nT nK fr nw rs) us ((rs.drop i).map zM) e (ts.drop nx)) ∧ za (e + zdO (rs.drop i) + 1 = ne ∧ nx ≤ m)) (fun _ _ _ v156 _ => nr - (intOf v156).toNat)
 case atStart => exact ⟨0, 1, 0, 1, 1, _, [r0], by omega, rfl, rfl, rfl, rfl, HPJ0, HBV7, HRES0, HLN0, HTO0, ⟨HCN0.out, by omega⟩⟩
 clear HPJ0 HBV7 HRES0 HTO0 HLN0 HCN0
 obtain ⟨i, nx, e, no, co2, Oo, out, hi, rfl, rfl, rfl, rfl, HJ7, HB7, HRES, HLN, HTO, HCN⟩ := hrel
 by_cases hlt : i < nr
 ·have hbw := (HPRE.out wr (HP4.out wr HB7.out)).1.2.2.2
  obtain ⟨r, ad, D1, S1, nd, cd, ns, cs, hr, rfl, h0, h1, h2, h3, l1, lc1, hD, l2, lc2, hS⟩ := zdh HRL.out i hlt
  have hlen : i < rs.length := by rw [HNL.out]; exact hlt
  have hmem : r ∈ rs := by rw [hr, List.getD_eq_getElem?_getD, List.getElem?_eq_getElem hlen]; exact List.getElem_mem hlen
  have hro := HRO.out r hmem
  have hdrop : rs.drop i = r :: rs.drop (i + 1) := by
   rw [hr, List.getD_eq_getElem?_getD, List.getElem?_eq_getElem hlen, List.drop_eq_getElem_cons hlen]; rfl
  have hfw := Fr.of_below hbw (fun _ => False)
  have hc0 := hfw.cell h0 (fun h => h)
  have hc1 := hfw.cell h1 (fun h => h)
  have hc2 := hfw.cell h2 (fun h => h)
  have hc3 := hfw.cell h3 (fun h => h)
  have hndl : nd ≤ 256 := by have := jO hro.2.2.2.2.1; omega
  have hnsl : ns ≤ 255 := by have := jO hro.2.2.2.2.2.1; omega
  obtain ⟨kind, target, ds, sn⟩ := r
  simp only at hc0 hc1 l1 l2 hD hS
  have hres := HRES.out
  have hto := HTO.out
  have hln := HLN.out
  have hcn := HCN.out
  rw [hdrop] at hres hto hln hcn
  rw [List.map_cons] at hres hto
  rw [ziU] at hres
  obtain ⟨hl1, hl2, hl3⟩ := hln
  obtain ⟨-, -, -, -, ht5, ht6⟩ := hto
  rw [List.drop_drop] at hl3 hres ht6
  simp only at hl1 hl2
  have hdN : (zM ⟨kind, target, ds, sn⟩).dealers.length = nd := by
   show (ds.map Int.toNat).length = nd
   rw [List.length_map]
   exact l1
  rw [hdN] at hres ht6
  rw [l1] at hl1 hl2
  have hl3' : Ji nT nK cols (rs.drop (i + 1)) (ts.drop (nx + nd)) := by rw [← l1]; exact hl3
  have hkd : (zM ⟨kind, target, ds, sn⟩).kind = kind := rfl
  rw [hkd] at hres ht6
  have hnm : nx + nd ≤ ts.length := by
   rw [List.length_drop] at hl1
   have := hcn.2
   have := HTL.out
   omega
  obtain ⟨ch, hch⟩ : ∃ ch, ch = zbg nN nK bp e (zM ⟨kind, target, ds, sn⟩) := ⟨_, rfl⟩
  have hue : us e (zM ⟨kind, target, ds, sn⟩) = ch.map fun p => fun c => Zn (p.1 c) p.2 := by
   rw [HUS.out, zpl, hch, HBP.out]
  obtain ⟨uo, huo⟩ : ∃ uo, uo = us e (zM ⟨kind, target, ds, sn⟩) := ⟨_, rfl⟩
  rw [← huo] at hres ht5 hue
  obtain ⟨lf, hlf⟩ : ∃ lf, lf = zfJ (sn.map Int.toNat) (yO nT nK (zM ⟨kind, target, ds, sn⟩)) uo (ds.map Int.toNat) ts nx nd := ⟨_, rfl⟩
  obtain ⟨rest, hrest⟩ : ∃ rest, rest = Ze (yO nT nK) us ((rs.drop (i + 1)).map zM) (if kind = 2 then e + 1 else e) (ts.drop (nx + nd)) := ⟨_, rfl⟩
  rw [← hrest] at hres
  have HLF0 : za (out ++ (lf false 0 ++ rest) = res) := ⟨by rw [hlf]; exact hres⟩
  have hdl : (ds.map Int.toNat).length = nd := by rw [List.length_map]; exact l1
  have hsn0 : ∀ x ∈ sn, 0 ≤ x := fun x hx => (yp hro.2.2.2.2.2.1 hx).1
  have hds0 : ∀ j, j < nd → 0 ≤ ds.getD j 0 := fun j hj => (yp hro.2.2.2.2.1 (yL (by rw [l1]; exact hj))).1
  have hdm : ∀ j, j < nd → ((ds.map Int.toNat).getD j 0 ∈ sn.map Int.toNat ↔ ds.getD j 0 ∈ sn) := fun j hj => by
   rw [zga (by rw [l1]; exact hj), zfb hsn0, Int.toNat_of_nonneg (hds0 j hj)]
  have HLK : za (∀ j dn, j < nd → (uo = none ∨ dn = true ∨ ds.getD j 0 ∈ sn) → lf dn j = ts.getD (nx + j) [] :: lf dn (j + 1)) := ⟨fun j dn hj h => by
   rw [hlf]
   refine zll hdl hnm hj ?_
   rcases h with h | h | h
   ·exact .inl h
   ·exact .inr (.inl h)
   exact .inr (.inr ((hdm j hj).2 h))⟩
  obtain ⟨ec, hec⟩ : ∃ ec, ec = yO nT nK (zM ⟨kind, target, ds, sn⟩) := ⟨_, rfl⟩
  have HLT : za (∀ j u, j < nd → uo = some u → ds.getD j 0 ∉ sn → lf false j = jx (ts.getD (nx + j) []) ec u :: lf true (j + 1)) := ⟨fun j u hj hu h => by
   rw [hlf, hu, hec]
   exact zlZ hdl hnm hj (fun h' => h ((hdm j hj).1 h'))⟩
  have HLE : za (∀ dn, lf dn nd = []) := ⟨fun dn => by rw [hlf]; exact zna⟩
  have htl2 : ∀ j, j < nd → (ts.getD (nx + j) []).length = ec * cols := fun j hj => by
   rw [hec]
   refine hl2 _ ?_
   have hlj : j < ((ts.drop nx).take nd).length := by rw [List.length_take, List.length_drop]; omega
   have e1 : ts.getD (nx + j) [] = ((ts.drop nx).take nd)[j] := by
    rw [List.getElem_take, List.getElem_drop, List.getD_eq_getElem?_getD, List.getElem?_eq_getElem (by omega)]
    rfl
   rw [e1]
   exact List.getElem_mem hlj
  have hecl : ec ≤ 100000 := by
   rw [hec]
   have := jH nT nK kind (by omega) (by omega)
   show zD nT nK kind ≤ 100000
   omega
  have HTL2 := za.mk htl2
  have HTO5 : za (∀ u, uo = some u → ∀ c, c < cols → ∀ j, ec ≤ j → cf (u c) j = 0) := ⟨fun u hu => by
   rw [hu] at ht5
   rw [hec]
   exact ht5.2.2.1⟩
  have HTO6 := za.mk ht6
  have HL3 := za.mk hl3'
  have HUE := za.mk hue
  have HPSL : za (∀ ps fac, ch = some (ps, fac) → ∀ j, (ps j).length ≤ 1000) := ⟨fun ps fac h => znY HBPL.out (by rw [← hch]; exact h)⟩
  have hene : e < ne := by omega
  have HEL : za (e ≤ 1025) := ⟨by omega⟩
  have hene2 : kind = 2 → e + 1 < ne := fun hk => by
   have h5 := hcn.1
   unfold zdO at h5
   rw [if_pos hk] at h5
   omega
  have HCN2 : za ((if kind = 2 then e + 1 else e) + zdO (rs.drop (i + 1)) + 1 = ne ∧ nx + nd ≤ m) := ⟨by
   have h5 := hcn.1
   unfold zdO at h5
   refine ⟨?_, by rw [← HTL.out]; exact hnm⟩
   by_cases hk : kind = 2
   ·rw [if_pos hk] at h5 ⊢
    omega
   rw [if_neg hk] at h5 ⊢
   exact h5⟩
  obtain ⟨V8, hV8, hz8, hg8, hb8⟩ := zU wr (.cells #[.int .i64 kind, .int .i64 target, .slice D1 nd cd, .slice S1 ns cs] 90)
  have HBV8 : za (Below Wp.heap.size Wp V8) := ⟨HB7.out.trans (hb8.mono HB7.out.size)⟩
  have HB8 := za.mk hb8
  have HG8 := za.mk hg8
  have HV8 := za.mk hV8
  have HCHG := za.mk (ziA V8 Wp s1 g nN nT nK E Rm cols (some adY) ne cv V.heap.size bp (zl HSP.out HBV8.out) HBJP.out HBV8.out (HPRE.out V8 (HP4.out V8 HBV8.out)).1.2.2.1 (by omega) (by omega) hcl HBPL.out kind target ds sn hro D1 S1 nd cd ns cs (Kd.C_below hS (hbw.trans (hb8.mono hbw.size))) (by omega) e hene hene2 (by omega))
  rw [← hch] at HCHG
  have HOB : za (∀ k, OB Oo k → Wp.heap.size ≤ k ∧ k < V8.heap.size) := ⟨fun k hk => by
   obtain ⟨hs', hR', _⟩ := HJ7.out
   have h1 := Kd.R_base hR' k (zV hk)
   have h2 := Kd.R_lt hR' k (zV hk)
   have h3 := hb8.size
   exact ⟨h1, by omega⟩⟩
  have HJ8 : za (yQ V8 Wp.heap.size (.slice Oo no co2) out) := ⟨JG HJ7.out (Fr.of_below hb8 (fun _ => False))⟩
  have HDW := za.mk hD
  have HSW := za.mk hS
  have HLC := za.mk (And.intro lc1 lc2)
  have HL12 := za.mk (And.intro l1 l2)
  have HREST := za.mk hrest
  have hiI : (i : Int) < (nr : Int) := by omega
  obtain ⟨g8, hg8e⟩ : ∃ g8, g8 = wr.heap.size := ⟨_, rfl⟩
  rw [← hg8e] at HG8
  have HGE := za.mk hg8e
  clear hbw h0 h1 h2 h3 l1 lc1 hD l2 lc2 hS hlen hmem hro hdrop hfw hres hcn hl1 hl2 hl3 ht5 ht6 hdN hl3' hkd hnm hch hue huo hlf hrest hdl hsn0 hds0 hdm hec htl2 hene hene2 hV8 hz8 hg8 hb8 hr HRES HLN HTO HCN HJ7 hg8e
  have HG8K : za (∀ W : World, W.heap[g8]? = some (.cells #[.int .i64 kind, .int .i64 target, .slice D1 nd cd, .slice S1 ns cs] 90 (0, 0)) → W.cell? ⟨g8, 0, none⟩ = some (.int .i64 kind) ∧ W.cell? ⟨g8, 2, none⟩ = some (.slice D1 nd cd) ∧ W.cell? ⟨g8, 3, none⟩ = some (.slice S1 ns cs)) := ⟨fun W h => ⟨zh h rfl, zh h rfl, zh h rfl⟩⟩
  obtain ⟨rc, hrc⟩ : ∃ rc : Array Value, rc = #[.int .i64 kind, .int .i64 target, .slice D1 nd cd, .slice S1 ns cs] := ⟨_, rfl⟩
  rw [← hrc] at HG8K HG8
  clear hrc
  have HG8B : za (∀ W : World, Below V8.heap.size V8 W → W.heap[g8]? = some (.cells rc 90 (0, 0))) := ⟨fun W h => zl HG8.out h⟩
  go_wp2_with (go_at_call 113; rw [← HV8.out, ← HGE.out]; with_reducible refine HCHG.out.mono ?_; rintro x w8 ⟨X1, n1, c1, Y1, ny, cy, rfl, hbw8, hchk⟩; have HCHK := za.mk hchk; have HBW8 := za.mk hbw8; have HG9 := za.mk (HG8B.out _ hbw8); obtain ⟨z0, z2, z3⟩ := HG8K.out _ HG9.out; clear hbw8 hchk)
  have HJ9 : za (yQ w8 Wp.heap.size (.slice Oo no co2) out) := ⟨JG HJ8.out (Fr.of_below HBW8.out (fun _ => False))⟩
  have HB9 : za (Below Wp.heap.size Wp w8) := ⟨HBV8.out.trans (HBW8.out.mono HBV8.out.size)⟩
  have HCI9 : za (ChI w8 Oo X1 Y1 ny cols ch) := ⟨zoE HCHK.out HOB.out⟩
  have HNY : za (ny = 0 ∨ (0 < ny ∧ ny ≤ 256 ∧ ny ≤ cy ∧ n1 = cols ∧ ∃ ps fac low, ch = some (ps, fac) ∧ (zj fac).length = low + 1 ∧ uo = some (fun c => Zn (ps c) fac))) := ⟨by
   have h := HCHK.out
   have h2 := HUE.out
   revert h h2
   cases ch with
   | none => exact fun h _ => .inl h
   | some p =>
     intro h h2
     obtain ⟨ps, fac⟩ := p
     obtain ⟨k1, k2, k3, k4, k5, k6, k7, low, k8⟩ := h
     exact .inr ⟨k1, k2, k3, k4, ps, fac, low, rfl, k8, h2⟩⟩
  have HNN : za (ny = 0 → uo = none) := ⟨fun h0 => by
   have h := HCHK.out
   have h2 := HUE.out
   revert h h2
   cases ch with
   | none => exact fun _ h2 => h2
   | some p =>
     intro h h2
     obtain ⟨ps, fac⟩ := p
     have := h.1
     omega⟩
  clear z0 z2 z3 HCHG HG8 HG8B HJ8 HOB HBV8 HB8 HCHK HBW8 HV8 HGE HB7
  go_loopw [25, 27, 32, 170] (fun v25 v27 v32 v170 wq => ∃ (j px no2 co3 : Nat) (O2 : Option Addr) (out2 : List (List F)) (dn : Bool), j ≤ nd ∧ v170 = .int .i64 j ∧ v25 = .slice O2 no2 co3 ∧ v27 = .int .i64 px ∧ v32 = .bool dn ∧ px = nx + j ∧ za (yQ wq Wp.heap.size (.slice O2 no2 co3) out2) ∧ za (Below Wp.heap.size Wp wq) ∧ za (wq.heap[g8]? = some (.cells rc 90 (0, 0))) ∧ za (ChI wq O2 X1 Y1 ny cols ch) ∧ za (out2 ++ (lf dn j ++ rest) = res)) (fun _ _ _ v170 _ => nd - (intOf v170).toNat)
  case atStart => exact ⟨0, nx, no, co2, Oo, out, false, by omega, rfl, rfl, rfl, rfl, rfl, HJ9, HB9, HG9, HCI9, HLF0⟩
  clear HJ9 HB9 HG9 HCI9 HLF0
  obtain ⟨j, px, no2, co3, O2, out2, dn, hj, rfl, rfl, rfl, rfl, hpx, HJ, HBq, HGq, HCI, HLF⟩ := hrel
  by_cases hjd : j < nd
  ·have hbw := (HPRE.out wr (HP4.out wr HBq.out)).1.2.2.2
   obtain ⟨z0, z2, z3⟩ := HG8K.out wr HGq.out
   obtain ⟨aD, rfl, hcd⟩ := zbf HDW.out (Fr.of_below hbw (fun _ => False)) (fun _ h => h.elim) j hjd
   obtain ⟨dd, hdd⟩ : ∃ dd, dd = ds.getD j 0 := ⟨_, rfl⟩
   rw [← hdd] at hcd
   have hpm : px < m := by have := HCN2.out.2; omega
   obtain ⟨adZ', T1, tc1, eZ, hct, htt, hCt⟩ := jV (zG HT.out hbw) px hpm
   injection eZ with eZ
   rw [← eZ] at hct
   clear eZ
   obtain ⟨t, ht⟩ : ∃ t, t = ts.getD px [] := ⟨_, rfl⟩
   rw [← ht] at hct htt hCt
   have htec : t.length = ec * cols := by rw [ht, hpx]; exact HTL2.out j hjd
   obtain ⟨tl', htl'⟩ : ∃ tl', tl' = t.length := ⟨_, rfl⟩
   rw [← htl'] at hct htt hCt htec
   have htlb : tl' ≤ 25600000 := by
    rw [htec]
    exact Nat.le_trans (Nat.mul_le_mul hecl hcl) (by decide)
   have HTLL : za (t.length = tl') := ⟨htl'.symm⟩
   have hno : no2 = out2.length := (zdZ HJ.out).1
   have hno2 : no2 ≤ 500000 := by
    have h1 := congrArg List.length HLF.out
    rw [List.length_append, HRSL.out] at h1
    omega
   have HLK2 : za ((uo = none ∨ dn = true ∨ dd ∈ sn) → (out2 ++ [t]) ++ (lf dn (j + 1) ++ rest) = res) := ⟨fun h => by
    have h1 := HLF.out
    rw [HLK.out j dn hjd (by rw [← hdd]; exact h), ← hpx, ← ht] at h1
    rw [← h1]
    simp⟩
   have HLT2 : za (∀ u, uo = some u → dd ∉ sn → dn = false → (out2 ++ [jx t ec u]) ++ (lf true (j + 1) ++ rest) = res) := ⟨fun u hu h hd0 => by
    have h1 := HLF.out
    rw [hd0, HLT.out j u hjd hu (by rw [← hdd]; exact h), ← hpx, ← ht] at h1
    rw [← h1]
    simp⟩
   have HCL : za (Calls Try.prog 95 #[.slice T1 tl' tc1] wr fun x w' => ∃ A' c', x = .returned (.slice A' tl' c') ∧ RF w' wr.heap.size A' t ∧ tl' ≤ c' ∧ Below wr.heap.size wr w') := ⟨by
    refine (ZV wr T1 tl' tc1 t hCt (by omega)).mono ?_
    rintro x w' ⟨A', c', rfl, h1, h2⟩
    exact ⟨A', c', rfl, jN h1, (Kd.R_reads' h1).2.1, h2⟩⟩
   have HGB : za (∀ W, Below wr.heap.size wr W → W.heap[g8]? = some (.cells rc 90 (0, 0))) := ⟨fun W h => zl HGq.out h⟩
   have HBpW : za (∀ W, Below wr.heap.size wr W → Below Wp.heap.size Wp W) := ⟨fun W h => HBq.out.trans (h.mono HBq.out.size)⟩
   have HSTEP : za (∀ w9 A9 c9 (q : List F), Below wr.heap.size wr w9 → RF w9 wr.heap.size A9 q → q.length = tl' → tl' ≤ c9 → ∃ O3 c3 w10, (Builtin.append_ #[37, 37] 37 #[.slice O2 no2 co3, .slice (some ⟨w9.heap.size, 0, none⟩) 1 1]).run Try.prog (w9.alloc (.cells #[.slice A9 tl' c9] 36)) = .ok (.slice O3 (no2 + 1) c3) w10 ∧ za (yQ w10 Wp.heap.size (.slice O3 (no2 + 1) c3) (out2 ++ [q])) ∧ za (Below Wp.heap.size Wp w10) ∧ za (w10.heap[g8]? = some (.cells rc 90 (0, 0))) ∧ za (ChI w10 O3 X1 Y1 ny cols ch)) := ⟨fun w9 A9 c9 q hb9 hR9 hql hc9 => by
    have hf9 := Fr.of_below hb9 (fun _ => False)
    have hJ9 := JG HJ.out hf9
    obtain ⟨O3, c3, w10, hrun, hJ10, hb10, hf10, ho10⟩ := zds hJ9 (HBpW.out _ hb9) A9 q c9 (yr hR9 HBq.out.size) (by rw [hql]; exact hc9) (by omega)
    rw [hql] at hrun
    refine ⟨O3, c3, w10, hrun, ⟨hJ10⟩, ⟨hb10⟩, ⟨hf10.blk (HGB.out _ hb9) (fun hk => ?_)⟩, ⟨zlT (zfx HCI.out hf9) hf10 ho10⟩⟩
    obtain ⟨hs', hR', _⟩ := hJ9
    obtain ⟨cc, hcc⟩ := Kd.R_typed hR' g8 (zV hk)
    rw [HGB.out _ hb9] at hcc
    injection hcc with hcc
    injection hcc with _ hcc
    cases hcc⟩
   have hjI : (j : Int) < (nd : Int) := by omega
   have hpI : (px : Int) < (m : Int) := by omega
   have HCIW : za (∀ W, Below wr.heap.size wr W → ChI W O2 X1 Y1 ny cols ch) := ⟨fun W h => zfx HCI.out (Fr.of_below h (fun _ => False))⟩
   have HPD : za (∀ W W', Below wr.heap.size wr W → zq W W' → Below wr.heap.size wr W') := ⟨fun W W' h hd => by obtain ⟨k, rfl⟩ := hd; exact yu h k⟩
   have HRD : za (∀ W W' A' q, RF W wr.heap.size A' q → zq W W' → RF W' wr.heap.size A' q) := ⟨fun W W' A' q h hd => by obtain ⟨k, rfl⟩ := hd; exact zan h ((Fr.refl (fun _ => False) W).drewN k) (fun _ _ _ h => h)⟩
   have HTEC := za.mk htec
   have HPX := za.mk hpx
   clear hbw hdd ht htl' htt hCt hno htec hpx
   cases dn with
   | true =>
     have HLF2 : za ((out2 ++ [t]) ++ (lf true (j + 1) ++ rest) = res) := ⟨HLK2.out (.inr (.inl rfl))⟩
     clear HLK2 HLT2
     go_wp2_with (first
      | (go_at_call 95; with_reducible refine HCL.out.mono ?_; rintro x w9 ⟨A9, c9, rfl, hR9, hc9, hb9⟩; have HR9 := za.mk hR9; have HB9 := za.mk hb9; obtain ⟨y0, y2, y3⟩ := HG8K.out w9 (HGB.out w9 hb9); clear hb9 hR9; obtain ⟨O3, c3, w10, run10, HJ10, HB10, HG10, HCI10⟩ := HSTEP.out w9 A9 c9 t HB9.out HR9.out HTLL.out hc9)
      | (at_builtin; refine zm rfl _ _ _ _ rfl rfl rfl run10 ?_))
     clear run10
     go_roundw
     case rel => exact ⟨j + 1, px + 1, no2 + 1, c3, O3, out2 ++ [t], true, by omega, by go_num, rfl, by go_num, rfl, by have := HPX.out; omega, HJ10, HB10, HG10, HCI10, HLF2⟩
     simp [intOf]; omega
   | false =>
     by_cases hny : ny = 0
     ·have HLF2 : za ((out2 ++ [t]) ++ (lf false (j + 1) ++ rest) = res) := ⟨HLK2.out (.inl (HNN.out hny))⟩
      clear HLK2 HLT2
      subst hny
      go_wp2_with (first
       | (go_at_call 95; with_reducible refine HCL.out.mono ?_; rintro x w9 ⟨A9, c9, rfl, hR9, hc9, hb9⟩; have HR9 := za.mk hR9; have HB9 := za.mk hb9; obtain ⟨y0, y2, y3⟩ := HG8K.out w9 (HGB.out w9 hb9); clear hb9 hR9; obtain ⟨O3, c3, w10, run10, HJ10, HB10, HG10, HCI10⟩ := HSTEP.out w9 A9 c9 t HB9.out HR9.out HTLL.out hc9)
       | (at_builtin; refine zm rfl _ _ _ _ rfl rfl rfl run10 ?_))
      clear run10
      go_roundw
      case rel => exact ⟨j + 1, px + 1, no2 + 1, c3, O3, out2 ++ [t], false, by omega, by go_num, rfl, by go_num, rfl, by have := HPX.out; omega, HJ10, HB10, HG10, HCI10, HLF2⟩
      simp [intOf]; omega
     have hnyI : (0 : Int) < (ny : Int) := by omega
     by_cases hin : dd ∈ sn
     ·have HLF2 : za ((out2 ++ [t]) ++ (lf false (j + 1) ++ rest) = res) := ⟨HLK2.out (.inr (.inr hin))⟩
      have HCON : za (∀ W, Below wr.heap.size wr W → Calls Try.prog 114 #[.slice S1 ns cs, .int .i64 dd] W fun x w' => x = .returned (.bool true) ∧ zq W w') := ⟨fun W h => by
       have h1 := jC W S1 ns cs sn dd (Kd.C_below HSW.out (HPRE.out W (HP4.out W (HBpW.out W h))).1.2.2.2) (by omega)
       rw [decide_eq_true hin] at h1
       exact h1⟩
      clear HLK2 HLT2 hin
      go_wp2_with (first
       | (go_at_call 95; with_reducible refine HCL.out.mono ?_; rintro x w9 ⟨A9, c9, rfl, hR9, hc9, hb9⟩; have HR9 := za.mk hR9; have HB9 := za.mk hb9; obtain ⟨y0, y2, y3⟩ := HG8K.out w9 (HGB.out w9 hb9); clear hb9 hR9)
       | (go_at_call 114; with_reducible refine (HCON.out _ HB9.out).mono ?_; rintro x w9b ⟨rfl, hd⟩; obtain ⟨O3, c3, w10, run10, HJ10, HB10, HG10, HCI10⟩ := HSTEP.out w9b A9 c9 t (HPD.out _ _ HB9.out hd) (HRD.out _ _ _ _ HR9.out hd) HTLL.out hc9; clear hd)
       | (at_builtin; refine zm rfl _ _ _ _ rfl rfl rfl run10 ?_))
      clear run10
      go_roundw
      case rel => exact ⟨j + 1, px + 1, no2 + 1, c3, O3, out2 ++ [t], false, by omega, by go_num, rfl, by go_num, rfl, by have := HPX.out; omega, HJ10, HB10, HG10, HCI10, HLF2⟩
      simp [intOf]; omega
     obtain ⟨h1, h2, h3, h4, ps, fac, low, hch, hlow, huo⟩ := HNY.out.resolve_left hny
     obtain ⟨t2, ht2⟩ : ∃ t2, t2 = jx t ec (fun c => Zn (ps c) fac) := ⟨_, rfl⟩
     have HLF2 : za ((out2 ++ [t2]) ++ (lf true (j + 1) ++ rest) = res) := ⟨by rw [ht2]; exact HLT2.out _ huo hin rfl⟩
     have HCON : za (∀ W, Below wr.heap.size wr W → Calls Try.prog 114 #[.slice S1 ns cs, .int .i64 dd] W fun x w' => x = .returned (.bool false) ∧ zq W w') := ⟨fun W h => by
      have h1 := jC W S1 ns cs sn dd (Kd.C_below HSW.out (HPRE.out W (HP4.out W (HBpW.out W h))).1.2.2.2) (by omega)
      rw [decide_eq_false hin] at h1
      exact h1⟩
     have HTL3 : za (t2.length = tl') := ⟨by rw [ht2, yK]; exact HTLL.out⟩
     have HADD : za (∀ W A9 c9, Below wr.heap.size wr W → RF W wr.heap.size A9 t → Calls Try.prog 111 #[.pointer (some ⟨s1, 0, none⟩), .slice A9 tl' c9, .slice X1 n1 c1, .slice Y1 ny cy] W fun x w' => ∃ O5 c5, x = .returned (.slice O5 tl' c5) ∧ RF w' wr.heap.size O5 t2 ∧ tl' ≤ c5 ∧ Below wr.heap.size wr w') := ⟨fun W A9 c9 hW hR => by
      have hci := HCIW.out W hW
      rw [hch] at hci
      have hbp := HBpW.out W hW
      have hC := hR.1
      rw [HTLL.out] at hC
      subst h4
      refine (zhx W s1 g nN nT nK E Rm n1 _ (zl HSP.out hbp) (HPRE.out W (HP4.out W hbp)).1.2.2.1 A9 tl' c9 t hC X1 c1 ((List.range n1).map ps) (zfI hci.1) Y1 ny cy fac hci.2.1 h3 (by omega) low hlow ec HTEC.out hcl hecl (fun i hi => by
       rw [zy _ _ _ _ hi]
       exact Nat.le_trans (HPSL.out ps fac hch i) (by decide)) (fun i hi => by
       rw [zy _ _ _ _ hi]
       exact zem (fun k hk => HTO5.out _ huo i hi k hk))).mono ?_
      rintro x w' ⟨O5, c5, rfl, k1, k2⟩
      have e1 : jx t ec (fun i => Zn (((List.range n1).map ps).getD i []) fac) = t2 := by
       rw [ht2]
       refine zeH (by rw [HTLL.out]; exact HTEC.out) (fun c hc i _ => ?_)
       rw [zy _ _ _ _ hc]
      rw [e1] at k1
      exact ⟨O5, c5, rfl, yr (jN k1) hW.size, (Kd.R_reads' k1).2.1, hW.trans (k2.mono hW.size)⟩⟩
     clear HLK2 HLT2 hin h1 h2 h3 hch hlow huo ht2 h4
     go_wp2_with (first
      | (go_at_call 95; with_reducible refine HCL.out.mono ?_; rintro x w9 ⟨A9, c9, rfl, hR9, hc9, hb9⟩; have HR9 := za.mk hR9; have HB9 := za.mk hb9; obtain ⟨y0, y2, y3⟩ := HG8K.out w9 (HGB.out w9 hb9); clear hb9 hR9)
      | (go_at_call 114; with_reducible refine (HCON.out _ HB9.out).mono ?_; rintro x w9b ⟨rfl, hd⟩; have HR9b := za.mk (HRD.out _ _ _ _ HR9.out hd); have HB9b := za.mk (HPD.out _ _ HB9.out hd); clear hd)
      | (go_at_call 111; with_reducible refine (HADD.out _ _ _ HB9b.out HR9b.out).mono ?_; rintro x w9c ⟨O5, c5, rfl, hO5, hc5, hb9c⟩; obtain ⟨O3, c3, w10, run10, HJ10, HB10, HG10, HCI10⟩ := HSTEP.out w9c O5 c5 t2 hb9c hO5 HTL3.out hc5; clear hO5 hb9c)
      | (at_builtin; refine zm rfl _ _ _ _ rfl rfl rfl run10 ?_))
     clear run10
     go_roundw
     case rel => exact ⟨j + 1, px + 1, no2 + 1, c3, O3, out2 ++ [t2], true, by omega, by go_num, rfl, by go_num, rfl, by have := HPX.out; omega, HJ10, HB10, HG10, HCI10, HLF2⟩
     simp [intOf]; omega
  obtain rfl : nd = j := by omega
  obtain ⟨z0, z2, z3⟩ := HG8K.out wr HGq.out
  have hlf2 := HLF.out
  rw [HLE.out, List.nil_append] at hlf2
  subst hpx
  by_cases hk2 : kind = 2
  ·have HRE2 : za (out2 ++ Ze (yO nT nK) us ((rs.drop (i + 1)).map zM) (e + 1) (ts.drop (nx + nd)) = res) := ⟨by rw [← hlf2, HREST.out, if_pos hk2]⟩
   have h6 := HTO6.out
   rw [if_pos hk2] at h6
   have HTO7 := za.mk h6
   have h7 := HCN2.out
   rw [if_pos hk2] at h7
   have HCN3 := za.mk h7
   have hkt : (kind == (2 : Int)) = true := by rw [hk2]; rfl
   have hel := HEL.out
   clear h6 h7 hlf2 hk2
   go_wp2
   go_roundw
   case rel => exact ⟨i + 1, nx + nd, e + 1, no2, co3, O2, out2, by omega, by go_num, rfl, by go_num, by first | rfl | go_num, HJ, HBq, HRE2, HL3, HTO7, HCN3⟩
   simp [intOf]; omega
  have HRE2 : za (out2 ++ Ze (yO nT nK) us ((rs.drop (i + 1)).map zM) e (ts.drop (nx + nd)) = res) := ⟨by rw [← hlf2, HREST.out, if_neg hk2]⟩
  have h6 := HTO6.out
  rw [if_neg hk2] at h6
  have HTO7 := za.mk h6
  have h7 := HCN2.out
  rw [if_neg hk2] at h7
  have HCN3 := za.mk h7
  have hkt : (kind == (2 : Int)) = false := by simpa using hk2
  clear h6 h7 hlf2 hk2
  go_wp2
  go_roundw
  case rel => exact ⟨i + 1, nx + nd, e, no2, co3, O2, out2, by omega, by go_num, rfl, rfl, by first | rfl | go_num, HJ, HBq, HRE2, HL3, HTO7, HCN3⟩
  simp [intOf]; omega
 obtain rfl : nr = i := by omega
 have hre := HRES.out
 rw [List.drop_eq_nil_of_le (by rw [HNL.out]; exact Nat.le_refl _)] at hre
 have hre2 : out = res := by
  rw [← hre]
  simp [Ze]
 have hj := HJ7.out
 rw [hre2] at hj
 have hno := (zdZ hj).1
 rw [HRSL.out] at hno
 subst hno
 have HJ8 := za.mk hj
 have hbw := (HPRE.out wr (HP4.out wr HB7.out)).1.2.2.2
 have HBW := za.mk hbw
 clear hre hre2 hj hbw
 go_wp2
 go_ret2
 exact ⟨Oo, co2, rfl, zcX HJ8.out, (zdZ HJ8.out).2, HBW.out⟩
end Go.Proofs.Ytpeiejkcoadhfaa
