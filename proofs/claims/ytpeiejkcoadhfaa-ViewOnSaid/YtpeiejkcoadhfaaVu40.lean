/- What the view's laws take, Vu40: VwBF. -/
import Derived.Test.YtpeiejkcoadhfaaVu33
import Derived.Test.YtpeiejkcoadhfaaVu38
import Derived.Test.YtpeiejkcoadhfaaVu39
set_option linter.all false
namespace Go.Proofs.Ytpeiejkcoadhfaa
open Go.RowKit Go.Shelf Go.Proofs.YtpeiejkcoadhfaaW.PrintWords Go.Proofs.YtpeiejkcoadhfaaW.PrintMore
open Go.BigFrame
attribute [local go_sem] Oper.semAt_some
structure LS (W5 W : World) (N cols g2 : Nat) (rc : Array Value) (bo nb : Nat) (f : Int → Value) (Y : Option Addr) (q : Ev) (Z : Option Addr) (q2 : Ev) (A : Option Addr) (na ca : Nat) (ds : List Ev) (O : Option Addr) (no co : Nat) (out : List F) : Prop where
 row : Kd.R fk 5 W W5.heap.size (fun _ => True) (.slice O no co) out
 sh : PLn W Y N (zE N cols q) (fun k => OB O k)
 su : PLn W Z N (zE N cols q2) (fun k => OB O k)
 al : JL W W5.heap.size A na ca (ds.map (zE N cols)) (fun k => OB O k)
 ow : zeR W bo nb f
 rb : W.heap[g2]? = some (.cells rc 90 (0, 0))
 bl : Below W5.heap.size W5 W
section
variable {W5 W : World} {N cols g2 : Nat} {rc : Array Value} {bo nb : Nat} {f : Int → Value} {Y : Option Addr} {q : Ev} {Z : Option Addr} {q2 : Ev} {A : Option Addr} {na ca : Nat} {ds : List Ev} {O : Option Addr} {no co : Nat} {out : List F}
theorem LS.below (h : LS W5 W N cols g2 rc bo nb f Y q Z q2 A na ca ds O no co out) {W' : World} (hb : Below W.heap.size W W') : LS W5 W' N cols g2 rc bo nb f Y q Z q2 A na ca ds O no co out := by
 have hf : Fr (fun _ => False) W W' := Fr.of_below hb _
 exact ⟨jo h.row hf (fun _ _ _ _ h => h), yy h.sh hf, yy h.su hf, JB h.al hf, zer h.ow hf (fun h => h), hf.blk h.rb (fun h => h), h.bl.trans (hb.mono h.bl.size)⟩
theorem LS.push (h : LS W5 W N cols g2 rc bo nb f Y q Z q2 A na ca ds O no co out) {B : Option Addr} {n c : Nat} {row : List F} (hr : Kd.C fk W B n row) (hn : no + n ≤ 140737488355328) :
 ∃ O' co' W', (Builtin.append_ #[36, 36] 36 #[.slice O no co, .slice B n c]).run Try.prog W = .ok (.slice O' (no + n) co') W' ∧ za (LS W5 W' N cols g2 rc bo nb f Y q Z q2 A na ca ds O' (no + n) co' (out ++ row)) := by
 obtain ⟨O', co', W', hrun, hR, hb, hf, ho⟩ := zcc (c := c) h.row h.bl hr hn
 have hty : ∀ k, OB O k → ∃ cells, W.heap[k]? = some (.cells cells 5 (0, 0)) := fun k hk => Kd.R_typed h.row k (zV hk)
 refine ⟨O', co', W', hrun, ⟨hR, ZK h.sh hf ho, ZK h.su hf ho, zfW h.al hf (fun _ h => h) ho (fun k _ hk cells hc => ?_), zer h.ow hf (fun hk => ?_), hf.blk h.rb (fun hk => ?_), hb⟩⟩
 ·obtain ⟨c2, hc2⟩ := hty k hk
  rw [hc] at hc2
  injection hc2 with hc2
  injection hc2 with _ hc2
  cases hc2
 ·obtain ⟨es, cl, hb2⟩ := zdt h.ow
  obtain ⟨c2, hc2⟩ := hty _ hk
  rw [hb2] at hc2
  cases hc2
 obtain ⟨c2, hc2⟩ := hty _ hk
 rw [h.rb] at hc2
 injection hc2 with hc2
 injection hc2 with _ hc2
 cases hc2
end
set_option maxRecDepth 100000 in
set_option maxHeartbeats 12800000 in
theorem zhC (w : World) (nN nT nK : Nat) (E Rm : Int) (A : Option Addr) (n c : Nat) (data : List F) (hd : Kd.C fk w A n data) (hc : n ≤ c) (X : Option Addr) (nr cr : Nat) (rs : List Ri) (hR : RL w X nr rs) (hsm : ∀ r ∈ rs, r.ds.length ≤ 9223372036854775807 ∧ r.sn.length ≤ 9223372036854775807)
 (B : Option Addr) (m d : Nat) (ts : List (List F)) (hT : PL w B m ts) (hm : m ≤ 1000000000) (hok : yv nN nT nK E Rm n rs (ts.map List.length)) :
 Calls Try.prog 71 #[zv nN nT nK E Rm, .slice A n c, .slice X nr cr, .slice B m d] w fun e w' => ∃ O co, e = .returned (.tuple #[.slice O (jD nN nT nK data rs ts).length co, .bool true]) ∧ Kd.C fk w' O (jD nN nT nK data rs ts).length (jD nN nT nK data rs ts) ∧ (jD nN nT nK data rs ts).length ≤ co ∧ Below w.heap.size w w' := by
 obtain ⟨res, hres⟩ : ∃ res, res = jD nN nT nK data rs ts := ⟨_, rfl⟩
 have HRS := za.mk hres
 rw [← hres]
 clear hres
 obtain ⟨t0, tl, hts, ht0, hlen, hro, hep, g1, g2, g3, g4⟩ := zap hok
 have hnl : rs.length = nr := Zi hR
 have hdl : data.length = n := Kd.C_len hd
 have htl : ts.length = m := zbA hT
 have hgd := hok.1.1
 have hnn : nr ≤ 1024 := by have := hok.1.2.2.2.1; omega
 have hn256 : n ≤ 256 := by have := hok.1.2.2.1; omega
 rw [Int.toNat_natCast] at ht0 hlen
 have hm1 : 0 < m := by rw [← htl, hts]; simp
 obtain ⟨W0, hW0, hz0, a0, hb0⟩ := zU w (Obj.cells #[.int .i64 nN, .int .i64 nT, .int .i64 nK, .int .i64 E, .int .i64 Rm] 48)
 have HRT := za.mk (zbc W0 nN nT nK E Rm n X nr cr rs (zA hR hb0) (by omega) hsm (by omega) B m d ts (zG hT hb0) (by omega))
 rw [decide_eq_true hok] at HRT
 have HB0 := za.mk hb0
 have HP0 := za.mk a0
 obtain ⟨s, hs⟩ : ∃ s, s = w.heap.size := ⟨_, rfl⟩
 rw [← hs] at HP0
 have HW0 := za.mk hW0
 have HS := za.mk hs
 have HCO := za.mk (fun W => zcK W n nK (by omega) (by omega))
 obtain ⟨cols, hcols⟩ : ∃ cols, cols = ye n nK := ⟨_, rfl⟩
 rw [← hcols] at HCO
 have hcl : cols ≤ 256 := by rw [hcols]; exact Nat.le_trans (Zx n nK g2) hn256
 obtain ⟨adB, B0, c0, rfl, hx0, hl0, hC0⟩ := jV hT 0 hm1
 have ht00 : ts.getD 0 [] = t0 := by rw [hts]; rfl
 rw [ht00] at hx0 hl0 hC0
 rw [ht0, ← hcols] at hx0 hl0 hC0
 have HSH : za (∀ W g, Below w.heap.size w W → Fld W g → Calls Try.prog 51 #[.pointer (some ⟨g, 0, none⟩), zv nN nT nK E Rm, .slice A n c, .slice B0 (nT * cols) c0] W fun e w' => ∃ Y l cp, e = .returned (.tuple #[.slice Y l cp, .bool true]) ∧ SV w' W.heap.size nN Y l cp true (jl nN nT nK data t0) ∧ Fr (fun _ => False) W w') := ⟨fun W g hW hF => by
  have h := zke W g nN nT nK E Rm A B0 n c (nT * cols) c0 data t0 hF (Kd.C_below hd hW) (Kd.C_below hC0 hW) hc hl0 (by omega) (by omega) (by omega) (by omega) g2 g3
  rw [← hcols, decide_eq_true rfl] at h
  exact h⟩
 have HCELL : za (∀ W, Fr (fun _ => False) W0 W → W.cell? ⟨s, 0, none⟩ = some (.int .i64 nN) ∧ W.cell? ⟨s, 1, none⟩ = some (.int .i64 nT) ∧ W.cell? ⟨s, 2, none⟩ = some (.int .i64 nK) ∧ W.cell? ⟨s, 3, none⟩ = some (.int .i64 E) ∧ W.cell? ⟨s, 4, none⟩ = some (.int .i64 Rm) ∧ W.cell? adB = some (.slice B0 (nT * cols) c0)) := ⟨fun W hW => by
  have h := hW.blk HP0.out (fun h => h)
  refine ⟨zh h rfl, zh h rfl, zh h rfl, zh h rfl, zh h rfl, ?_⟩
  rw [yi] at hx0
  exact hW.cell ((Fr.of_below HB0.out (fun _ => False)).cell hx0 (fun h => h)) (fun h => h)⟩
 have HNW := za.mk (fun W => zji W)
 have hu48 := Try.underlying48
 have hu90 := Try.underlying90
 have hm1I : (0 : Int) < (m : Int) := by omega
 obtain ⟨tn, htn⟩ : ∃ tn, tn = nT * cols := ⟨_, rfl⟩
 rw [← htn] at HSH HCELL
 unfold zv at *
 have HD := za.mk hd
 have HRL := za.mk hR
 have HT := za.mk hT
 have HOK := za.mk hok
 have HLEN := za.mk hlen
 have HRO := za.mk hro
 have HTS := za.mk hts
 have HNL := za.mk hnl
 have HDL := za.mk hdl
 have HTL := za.mk htl
 have HCOLS := za.mk hcols
 clear hd hR hsm hT hok hlen hro hep hts hnl hdl htl hgd hW0 hz0 a0 hb0 hcols hx0 hl0 hC0 ht00 ht0 htn hs
 go_enter Try.func71, Try.ntmps71
 go_wp2_with (go_at_call 105; rw [← HW0.out, ← HS.out]; with_reducible refine HRT.out.mono ?_; rintro e w1 ⟨rfl, hb1⟩; have HF1 := za.mk (Fr.of_below hb1 (fun _ => False)); clear hb1)
 have S1 := HCELL.out w1 HF1.out
 go_region_held3 (fun W => W.cell? ⟨s, 0, none⟩ = some (.int .i64 nN) ∧ W.cell? ⟨s, 1, none⟩ = some (.int .i64 nT) ∧ W.cell? ⟨s, 2, none⟩ = some (.int .i64 nK) ∧ W.cell? ⟨s, 3, none⟩ = some (.int .i64 E) ∧ W.cell? ⟨s, 4, none⟩ = some (.int .i64 Rm) ∧ W.cell? adB = some (.slice B0 tn c0))
  (first | exact S2 | exact HCELL.out _ (HF1.out.trans' ((Fr.refl _ w1).drew)))
  (first
    | (go_at_call 28; with_reducible refine (HNW.out _).mono ?_; rintro e W2 ⟨g, rfl, -, hg, hF, hf2⟩; have HF2 := za.mk (HF1.out.trans' (((Fr.refl _ w1).drew).trans' hf2)); have HFL2 := za.mk hF; have HGL2 := za.mk hg; have S2 := HCELL.out W2 HF2.out; clear hf2 hF hg)
    | (go_at_call 38; with_reducible refine (HCO.out _).mono ?_; rintro e W3 ⟨rfl, rfl⟩))
 go_wp2
 clear S1
 have HSH2 := za.mk (HSH.out W2.drew g (HB0.out.trans (((HF2.out.trans' ((Fr.refl _ W2).drew)).f_below).mono HB0.out.size)) (HFL2.out.fr ((Fr.refl (fun _ => False) W2).drew) (fun h => h)))
 go_region_held3 (fun W => W.cell? ⟨s, 0, none⟩ = some (.int .i64 nN) ∧ W.cell? ⟨s, 1, none⟩ = some (.int .i64 nT) ∧ W.cell? ⟨s, 2, none⟩ = some (.int .i64 nK) ∧ W.cell? ⟨s, 3, none⟩ = some (.int .i64 E) ∧ W.cell? ⟨s, 4, none⟩ = some (.int .i64 Rm) ∧ W.cell? adB = some (.slice B0 tn c0))
  (first | exact S4 | exact HCELL.out _ (HF2.out.trans' ((Fr.refl _ W2).drew)))
  (first
    | (go_at_call 51; with_reducible refine HSH2.out.mono ?_; rintro e W4 ⟨Y, yl, yc, rfl, hsv, hf4⟩; have HSV := za.mk hsv; have HF24 := za.mk (((Fr.refl (fun _ => False) W2).drew).trans' hf4); have S4 := HCELL.out W4 (HF2.out.trans' HF24.out); clear hsv hf4))
 obtain ⟨e1, e2, hpl⟩ := zjF HSV.out
 obtain rfl : nN = yl := e1.symm
 obtain rfl : nN = yc := e2.symm
 have HF4 := za.mk (HF2.out.trans' HF24.out)
 have HBW : za (Below w.heap.size w W4) := ⟨HB0.out.trans (HF4.out.f_below.mono HB0.out.size)⟩
 have HFL : za (Fld W4 g) := ⟨HFL2.out.fr HF24.out (fun h => h)⟩
 have HPB : za (W4.heap[s]? = some (zF nN nT nK E Rm)) := ⟨HF4.out.blk HP0.out (fun h => h)⟩
 have HSH0 : za (PLn W4 Y nN (zE nN cols (Jl nN nT nK data t0)) (fun k => OB none k)) := ⟨by
  have h := zdT nN nT nK data t0
  rw [HDL.out, ← HCOLS.out] at h
  rw [← h]
  exact yM hpl (fun k _ hk => by obtain ⟨a, ha, _⟩ := hk; cases ha)⟩
 have HRES0 : za (([] : List F) ++ Zl nN cols (Jm nN nK) (yO nT nK) ptF ((rs.drop 0).map zM) (Jl nN nT nK data t0) (ts.drop 1) = res) := ⟨by
  rw [HRS.out]
  unfold jD
  rw [HDL.out, ← HCOLS.out, HTS.out]
  rfl⟩
 have HLN0 : za (Ji nT nK cols (rs.drop 0) (ts.drop 1)) := ⟨by
  rw [HTS.out, HCOLS.out]
  exact HLEN.out⟩
 have HR4 : za (RL W4 X nr rs) := ⟨zA HRL.out HBW.out⟩
 have HT4 : za (PL W4 (some adB) m ts) := ⟨zG HT.out HBW.out⟩
 have HRO2 : za (∀ r ∈ rs, zX nN nT r) := HRO
 clear S4 hpl HSV HSH2 HF24 HF4 HF2 HF1 HFL2 HGL2 HCELL HSH HNW HCO HP0 HB0 HRL HT HRT HD HW0 HOK
 go_wp2
 go_loopw [12, 14, 15, 52] (fun v12 v14 v15 v52 wr => ∃ (i nx no co cy : Nat) (Y O : Option Addr) (q : Ev) (out : List F), i ≤ nr ∧ v52 = .int .i64 i ∧ v12 = .slice Y nN cy ∧ v14 = .int .i64 nx ∧ v15 = .slice O no co ∧ za (Kd.R fk 5 wr W4.heap.size (fun _ => True) (.slice O no co) out) ∧ za (PLn wr Y nN (zE nN cols q) (fun k => OB O k)) ∧ za (nN ≤ cy) ∧ za (Below W4.heap.size W4 wr) ∧ za (out ++ Zl nN cols (Jm nN nK) (yO nT nK) ptF ((rs.drop i).map zM) q (ts.drop nx) = res) ∧ za (Ji nT nK cols (rs.drop i) (ts.drop nx)) ∧ za (no ≤ i * 150000000 ∧ nx ≤ m)) (fun _ _ _ v52 _ => nr - (intOf v52).toNat)
 case atStart => exact ⟨0, 1, 0, 0, nN, Y, none, _, [], by omega, rfl, rfl, rfl, rfl, ⟨Kd.R_nil _ _ _ _ _⟩, HSH0, ⟨Nat.le_refl _⟩, ⟨Below.refl _ _⟩, HRES0, HLN0, ⟨by omega, by omega⟩⟩
 clear HSH0 HRES0 HLN0
 obtain ⟨i, nx, no, co, cy, Y, O, q, out, hi, rfl, rfl, rfl, rfl, HOUT, HSHA, HCY, HBL, HRES, HLN, HBD⟩ := hrel
 by_cases hlt : i < nr
 ·obtain ⟨r, ad, D, S, nd, cd, ns, cs, hr, rfl, h0, h1, h2, h3, l1, lc1, hD, l2, lc2, hS⟩ := zdh HR4.out i hlt
  have hlen : i < rs.length := by rw [HNL.out]; exact hlt
  have hmem : r ∈ rs := by rw [hr, List.getD_eq_getElem?_getD, List.getElem?_eq_getElem hlen]; exact List.getElem_mem hlen
  have hro := HRO2.out r hmem
  have hdrop : rs.drop i = r :: rs.drop (i + 1) := by
   rw [hr, List.getD_eq_getElem?_getD, List.getElem?_eq_getElem hlen, List.drop_eq_getElem_cons hlen]; rfl
  have hc0 := (Fr.of_below HBL.out (fun _ => False)).cell h0 (fun h => h)
  have hc1 := (Fr.of_below HBL.out (fun _ => False)).cell h1 (fun h => h)
  have hc2 := (Fr.of_below HBL.out (fun _ => False)).cell h2 (fun h => h)
  have hc3 := (Fr.of_below HBL.out (fun _ => False)).cell h3 (fun h => h)
  have HDI := za.mk hD
  have HLC := za.mk (And.intro lc1 lc2)
  have HSE := za.mk hS
  have HRR := za.mk hro
  have HDR := za.mk hdrop
  have HND := za.mk l1
  have HNS := za.mk l2
  have hndl : nd ≤ 256 := by have := jO hro.2.2.2.2.1; omega
  have hnsl : ns ≤ 255 := by have := jO hro.2.2.2.2.2.1; omega
  obtain ⟨kind, target, ds, sn⟩ := r
  simp only at hc0 hc1
  obtain ⟨V, hV, hzV, hgV, hbV⟩ := zU wr (.cells #[.int .i64 kind, .int .i64 target, .slice D nd cd, .slice S ns cs] 90)
  have HV := za.mk hV
  have HZV := za.mk hzV
  have HGV := za.mk hgV
  have hiI : (i : Int) < (nr : Int) := by omega
  have hmm := @run_makeMap Try.prog
  have HDI0 : za (DI V (V.alloc (.map #[] 0)) O none 0 0 [] (fun _ => zhW)) := ⟨⟨zjs _ _ _, zoa V, zc (Below.refl _ _) _⟩⟩
  have hov : Kd.R fk 5 V W4.heap.size (fun _ => True) (.slice O no co) out := jo HOUT.out (Fr.of_below hbV (fun _ => False)) (fun _ _ _ _ h => h)
  have HOV := za.mk hov
  have HSV : za (PLn V Y nN (zE nN cols q) (fun k => OB O k)) := ⟨yy HSHA.out (Fr.of_below hbV (fun _ => False))⟩
  have HOL : za (∀ k, OB O k → k < V.heap.size) := ⟨fun k hk => Kd.R_lt hov k (zV hk)⟩
  have HBV : za (Below W4.heap.size W4 V) := ⟨HBL.out.trans (hbV.mono HBL.out.size)⟩
  have HSK : za (∀ W, Below V.heap.size V W → W.cell? ⟨s, 0, none⟩ = some (.int .i64 nN) ∧ W.cell? ⟨s, 1, none⟩ = some (.int .i64 nT) ∧ W.cell? ⟨s, 2, none⟩ = some (.int .i64 nK) ∧ W.cell? ⟨s, 3, none⟩ = some (.int .i64 E) ∧ W.cell? ⟨s, 4, none⟩ = some (.int .i64 Rm) ∧ W.cell? ⟨wr.heap.size, 0, none⟩ = some (.int .i64 kind) ∧ W.cell? ⟨wr.heap.size, 1, none⟩ = some (.int .i64 target) ∧ W.cell? ⟨wr.heap.size, 2, none⟩ = some (.slice D nd cd) ∧ W.cell? ⟨wr.heap.size, 3, none⟩ = some (.slice S ns cs)) := ⟨fun W hW => by
   have hs := HPB.out
   unfold zF at hs
   have h1 := zl (zl hs HBV.out) hW
   have h2 := zl HGV.out hW
   exact ⟨zh h1 rfl, zh h1 rfl, zh h1 rfl, zh h1 rfl, zh h1 rfl, zh h2 rfl, zh h2 rfl, zh h2 rfl, zh h2 rfl⟩⟩
  have hln := HLN.out
  rw [HDR.out] at hln
  obtain ⟨hl1, hl2, hl3⟩ := hln
  simp only at hl1 hl2 hl3
  rw [List.drop_drop] at hl3
  have HL1 := za.mk hl1
  have HL2 := za.mk hl2
  have HL3 := za.mk hl3
  have hnm : nx + nd ≤ m := by
   have h5 := HL1.out
   rw [List.length_drop, HND.out, HTL.out] at h5
   have := HBD.out.2
   omega
  have HNM := za.mk hnm
  obtain ⟨dlr, hdlr⟩ : ∃ dlr : List F → List (List F), dlr = fun t => zE nN cols (zdg nN nT nK (zM ⟨kind, target, ds, sn⟩) t) := ⟨_, rfl⟩
  have HDLR := za.mk hdlr
  clear h0 h1 h2 h3 l1 lc1 hD l2 lc2 hS hr hmem hro hdrop hV hzV hgV hbV hov hl1 hl2 hl3 hnm hdlr
  go_wp2
  rw [← HV.out, ← HZV.out]
  have p2 := (HSK.out V (Below.refl _ _)).2.2.2.2.2.2.2.1
  obtain ⟨g2, hg2⟩ : ∃ g2, g2 = wr.heap.size := ⟨_, rfl⟩
  rw [← hg2] at HSK HGV ⊢
  clear hg2 hc0 hc1 hc2 hc3 p2 HZV HV hmm HSHA HOUT HBL
  go_loopw [14, 18, 60] (fun v14 v18 v60 wq => ∃ (j c : Nat) (Aa : Option Addr) (f : Int → Value), j ≤ nd ∧ v60 = .int .i64 j ∧ v14 = .int .i64 ((nx + j : Nat) : Int) ∧ v18 = .slice Aa j c ∧ za (DI V wq O Aa j c (((ts.drop nx).take j).map dlr) f) ∧ za (zkD W4 ts nx ds j f)) (fun _ _ v60 _ => nd - (intOf v60).toNat)
  case atStart => exact ⟨0, 0, none, _, by omega, rfl, rfl, rfl, HDI0, ⟨zjZ _ _ _ _⟩⟩
  clear HDI0
  obtain ⟨j, c5, Aa, f, hj, rfl, rfl, rfl, HDJ, HOF⟩ := hrel
  by_cases hjn : j < nd
  ·obtain ⟨adD, rfl, hxD⟩ := zbf HDI.out (Fr.of_below (HBV.out.trans (HDJ.out.bl.mono HBV.out.size)) (fun _ => False)) (fun _ h => h.elim) j hjn
   obtain ⟨ad2, B2, tc, e2, hxT, hlT, hCT⟩ := jV HT4.out (nx + j) (by have := HNM.out; omega)
   injection e2 with e2
   subst e2
   have hjd : j < ds.length := by rw [HND.out]; exact hjn
   have hgt : (ts.drop nx).getD j [] = ts.getD (nx + j) [] := by rw [List.getD_eq_getElem?_getD, List.getD_eq_getElem?_getD, List.getElem?_drop]
   have hjt : j < (ts.drop nx).length := by have := HL1.out; omega
   have htk : ((ts.drop nx).take (j + 1)).map dlr = ((ts.drop nx).take j).map dlr ++ [dlr (ts.getD (nx + j) [])] := by
    rw [zK [] _ j hjt, List.map_append, hgt]; rfl
   have htl : (ts.getD (nx + j) []).length = zD nT nK kind * cols := by
    refine HL2.out _ ?_
    rw [← hgt, List.getD_eq_getElem?_getD, List.getElem?_eq_getElem hjt]
    exact List.mem_take_iff_getElem.2 ⟨j, by omega, rfl⟩
   have hrd : 0 ≤ ds.getD j 0 ∧ ds.getD j 0 < (nN : Int) := yp HRR.out.2.2.2.2.1 (yL hjd)
   have HOF2 := za.mk (zkJ HOF.out HRR.out.2.2.2.2.1 hjd hlT hCT)
   obtain ⟨x, hx⟩ : ∃ x, x = ds.getD j 0 := ⟨_, rfl⟩
   have hx255 : 0 ≤ x ∧ x ≤ 255 := by rw [hx]; omega
   have HX := za.mk hx255
   rw [← hx] at hxD HOF2
   obtain ⟨t, ht⟩ : ∃ t, t = ts.getD (nx + j) [] := ⟨_, rfl⟩
   rw [← ht] at hxT hlT hCT htk htl HOF2
   obtain ⟨tl, htl'⟩ : ∃ tl, tl = t.length := ⟨_, rfl⟩
   rw [← htl'] at hxT hlT hCT htl HOF2
   have hkk : kind = 2 ∨ kind = 3 ∨ kind = 4 := by
    rcases HRR.out.1 with h | h
    ·exfalso
     have h5 := HRR.out.2.1
     simp only at h h5
     rw [if_pos h] at h5
     omega
    exact h
   have hfw : Fr (fun _ => False) W4 wr := Fr.of_below (HBV.out.trans (HDJ.out.bl.mono HBV.out.size)) (fun _ => False)
   have HD1 := za.mk (zhX wr.drew g nN nT nK E Rm ⟨kind, target, ds, sn⟩ (some adD) S nd cd ns cs cols B2 tl tc t (HFL.out.fr hfw.drew (fun h => h)) (jc hCT hfw.drew (fun _ _ _ h => h)) hlT (by omega) (by omega) (by omega) (by omega) (by omega) hkk ⟨HRR.out.2.2.1, HRR.out.2.2.2.1⟩ htl)
   obtain ⟨rows, hrows⟩ : ∃ rows, rows = dlr t := ⟨_, rfl⟩
   have hrw : zE nN cols (zdg nN nT nK (zM ⟨kind, target, ds, sn⟩) t) = rows := by rw [hrows, HDLR.out]
   rw [hrw] at HD1
   rw [← hrows] at htk
   obtain ⟨p, hp⟩ : ∃ p, p = nx + j := ⟨_, rfl⟩
   rw [← hp] at hxT ⊢
   have hpl : p + 1 ≤ 9223372036854775807 := by have := HNM.out; omega
   have hjl : j + 1 ≤ 9223372036854775807 := by omega
   have hjm : j ≤ 1000000 := by omega
   have HSZ : za (p < m ∧ j < nd) := ⟨by have := HNM.out; omega, hjn⟩
   have hpm : (p : Int) < (m : Int) := by have := HNM.out; omega
   have hpn : (0 : Int) ≤ (p : Int) := by omega
   have HPP : za (((nx + (j + 1) : Nat) : Int) = ((p + 1 : Nat) : Int)) := ⟨by rw [hp]; rfl⟩
   have HTKK := za.mk htk
   have HSKX : za (∀ W, Below V.heap.size V W → W.cell? (adB.add p) = some (.slice B2 tl tc)) := ⟨fun W hW => (Fr.of_below (HBV.out.trans (hW.mono HBV.out.size)) (fun _ => False)).cell hxT (fun h => h)⟩
   have HSK2 : za (∀ W, Below V.heap.size V W → za (W.cell? ⟨s, 0, none⟩ = some (.int .i64 nN) ∧ W.cell? ⟨s, 1, none⟩ = some (.int .i64 nT) ∧ W.cell? ⟨s, 2, none⟩ = some (.int .i64 nK) ∧ W.cell? ⟨s, 3, none⟩ = some (.int .i64 E) ∧ W.cell? ⟨s, 4, none⟩ = some (.int .i64 Rm) ∧ W.cell? ⟨g2, 0, none⟩ = some (.int .i64 kind) ∧ W.cell? ⟨g2, 1, none⟩ = some (.int .i64 target) ∧ W.cell? ⟨g2, 2, none⟩ = some (.slice (some adD) nd cd) ∧ W.cell? ⟨g2, 3, none⟩ = some (.slice S ns cs) ∧ W.cell? (adB.add p) = some (.slice B2 tl tc))) := ⟨fun W hW => by
    obtain ⟨b0, b1, b2, b3, b4, b5, b6, b7, b8⟩ := HSK.out W hW
    exact ⟨b0, b1, b2, b3, b4, b5, b6, b7, b8, HSKX.out W hW⟩⟩
   have hbw : Below V.heap.size V wr.drew := (HDJ.out.fr ((Fr.refl (fun _ => False) wr).drew)).bl
   have k0 := HSK2.out wr.drew hbw
   have HOF3 : za (zkD W4 ts nx ds (j + 1) (fun y => if y = x then .slice B2 tl tc else f y)) := HOF2
   have HSTEP : za (∀ w2 Y2, PLn w2 Y2 nN rows (fun k => k < wr.drew.heap.size) → Fr (fun _ => False) wr.drew w2 → ∃ A' c' W', (Builtin.append_ #[127, 127] 127 #[.slice Aa j c5, .slice (some ⟨w2.heap.size, 0, none⟩) 1 1]).run Try.prog (w2.alloc (.cells #[.slice Y2 nN nN] 37)) = .ok (.slice A' (j + 1) c') W' ∧
    ∃ (v0 : Value) (st : Nat) (w1 : World), (Instr.mapEntry 128 (.map (some V.heap.size)) (.int .i64 x)).run Try.prog W' = .ok (.tuple #[v0, .int .i64 st]) w1 ∧
    ∃ w3, (Instr.entryStore 128 (.map (some V.heap.size)) (.int .i64 st) (.slice B2 tl tc)).run Try.prog w1 = .ok () w3 ∧ za (DI V w3 O A' (j + 1) c' (((ts.drop nx).take (j + 1)).map dlr) (fun y => if y = x then .slice B2 tl tc else f y)) ∧
    za (w2.cell? ⟨s, 0, none⟩ = some (.int .i64 nN) ∧ w2.cell? ⟨s, 1, none⟩ = some (.int .i64 nT) ∧ w2.cell? ⟨s, 2, none⟩ = some (.int .i64 nK) ∧ w2.cell? ⟨s, 3, none⟩ = some (.int .i64 E) ∧ w2.cell? ⟨s, 4, none⟩ = some (.int .i64 Rm) ∧ w2.cell? ⟨g2, 0, none⟩ = some (.int .i64 kind) ∧ w2.cell? ⟨g2, 1, none⟩ = some (.int .i64 target) ∧ w2.cell? ⟨g2, 2, none⟩ = some (.slice (some adD) nd cd) ∧ w2.cell? ⟨g2, 3, none⟩ = some (.slice S ns cs) ∧ w2.cell? (adB.add p) = some (.slice B2 tl tc)) ∧ za ((w2.alloc (.cells #[.slice Y2 nN nN] 37)).cell? ⟨s, 0, none⟩ = some (.int .i64 nN) ∧ (w2.alloc (.cells #[.slice Y2 nN nN] 37)).cell? ⟨s, 1, none⟩ = some (.int .i64 nT) ∧ (w2.alloc (.cells #[.slice Y2 nN nN] 37)).cell? ⟨s, 2, none⟩ = some (.int .i64 nK) ∧ (w2.alloc (.cells #[.slice Y2 nN nN] 37)).cell? ⟨s, 3, none⟩ = some (.int .i64 E) ∧ (w2.alloc (.cells #[.slice Y2 nN nN] 37)).cell? ⟨s, 4, none⟩ = some (.int .i64 Rm) ∧ (w2.alloc (.cells #[.slice Y2 nN nN] 37)).cell? ⟨g2, 0, none⟩ = some (.int .i64 kind) ∧ (w2.alloc (.cells #[.slice Y2 nN nN] 37)).cell? ⟨g2, 1, none⟩ = some (.int .i64 target) ∧ (w2.alloc (.cells #[.slice Y2 nN nN] 37)).cell? ⟨g2, 2, none⟩ = some (.slice (some adD) nd cd) ∧ (w2.alloc (.cells #[.slice Y2 nN nN] 37)).cell? ⟨g2, 3, none⟩ = some (.slice S ns cs) ∧ (w2.alloc (.cells #[.slice Y2 nN nN] 37)).cell? (adB.add p) = some (.slice B2 tl tc)) ∧ za (W'.cell? ⟨s, 0, none⟩ = some (.int .i64 nN) ∧ W'.cell? ⟨s, 1, none⟩ = some (.int .i64 nT) ∧ W'.cell? ⟨s, 2, none⟩ = some (.int .i64 nK) ∧ W'.cell? ⟨s, 3, none⟩ = some (.int .i64 E) ∧ W'.cell? ⟨s, 4, none⟩ = some (.int .i64 Rm) ∧ W'.cell? ⟨g2, 0, none⟩ = some (.int .i64 kind) ∧ W'.cell? ⟨g2, 1, none⟩ = some (.int .i64 target) ∧ W'.cell? ⟨g2, 2, none⟩ = some (.slice (some adD) nd cd) ∧ W'.cell? ⟨g2, 3, none⟩ = some (.slice S ns cs) ∧ W'.cell? (adB.add p) = some (.slice B2 tl tc)) ∧ za (w1.cell? ⟨s, 0, none⟩ = some (.int .i64 nN) ∧ w1.cell? ⟨s, 1, none⟩ = some (.int .i64 nT) ∧ w1.cell? ⟨s, 2, none⟩ = some (.int .i64 nK) ∧ w1.cell? ⟨s, 3, none⟩ = some (.int .i64 E) ∧ w1.cell? ⟨s, 4, none⟩ = some (.int .i64 Rm) ∧ w1.cell? ⟨g2, 0, none⟩ = some (.int .i64 kind) ∧ w1.cell? ⟨g2, 1, none⟩ = some (.int .i64 target) ∧ w1.cell? ⟨g2, 2, none⟩ = some (.slice (some adD) nd cd) ∧ w1.cell? ⟨g2, 3, none⟩ = some (.slice S ns cs) ∧ w1.cell? (adB.add p) = some (.slice B2 tl tc)) ∧ za (w3.cell? ⟨s, 0, none⟩ = some (.int .i64 nN) ∧ w3.cell? ⟨s, 1, none⟩ = some (.int .i64 nT) ∧ w3.cell? ⟨s, 2, none⟩ = some (.int .i64 nK) ∧ w3.cell? ⟨s, 3, none⟩ = some (.int .i64 E) ∧ w3.cell? ⟨s, 4, none⟩ = some (.int .i64 Rm) ∧ w3.cell? ⟨g2, 0, none⟩ = some (.int .i64 kind) ∧ w3.cell? ⟨g2, 1, none⟩ = some (.int .i64 target) ∧ w3.cell? ⟨g2, 2, none⟩ = some (.slice (some adD) nd cd) ∧ w3.cell? ⟨g2, 3, none⟩ = some (.slice S ns cs) ∧ w3.cell? (adB.add p) = some (.slice B2 tl tc))) := ⟨fun w2 Y2 hpl hf2 => by
    have hfd : Fr (fun _ => False) wr w2 := ((Fr.refl (fun _ => False) wr).drew).trans' hf2
    have hd2 := HDJ.out.fr hfd
    obtain ⟨es, cl, hmb⟩ := zdt HDJ.out.ow
    have hbl := yB hmb
    obtain ⟨A', c', W', r1, b1, b2, v0, st, w1, r2, b3, w3, r3, hdi⟩ := hd2.step HOL.out (yM hpl (fun k _ hk => by
     rcases hk with hk | hk | hk
     ·have h5 := HOL.out k hk
      exact Nat.lt_trans h5 hbl
     ·exact (zmL HDJ.out.al k hk).1
     rw [hk]; exact hbl)) x HX.out (.slice B2 tl tc) hjm
    rw [← HTKK.out] at hdi
    exact ⟨A', c', W', r1, v0, st, w1, r2, w3, r3, ⟨hdi⟩, HSK2.out _ hd2.bl, HSK2.out _ b1, HSK2.out _ b2, HSK2.out _ b3, HSK2.out _ hdi.bl⟩⟩
   clear hfw htl hkk hrows hrw hp hxT hlT hCT ht htl' hgt hjt htk hjd hrd hx255 HX hx HSK2 HSKX HTKK HDJ HOF HOF2 hbw
   unfold zv Je at HD1
   have hp1 : wrap64 ((p : Int) + 1) = ((p + 1 : Nat) : Int) := yU p hpl
   have hj1 : wrap64 ((j : Int) + 1) = ((j + 1 : Nat) : Int) := yU j hjl
   have HJ1 := za.mk hj1
   have HP1 := za.mk hp1
   clear hpl hjl hjm hj1 hp1
   go_wp2
   refine wp_region_held_drew (S := (fun W => W.cell? ⟨s, 0, none⟩ = some (.int .i64 nN) ∧ W.cell? ⟨s, 1, none⟩ = some (.int .i64 nT) ∧ W.cell? ⟨s, 2, none⟩ = some (.int .i64 nK) ∧ W.cell? ⟨s, 3, none⟩ = some (.int .i64 E) ∧ W.cell? ⟨s, 4, none⟩ = some (.int .i64 Rm) ∧ W.cell? ⟨g2, 0, none⟩ = some (.int .i64 kind) ∧ W.cell? ⟨g2, 1, none⟩ = some (.int .i64 target) ∧ W.cell? ⟨g2, 2, none⟩ = some (.slice (some adD) nd cd) ∧ W.cell? ⟨g2, 3, none⟩ = some (.slice S ns cs) ∧ W.cell? (adB.add p) = some (.slice B2 tl tc))) (by kernel_rfl) (k0.out) (fun hS => ?_)
   refine zk 0 64 hS ?_
   refine zk 1 65 hS ?_
   refine zk 2 66 hS ?_
   refine zk 3 67 hS ?_
   refine zk 4 68 hS ?_
   refine zk 5 69 hS ?_
   refine zk 6 70 hS ?_
   refine zk 7 71 hS ?_
   refine zk 8 72 hS ?_
   refine zk 9 73 hS ?_
   refine zk 10 74 hS ?_
   refine zk 14 78 hS ?_
   refine zk 15 79 hS ?_
   refine zk 16 80 hS ?_
   refine zk 17 81 hS ?_
   refine wpAnyH_ready (rs := [11]) (by kernel_rfl) (by simp) ?_
   refine AllReadyH.cons rfl (fun K hK => ?_) AllReadyH.nil
   rw [if_pos (by rfl)]
   go_simp
   go_at_call 106; with_reducible refine HD1.out.mono ?_; rintro e w2 ⟨Y2, rfl, hpl, hf2⟩; obtain ⟨A2, c2, W3, hrun, v0, st, w5, hme, w6, hes, HDI2, k1, k2, k3, k4, k5⟩ := HSTEP.out w2 Y2 hpl hf2; clear hpl hf2
   refine hK.out _ _ (by first | with_reducible exact k5.out | with_reducible exact k4.out | with_reducible exact k3.out | with_reducible exact k2.out | with_reducible exact k1.out) (fun hS2 => ?_)
   clear hK K hS
   have hS := hS2
   clear hS2
   try simp only [Act.put, List.setIfInBounds_toArray, List.set_cons_zero, List.set_cons_succ]
   refine wpAnyH_ready (rs := [12]) (by kernel_rfl) (by simp) ?_
   refine AllReadyH.cons rfl (fun K hK => ?_) AllReadyH.nil
   rw [if_pos (by rfl)]
   go_simp
   refine hK.out _ _ (by first | with_reducible exact k5.out | with_reducible exact k4.out | with_reducible exact k3.out | with_reducible exact k2.out | with_reducible exact k1.out) (fun hS2 => ?_)
   clear hK K hS
   have hS := hS2
   clear hS2
   try simp only [Act.put, List.setIfInBounds_toArray, List.set_cons_zero, List.set_cons_succ]
   refine wpAnyH_ready (rs := [13]) (by kernel_rfl) (by simp) ?_
   refine AllReadyH.cons rfl (fun K hK => ?_) AllReadyH.nil
   refine yF rfl _ _ _ _ rfl rfl rfl hrun ?_
   refine hK.out _ _ (by first | with_reducible exact k5.out | with_reducible exact k4.out | with_reducible exact k3.out | with_reducible exact k2.out | with_reducible exact k1.out) (fun hS2 => ?_)
   clear hK K hS
   have hS := hS2
   clear hS2
   try simp only [Act.put, List.setIfInBounds_toArray, List.set_cons_zero, List.set_cons_succ, List.getElem_toArray, List.getElem_cons_zero, List.getElem_cons_succ]
   refine zk 18 18 hS ?_
   refine wpAnyH_ready (rs := [19]) (by kernel_rfl) (by simp) ?_
   refine AllReadyH.cons rfl (fun K hK => ?_) AllReadyH.nil
   rw [if_pos (by rfl)]
   go_simp
   refine hK.out _ _ (by first | with_reducible exact k5.out | with_reducible exact k4.out | with_reducible exact k3.out | with_reducible exact k2.out | with_reducible exact k1.out) (fun hS2 => ?_)
   clear hK K hS
   have hS := hS2
   clear hS2
   try simp only [Act.put, List.setIfInBounds_toArray, List.set_cons_zero, List.set_cons_succ]
   refine zk 20 83 hS ?_
   refine wpAnyH_ready (rs := [21]) (by kernel_rfl) (by simp) ?_
   refine AllReadyH.cons rfl (fun K hK => ?_) AllReadyH.nil
   rw [if_pos (by rfl)]
   go_simp
   refine hK.out _ _ (by first | with_reducible exact k5.out | with_reducible exact k4.out | with_reducible exact k3.out | with_reducible exact k2.out | with_reducible exact k1.out) (fun hS2 => ?_)
   clear hK K hS
   have hS := hS2
   clear hS2
   try simp only [Act.put, List.setIfInBounds_toArray, List.set_cons_zero, List.set_cons_succ]
   refine wpAnyH_done (by kernel_rfl) ?_ _
   clear hrun hme hes k0 k1 k2 k3 k4 k5 hS HD1 HSTEP
   go_wp2
   go_roundw
   case rel => exact ⟨j + 1, c2, A2, _, hjn, by first | rw [HJ1.out] | go_num, by first | (rw [HPP.out]; go_num) | (rw [HPP.out]; rfl), rfl, HDI2, HOF3⟩
   first | (rw [HJ1.out]; simp [intOf]; omega) | (simp [intOf]; omega)
  obtain rfl : nd = j := by omega
  obtain ⟨dE, hdE⟩ : ∃ dE : List Ev, dE = ((ts.drop nx).take nd).map (zdg nN nT nK (zM ⟨kind, target, ds, sn⟩)) := ⟨_, rfl⟩
  have hdl2 : ((ts.drop nx).take nd).map dlr = dE.map (zE nN cols) := by rw [HDLR.out, hdE, List.map_map]; rfl
  have hdi := HDJ.out
  rw [hdl2] at hdi
  have hdel : dE.length = nd := by
   have := HL1.out
   rw [HND.out] at this
   rw [hdE, List.length_map, List.length_take]
   omega
  have hfv : Fr (fun _ => False) V wr := Fr.of_below hdi.bl _
  have HSU := za.mk (zmR wr Y nN cy cols q Aa nd c5 dE (fun k => OB O k) (yy HSV.out hfv) (fun k hk => Nat.lt_of_lt_of_le (HOL.out k hk) hdi.bl.size) (zpi hdi.al) (by omega) (by omega) (by omega) (by omega))
  have HLS0 : za (∀ w1 g3, PLn w1 (some ⟨g3, 0, none⟩) nN (zE nN cols (yg q dE)) (fun k => OB O k) → Below wr.heap.size wr w1 → LS W4 w1 nN cols g2 #[.int .i64 kind, .int .i64 target, .slice D nd cd, .slice S ns cs] V.heap.size nd f Y q (some ⟨g3, 0, none⟩) (yg q dE) Aa nd c5 dE O no co out) := ⟨fun w1 g3 hp hb => by
   have hfw : Fr (fun _ => False) wr w1 := Fr.of_below hb _
   have hf1 := hfv.trans' hfw
   exact ⟨jo HOV.out hf1 (fun _ _ _ _ h => h), yy HSV.out hf1, hp, zeZ (zhQ (JB hdi.al hfw) (fun k _ hk => .inl hk)) HBV.out.size, zer hdi.ow hfw (fun h => h), hf1.blk HGV.out (fun h => h), HBV.out.trans ((hdi.bl.trans (hb.mono hdi.bl.size)).mono HBV.out.size)⟩⟩
  have HDEL := za.mk hdel
  have HDEE := za.mk hdE
  obtain ⟨sT, hsT⟩ : ∃ sT, sT = zbz cols ⟨kind, target, ds, sn⟩ q dE ((ts.drop nx).take nd) := ⟨_, rfl⟩
  have HST0 : za (sT 0 = []) := ⟨by rw [hsT]; rfl⟩
  have HSTS : za (∀ jj, jj < ns → sT (jj + 1) = sT jj ++ Zw cols kind (ds.map Int.toNat) q dE (ts.drop nx) (sn.getD jj 0).toNat) := ⟨fun jj hjj => by
   rw [hsT, zdb (by rw [← HNS.out] at hjj; exact hjj)]
   unfold Zw
   have h5 : ∀ x, yI x (ds.map Int.toNat) ((ts.drop nx).take nd) = yI x (ds.map Int.toNat) (ts.drop nx) := fun x => by
    have h6 := zaJ x (ds.map Int.toNat) (ts.drop nx)
    rw [List.length_map, HND.out] at h6
    exact h6
   simp only [h5]⟩
  have HSTE := za.mk hsT
  have HOWL : za (∀ x, (yI x (ds.map Int.toNat) (ts.drop nx)).length ≤ 512000) := ⟨fun x => by
   refine Nat.le_trans (zjB HRR.out.2.2.2.2.1 HL1.out HL2.out) ?_
   have h5 := jH nT nK kind (by omega) (by omega)
   exact Nat.le_trans (Nat.mul_le_mul h5 hcl) (by decide)⟩
  have HOWR : za (∀ x : Nat, ∃ B n c, f (x : Int) = .slice B n c ∧ Kd.C fk W4 B n (yI x (ds.map Int.toNat) (ts.drop nx))) := ⟨fun x => zlu (by rw [HND.out]; exact HOF.out) HRR.out.2.2.2.2.1 HL1.out x⟩
  have hno : no ≤ i * 150000000 := HBD.out.1
  have HNO := za.mk hno
  clear hdl2 hdi hdel hfv hdE hsT hno HDJ HOF HSV HOV HGV
  go_wp2_with (go_at_call 107; with_reducible refine HSU.out.mono ?_; rintro e w1 ⟨g3, cg, rfl, hp3, hb3, hcg3⟩; have HCG := za.mk hcg3; have HLS1 := za.mk (HLS0.out w1 g3 hp3 hb3); have q3 := zh HLS1.out.rb (j := 3) (v := .slice S ns cs) rfl; clear hp3 hb3 hcg3)
  clear HSU HLS0 q3
  obtain ⟨rc, hrc⟩ : ∃ rc : Array Value, rc = #[.int .i64 kind, .int .i64 target, .slice D nd cd, .slice S ns cs] := ⟨_, rfl⟩
  rw [← hrc] at HLS1
  have HRC := za.mk hrc
  clear hrc
  go_loopw [15, 93] (fun v15 v93 wq => ∃ (jj no2 co2 : Nat) (O2 : Option Addr) (out2 : List F), jj ≤ ns ∧ v93 = .int .i64 jj ∧ v15 = .slice O2 no2 co2 ∧ za (LS W4 wq nN cols g2 rc V.heap.size nd f Y q (some ⟨g3, 0, none⟩) (yg q dE) Aa nd c5 dE O2 no2 co2 out2) ∧ za (out2 = out ++ sT jj) ∧ za (no2 ≤ i * 150000000 + jj * 578048)) (fun _ v93 _ => ns - (intOf v93).toNat)
  case atStart => exact ⟨0, no, co, O, out, by omega, rfl, rfl, HLS1, ⟨by rw [HST0.out, List.append_nil]⟩, ⟨Nat.le_trans HNO.out (Nat.le_add_right _ _)⟩⟩
  clear HLS1
  obtain ⟨jj, no2, co2, O2, out2, hjj, rfl, rfl, HLS, HO2, HB2⟩ := hrel
  by_cases hjs : jj < ns
  ·obtain ⟨adS, rfl, hxS⟩ := zbf HSE.out (Fr.of_below HLS.out.bl (fun _ => False)) (fun _ h => h.elim) jj hjs
   have hjl : jj < sn.length := by rw [HNS.out]; exact hjs
   have hrs : 0 ≤ sn.getD jj 0 ∧ sn.getD jj 0 < (nN : Int) := yp HRR.out.2.2.2.2.2.1 (yL hjl)
   obtain ⟨h, hh⟩ : ∃ h : Nat, sn.getD jj 0 = (h : Int) := ⟨_, (Int.toNat_of_nonneg hrs.1).symm⟩
   have hhN : h < nN := by omega
   have hst := HSTS.out jj hjs
   rw [hh, Int.toNat_natCast] at hst
   rw [hh] at hxS
   have HST := za.mk hst
   obtain ⟨adY, B7, c7, rfl, hc7, hl7, hC7⟩ := JN HLS.out.sh h hhN
   rw [yE _ _ _ _ hhN] at hc7 hl7 hC7
   rw [zz] at hc7 hl7 hC7
   have hbd : no2 + 578048 ≤ 140737488355328 := by
    have h5 := HB2.out
    have h6 : i * 150000000 ≤ 1024 * 150000000 := Nat.mul_le_mul_right _ (by omega)
    omega
   obtain ⟨O3, co3, w3, run3, S3⟩ := HLS.out.push (c := c7) hC7 (by omega)
   have hhI : (h : Int) < (nN : Int) := by omega
   clear hrs hh hjl hst hC7
   go_wp2_with (at_builtin; refine zm rfl _ _ _ _ rfl rfl rfl run3 ?_)
   clear run3 hc7
   go_loopw [15, 105] (fun v15 v105 wq => ∃ (k no4 co4 : Nat) (O4 : Option Addr) (out4 : List F), k ≤ nd ∧ v105 = .int .i64 k ∧ v15 = .slice O4 no4 co4 ∧ za (LS W4 wq nN cols g2 rc V.heap.size nd f (some adY) q (some ⟨g3, 0, none⟩) (yg q dE) Aa nd c5 dE O4 no4 co4 out4) ∧ za (out4 = out2 ++ yo cols q h ++ ((dE.take k).flatMap fun d => yo cols d h)) ∧ za (no4 ≤ no2 + cols + k * cols)) (fun _ v105 _ => nd - (intOf v105).toNat)
   case atStart => exact ⟨0, _, co3, O3, _, by omega, rfl, rfl, S3, ⟨by simp⟩, ⟨by omega⟩⟩
   obtain ⟨k, no4, co4, O4, out4, hk, rfl, rfl, HLS4, HO4, HB4⟩ := hrel
   have hb4 : no4 ≤ no2 + cols + 65536 := by
    have h5 : k * cols ≤ 256 * 256 := Nat.mul_le_mul (by omega) hcl
    have h6 := HB4.out
    omega
   by_cases hkd : k < nd
   ·obtain ⟨adA, B8, c8, rfl, hc8, hl8, hP8⟩ := zls HLS4.out.al k hkd
    have hkl : k < dE.length := by rw [HDEL.out]; exact hkd
    have hdk : (dE.map (zE nN cols)).getD k [] = zE nN cols (dE.getD k fun _ _ => 0) := by
     rw [List.getD_eq_getElem?_getD, List.getD_eq_getElem?_getD, List.getElem?_map, List.getElem?_eq_getElem hkl]; rfl
    rw [hdk] at hc8 hl8 hP8
    rw [Zf] at hc8 hl8 hP8
    obtain ⟨adR, B9, c9, rfl, hc9, hl9, hC9⟩ := JN hP8 h hhN
    rw [yE _ _ _ _ hhN] at hc9 hl9 hC9
    rw [zz] at hc9 hl9 hC9
    obtain ⟨O5, co5, w5, run5, S5⟩ := HLS4.out.push (c := c9) hC9 (by omega)
    have hts : dE.take (k + 1) = dE.take k ++ [dE.getD k fun _ _ => 0] := zK (fun _ _ => 0) dE k hkl
    have HQ5 : za (out4 ++ yo cols (dE.getD k fun _ _ => 0) h = out2 ++ yo cols q h ++ ((dE.take (k + 1)).flatMap fun d => yo cols d h)) := ⟨by
     rw [HO4.out, hts, List.flatMap_append]
     simp⟩
    have HQ6 : za (no4 + cols ≤ no2 + cols + (k + 1) * cols) := ⟨by
     have h5 := HB4.out
     rw [Nat.add_mul, Nat.one_mul]
     omega⟩
    have hkI : (k : Int) < (nd : Int) := by omega
    clear hdk hkl hts hP8 hC9
    go_wp2_with (at_builtin; refine zm rfl _ _ _ _ rfl rfl rfl run5 ?_)
    clear run5 hc8 hc9
    go_roundw
    case rel => exact ⟨k + 1, _, co5, O5, _, by omega, by go_num, rfl, S5, HQ5, HQ6⟩
    simp [intOf]; omega
   obtain rfl : nd = k := by omega
   have hlk := zlF HLS4.out.ow (h : Int) (by omega)
   obtain ⟨B6, n6, c6, hf6, hC6⟩ := HOWR.out h
   rw [hf6] at hlk
   have hn6 : n6 ≤ 512000 := by rw [← Kd.C_len hC6]; exact HOWL.out h
   obtain ⟨O6, co6, w6, run6, S6⟩ := HLS4.out.push (c := c6) (jc hC6 (Fr.of_below HLS4.out.bl (fun _ => False)) (fun _ _ _ h => h)) (by omega)
   have hq0 := zh S6.out.rb (j := 0) (v := .int .i64 kind) (by rw [HRC.out]; rfl)
   have HO5 : za (out4 = out2 ++ yo cols q h ++ (dE.flatMap fun d => yo cols d h)) := ⟨by
    rw [HO4.out, List.take_of_length_le (by rw [HDEL.out]; exact Nat.le_refl _)]⟩
   by_cases hk2 : kind = 2
   ·obtain ⟨adZ, B10, c10, e10, hc10, hl10, hC10⟩ := JN S6.out.su h hhN
    injection e10 with e10
    subst e10
    rw [yE _ _ _ _ hhN] at hc10 hl10 hC10
    rw [zz, zaA] at hc10
    rw [zz] at hl10 hC10
    obtain ⟨O7, co7, w7, run7, S7⟩ := S6.out.push (c := c10) hC10 (by omega)
    have HQ7 : za (out4 ++ yI h (ds.map Int.toNat) (ts.drop nx) ++ yo cols (yg q dE) h = out ++ sT (jj + 1)) := ⟨by
     rw [HST.out]
     unfold Zw
     rw [if_pos hk2, HO5.out, HO2.out]
     simp⟩
    have HQ8 : za (no4 + n6 + cols ≤ i * 150000000 + (jj + 1) * 578048) := ⟨by
     have h5 := HB2.out
     rw [Nat.add_mul jj 1, Nat.one_mul]
     omega⟩
    have hkt : (kind == (2 : Int)) = true := by rw [hk2]; rfl
    subst hk2
    clear hC10 hC6 hf6 hb4 hbd hn6
    go_wp2_with (at_builtin; first | refine zm rfl _ _ _ _ rfl rfl rfl run6 ?_ | refine zm rfl _ _ _ _ rfl rfl rfl run7 ?_)
    clear run6 run7 hc10
    go_roundw
    case rel => exact ⟨jj + 1, _, co7, O7, _, by omega, by go_num, rfl, S7, HQ7, HQ8⟩
    simp [intOf]; omega
   have HQ7 : za (out4 ++ yI h (ds.map Int.toNat) (ts.drop nx) = out ++ sT (jj + 1)) := ⟨by
    rw [HST.out]
    unfold Zw
    rw [if_neg hk2, HO5.out, HO2.out]
    simp⟩
   have HQ8 : za (no4 + n6 ≤ i * 150000000 + (jj + 1) * 578048) := ⟨by
    have h5 := HB2.out
    rw [Nat.add_mul jj 1, Nat.one_mul]
    omega⟩
   have hkt : (kind == (2 : Int)) = false := by simpa using hk2
   clear hC6 hf6 hb4 hbd hn6
   go_wp2_with (at_builtin; refine zm rfl _ _ _ _ rfl rfl rfl run6 ?_)
   clear run6
   go_roundw
   case rel => exact ⟨jj + 1, _, co6, O6, _, by omega, by go_num, rfl, S6, HQ7, HQ8⟩
   simp [intOf]; omega
  obtain rfl : ns = jj := by omega
  have q0 := zh HLS.out.rb (j := 0) (v := .int .i64 kind) (by rw [HRC.out]; rfl)
  have q1 := zh HLS.out.rb (j := 1) (v := .int .i64 target) (by rw [HRC.out]; rfl)
  have q2 := zh HLS.out.rb (j := 2) (v := .slice D nd cd) (by rw [HRC.out]; rfl)
  have q3 := zh HLS.out.rb (j := 3) (v := .slice S ns cs) (by rw [HRC.out]; rfl)
  have hfl : Fr (fun _ => False) W4 wr := Fr.of_below HLS.out.bl _
  have hrl : ∀ x, x < nN → ((zE nN cols (yg q dE)).getD x []).length ≤ cols := fun x hx => by rw [yE _ _ _ _ hx, zz]; exact Nat.le_refl _
  have HTD := za.mk (zlk wr ⟨kind, target, ds, sn⟩ D S nd cd ns cs (Kd.C_below HDI.out HLS.out.bl) (Kd.C_below HSE.out HLS.out.bl) HLC.out.1 HLC.out.2 (by omega) (some ⟨g3, 0, none⟩) nN cg cols (zE nN cols (yg q dE)) (zfI HLS.out.su) HCG.out (by omega) hrl (by omega))
  have hre := zhh (N := nN) (cols := cols) (r := ⟨kind, target, ds, sn⟩) (q := q) (ds := dE) (ts := (ts.drop nx).take nd) HRR.out.2.2.1 (fun x hx => (yp HRR.out.2.2.2.2.2.1 hx).1)
  have htdl : (zbm nN (zE nN cols (yg q dE)) ⟨kind, target, ds, sn⟩).length ≤ nN * cols := zeD _ _ cols (by rw [Zf]; exact hrl) nN (by rw [Zf]; exact Nat.le_refl _)
  obtain ⟨tL, htL⟩ : ∃ tL, tL = zbm nN (zE nN cols (yg q dE)) ⟨kind, target, ds, sn⟩ := ⟨_, rfl⟩
  rw [← htL] at HTD hre htdl
  obtain ⟨tz, htz⟩ : ∃ tz, tz = tL.length := ⟨_, rfl⟩
  rw [← htz] at HTD htdl
  have htb : tz ≤ 65280 := Nat.le_trans htdl (Nat.le_trans (Nat.mul_le_mul (show nN ≤ 255 by omega) hcl) (by decide))
  have hre2 : out ++ sT ns ++ tL ++ Zl nN cols (Jm nN nK) (yO nT nK) ptF ((rs.drop (i + 1)).map zM) (if kind = 2 then yg q dE else q) (ts.drop (nx + nd)) = res := by
   have h5 := HRES.out
   rw [HDR.out] at h5
   have e1 : (zM ⟨kind, target, ds, sn⟩).dealers.length = nd := by
    show (ds.map Int.toNat).length = nd
    rw [List.length_map]
    exact HND.out
   rw [List.map_cons] at h5
   unfold Zl at h5
   rw [e1] at h5
   have e2 : ((ts.drop nx).take nd).map (Jb (Jm nN nK (zM ⟨kind, target, ds, sn⟩)) (yO nT nK (zM ⟨kind, target, ds, sn⟩)) ptF) = dE := HDEE.out.symm
   rw [e2, hre, List.drop_drop] at h5
   rw [HSTE.out]
   rw [HNS.out] at h5
   rw [← h5]
   simp only [List.append_assoc]
   rfl
  have HRE2 := za.mk hre2
  have hsz : no2 + tz ≤ 140737488355328 := by
   have h5 := HB2.out
   have h6 : i * 150000000 ≤ 1024 * 150000000 := Nat.mul_le_mul_right _ (by omega)
   have h7 : ns * 578048 ≤ 255 * 578048 := Nat.mul_le_mul_right _ (by omega)
   omega
  have HBD2 : za (no2 + tz ≤ (i + 1) * 150000000 ∧ nx + nd ≤ m) := ⟨by
   have h5 := HB2.out
   have h7 : ns * 578048 ≤ 255 * 578048 := Nat.mul_le_mul_right _ (by omega)
   rw [Nat.add_mul i 1, Nat.one_mul]
   omega, HNM.out⟩
  have HPU : za (∀ w8 B8 d8, Kd.C fk w8 B8 tz tL → Below wr.heap.size wr w8 → ∃ O' co' W', (Builtin.append_ #[36, 36] 36 #[.slice O2 no2 co2, .slice B8 tz d8]).run Try.prog w8 = .ok (.slice O' (no2 + tz) co') W' ∧ za (LS W4 W' nN cols g2 rc V.heap.size nd f Y q (some ⟨g3, 0, none⟩) (yg q dE) Aa nd c5 dE O' (no2 + tz) co' (out2 ++ tL)) ∧ W'.cell? ⟨g2, 0, none⟩ = some (.int .i64 kind)) := ⟨fun w8 B8 d8 hC8 hb8 => by
   obtain ⟨O9, co9, w9, run9, S9⟩ := (HLS.out.below hb8).push (c := d8) hC8 hsz
   exact ⟨O9, co9, w9, run9, S9, zh S9.out.rb (j := 0) (v := .int .i64 kind) (by rw [HRC.out]; rfl)⟩⟩
  have HL4 : za (Ji nT nK cols (rs.drop (i + 1)) (ts.drop (nx + nd))) := ⟨by rw [← HND.out]; exact HL3.out⟩
  clear hre htdl htL htz htb hre2 hsz hfl hrl
  by_cases hk2 : kind = 2
  ·have hkt : (kind == (2 : Int)) = true := by rw [hk2]; rfl
   subst hk2
   go_wp2_with (first | (go_at_call 108; with_reducible refine HTD.out.mono ?_; rintro e w8 ⟨B8, d8, rfl, hC8, hl8, hb8⟩; obtain ⟨O9, co9, w9, run9, S9, q9⟩ := HPU.out w8 B8 d8 hC8 hb8; clear hC8 hl8 hb8) | (at_builtin; refine zm rfl _ _ _ _ rfl rfl rfl run9 ?_))
   clear run9 q0 q1 q2 q3 q9
   go_roundw
   case rel => exact ⟨i + 1, nx + nd, no2 + tz, co9, cg, some ⟨g3, 0, none⟩, O9, yg q dE, out2 ++ tL, by omega, by go_num, rfl, by go_num, rfl, ⟨S9.out.row⟩, ⟨S9.out.su⟩, HCG, ⟨S9.out.bl⟩, ⟨by rw [HO2.out]; exact HRE2.out⟩, HL4, HBD2⟩
   simp [intOf]; omega
  have hkt : (kind == (2 : Int)) = false := by simpa using hk2
  have HRE3 := HRE2.out
  rw [if_neg hk2] at HRE3
  have HRE4 := za.mk HRE3
  clear HRE3
  go_wp2_with (first | (go_at_call 108; with_reducible refine HTD.out.mono ?_; rintro e w8 ⟨B8, d8, rfl, hC8, hl8, hb8⟩; obtain ⟨O9, co9, w9, run9, S9, q9⟩ := HPU.out w8 B8 d8 hC8 hb8; clear hC8 hl8 hb8) | (at_builtin; refine zm rfl _ _ _ _ rfl rfl rfl run9 ?_))
  clear run9 q0 q1 q2 q3 q9
  go_roundw
  case rel => exact ⟨i + 1, nx + nd, no2 + tz, co9, cy, Y, O9, q, out2 ++ tL, by omega, by go_num, rfl, by go_num, rfl, ⟨S9.out.row⟩, ⟨S9.out.sh⟩, HCY, ⟨S9.out.bl⟩, ⟨by rw [HO2.out]; exact HRE4.out⟩, HL4, HBD2⟩
  simp [intOf]; omega
 obtain rfl : i = nr := by omega
 have hres : out = res := by
  have h5 := HRES.out
  rw [List.drop_eq_nil_of_le (by rw [HNL.out]; exact Nat.le_refl _)] at h5
  rw [← h5]
  unfold Zl
  simp
 have hrd := Kd.R_reads' HOUT.out
 have hC := R_C HOUT.out
 have hol := Kd.C_len hC
 rw [hres] at hC hol
 have HCC := za.mk hC
 have HOL := za.mk hol
 have hnc : no ≤ co := hrd.2.1
 have HBB : za (Below w.heap.size w wr) := ⟨HBW.out.trans (HBL.out.mono HBW.out.size)⟩
 clear hres hrd hC hol HRES HOUT HBL
 go_wp2_with (go_at_call 80; with_reducible refine (zgF _ _ _ _ hnc).mono ?_; rintro e w8 ⟨rfl, rfl⟩)
 go_ret2
 have h5 := HOL.out
 exact ⟨O, no, by rw [h5]; rfl, by rw [h5]; exact HCC.out, by rw [h5]; exact Nat.le_refl _, HBB.out⟩
end Go.Proofs.Ytpeiejkcoadhfaa
