/- What the view's laws take, Vu38: VwBA, VwBB, VwBE, VwBC, VwBH, VwBI, VwBJ. -/
import Derived.Test.YtpeiejkcoadhfaaVu23
import Derived.Test.YtpeiejkcoadhfaaVu24
import Derived.Test.YtpeiejkcoadhfaaVu33
import Derived.Test.YtpeiejkcoadhfaaVu37
set_option linter.all false
namespace Go.Proofs.Ytpeiejkcoadhfaa
open Go.RowKit Go.Shelf Go.Proofs.YtpeiejkcoadhfaaW.PrintWords Go.Proofs.YtpeiejkcoadhfaaW.PrintMore
open Go.BigFrame
attribute [local go_sem] Oper.semAt_some
theorem zpk {w : World} {A : Option Addr} {n : Nat} {p : List F} (h : Kd.C fk w A n p) (hn : 0 < n) : ∀ j, OB A j → j < w.heap.size := by
 rintro j ⟨a, ha, rfl⟩
 obtain ⟨ad, e, hc⟩ := (Kd.reads_of_C (enc := zZ) (d := (0 : F)) (h1 := fun _ => rfl) h).2.2 hn
 rw [ha] at e
 injection e with e
 subst e
 have := World.block_lt_of_cell? w _ (hc 0 hn)
 rw [yi] at this
 exact this
def PLn (W : World) (A : Option Addr) (n : Nat) (qs : List (List F)) (P : Nat → Prop) : Prop :=
 ∃ hs : List Hd, Kd.C kh W A n hs ∧ qs.length = n ∧ (0 < n → ∀ j, OB A j → j < W.heap.size ∧ ¬ P j) ∧ ∀ i, i < n → (hs.getD i hd0).2.1 = (qs.getD i []).length ∧ (hs.getD i hd0).2.1 ≤ (hs.getD i hd0).2.2 ∧ Kd.C fk W (hs.getD i hd0).1 (qs.getD i []).length (qs.getD i []) ∧ (0 < (qs.getD i []).length → ∀ j, OB (hs.getD i hd0).1 j → j < W.heap.size ∧ ¬ P j)
theorem zfI {W : World} {A : Option Addr} {n : Nat} {qs : List (List F)} {P : Nat → Prop} (h : PLn W A n qs P) : PL W A n qs := by
 obtain ⟨hs, h1, h2, _, h3⟩ := h
 exact ⟨hs, h1, h2, fun i hi => ⟨(h3 i hi).1, (h3 i hi).2.1, (h3 i hi).2.2.1⟩⟩
theorem yM {W : World} {A : Option Addr} {n : Nat} {qs : List (List F)} {P P' : Nat → Prop} (h : PLn W A n qs P) (hp : ∀ k, k < W.heap.size → P' k → P k) : PLn W A n qs P' := by
 obtain ⟨hs, h1, h2, h0, h3⟩ := h
 exact ⟨hs, h1, h2, fun hn j hj => ⟨(h0 hn j hj).1, fun h => (h0 hn j hj).2 (hp j (h0 hn j hj).1 h)⟩, fun i hi => ⟨(h3 i hi).1, (h3 i hi).2.1, (h3 i hi).2.2.1, fun h4 j hj => ⟨((h3 i hi).2.2.2 h4 j hj).1, fun h => ((h3 i hi).2.2.2 h4 j hj).2 (hp j ((h3 i hi).2.2.2 h4 j hj).1 h)⟩⟩⟩
theorem ZK {W W1 : World} {A : Option Addr} {n : Nat} {qs : List (List F)} {P P' : Nat → Prop} (h : PLn W A n qs P) (hf : Fr P W W1) (ho : ∀ k, P' k → P k ∨ W.heap.size ≤ k) : PLn W1 A n qs P' := by
 obtain ⟨hs, h1, h2, h0, h3⟩ := h
 have ne : ∀ j, j < W.heap.size → ¬ P j → j < W1.heap.size ∧ ¬ P' j := fun j h4 h5 => ⟨Nat.lt_of_lt_of_le h4 hf.size, fun h6 => by
  rcases ho j h6 with h7 | h7
  ·exact h5 h7
  omega⟩
 refine ⟨hs, zlN hd0 h1 hf (fun ad ha hn => (h0 hn ad.block ⟨ad, ha, rfl⟩).2), h2, fun hn j hj => ne j (h0 hn j hj).1 (h0 hn j hj).2, fun i hi => ?_⟩
 obtain ⟨e1, e2, e3, e4⟩ := h3 i hi
 exact ⟨e1, e2, jc e3 hf (fun j hj hp => (e4 hp j hj).2), fun hp j hj => ne j (e4 hp j hj).1 (e4 hp j hj).2⟩
theorem yy {W W1 : World} {A : Option Addr} {n : Nat} {qs : List (List F)} {P : Nat → Prop} (h : PLn W A n qs P) (hf : Fr (fun _ => False) W W1) : PLn W1 A n qs P := by
 obtain ⟨hs, h1, h2, h0, h3⟩ := h
 refine ⟨hs, zlN hd0 h1 hf (fun _ _ _ h => h), h2, fun hn j hj => ⟨Nat.lt_of_lt_of_le (h0 hn j hj).1 hf.size, (h0 hn j hj).2⟩, fun i hi => ?_⟩
 obtain ⟨e1, e2, e3, e4⟩ := h3 i hi
 exact ⟨e1, e2, jc e3 hf (fun _ _ _ h => h), fun hp j hj => ⟨Nat.lt_of_lt_of_le (e4 hp j hj).1 hf.size, (e4 hp j hj).2⟩⟩
def jY (W : World) (P : Nat → Prop) (b g N c : Nat) (rows : List (List F)) : Prop :=
 ∃ hs : List Hd, Kd.R kh 36 W b (fun k => k = g) (.slice (some ⟨g, 0, none⟩) N c) hs ∧ rows.length = N ∧ ∀ i, i < N → (hs.getD i hd0).2.1 = (rows.getD i []).length ∧ (hs.getD i hd0).2.1 ≤ (hs.getD i hd0).2.2 ∧ Kd.C fk W (hs.getD i hd0).1 (rows.getD i []).length (rows.getD i []) ∧ (0 < (rows.getD i []).length → ∀ j, OB (hs.getD i hd0).1 j → j < W.heap.size ∧ j ≠ g ∧ ¬ P j)
theorem zgG {W : World} {P : Nat → Prop} {b g N c : Nat} {rows : List (List F)} (h : jY W P b g N c rows) (hg : ¬ P g) : PLn W (some ⟨g, 0, none⟩) N rows P := by
 obtain ⟨hs, h1, h2, h3⟩ := h
 refine ⟨hs, R_C h1, h2, fun hn j hj => ?_, fun i hi => ⟨(h3 i hi).1, (h3 i hi).2.1, (h3 i hi).2.2.1, fun hp j hj => ⟨((h3 i hi).2.2.2 hp j hj).1, ((h3 i hi).2.2.2 hp j hj).2.2⟩⟩⟩
 obtain ⟨a, ha, rfl⟩ := hj
 injection ha with ha
 subst ha
 exact ⟨Kd.R_lt h1 g (by simp [Value.ownBlock]), hg⟩
theorem zdy {W W1 : World} {P : Nat → Prop} {b g N c : Nat} {rows : List (List F)} (h : jY W P b g N c rows) (hf : Fr (fun _ => False) W W1) : jY W1 P b g N c rows := by
 obtain ⟨hs, h1, h2, h3⟩ := h
 refine ⟨hs, jo h1 hf (fun _ _ _ _ h => h), h2, fun i hi => ?_⟩
 obtain ⟨e1, e2, e3, e4⟩ := h3 i hi
 exact ⟨e1, e2, jc e3 hf (fun _ _ _ h => h), fun hp j hj => ⟨Nat.lt_of_lt_of_le (e4 hp j hj).1 hf.size, (e4 hp j hj).2⟩⟩
theorem zdx {W : World} {P : Nat → Prop} {b g N c : Nat} {rows : List (List F)} (h : jY W P b g N c rows) (i : Nat) (hi : i < N) : ∃ A cc, W.cell? ⟨g, i, none⟩ = some (.slice A (rows.getD i []).length cc) ∧ (rows.getD i []).length ≤ cc ∧ Kd.C fk W A (rows.getD i []).length (rows.getD i []) ∧ W.frozen? ⟨g, i, none⟩ = false := by
 obtain ⟨hs, h1, h2, h3⟩ := h
 obtain ⟨e1, e2, e3, e4⟩ := h3 i hi
 obtain ⟨g', hg', _, _, _, hc, hf, _⟩ := jJ (d0 := hd0) h1 i hi
 injection hg' with hg'
 injection hg' with hg'
 subst hg'
 refine ⟨_, (hs.getD i hd0).2.2, ?_, by omega, e3, hf⟩
 rw [hc, ← e1]; rfl
theorem zgQ {W : World} {P : Nat → Prop} {b g N c : Nat} {rows : List (List F)} (h : jY W P b g N c rows) (i : Nat) (hi : i < N) {A : Option Addr} {n cc : Nat} {row : List F} (hn : row.length = n) (hc : n ≤ cc) (hC : Kd.C fk W A n row) (hA : 0 < n → ∀ j, OB A j → j < W.heap.size ∧ j ≠ g ∧ ¬ P j) :
 jY (W.setCell ⟨g, i, none⟩ (.slice A n cc)) P b g N c (rows.set i row) := by
 subst hn
 obtain ⟨hs, h1, h2, h3⟩ := h
 obtain ⟨g', hg', _, _, _, _, _, hset⟩ := jJ (d0 := hd0) h1 i hi
 injection hg' with hg'
 injection hg' with hg'
 subst hg'
 have hl : hs.length = N := (Kd.Q_reads' (Kd.Q_of_R h1)).1.symm
 have hf : Fr (fun k => k = g) W (W.setCell ⟨g, i, none⟩ (.slice A row.length cc)) := (Fr.refl (fun k => k = g) W).set_ (p := ⟨g, i, none⟩) (.inl rfl) _
 refine ⟨hs.set i (A, row.length, cc), hset (A, row.length, cc), by rw [List.length_set]; exact h2, fun j hj => ?_⟩
 rw [Jd _ _ _ _ _ (by omega), Jd _ _ _ _ _ (by omega)]
 by_cases e : j = i
 ·rw [if_pos e, if_pos e]
  exact ⟨rfl, hc, jc hC hf (fun k hk hp e => (hA hp k hk).2.1 e), fun hp k hk => ⟨Nat.lt_of_lt_of_le (hA hp k hk).1 hf.size, (hA hp k hk).2⟩⟩
 rw [if_neg e, if_neg e]
 obtain ⟨e1, e2, e3, e4⟩ := h3 j hj
 exact ⟨e1, e2, jc e3 hf (fun k hk hp e => (e4 hp k hk).2.1 e), fun hp k hk => ⟨Nat.lt_of_lt_of_le (e4 hp k hk).1 hf.size, (e4 hp k hk).2⟩⟩
set_option maxRecDepth 100000 in
set_option maxHeartbeats 1600000 in
theorem zjb (w : World) (A : Option Addr) (N c : Nat) (rows : List (List F)) (P : Nat → Prop) (hP : PLn w A N rows P) (hN : 0 < N) (hNl : N ≤ 1000000) :
 Calls Try.prog 129 #[.slice A N c] w fun e w' => ∃ g cg, e = .returned (.slice (some ⟨g, 0, none⟩) N cg) ∧ jY w' P w.heap.size g N cg rows ∧ w.heap.size ≤ g ∧ Below w.heap.size w w' := by
 obtain ⟨hs, h1, h2, _, h3⟩ := hP
 have hl : hs.length = N := Kd.C_len h1
 obtain ⟨ad, rfl, _⟩ := zde h1 0 hN
 have hb0 : Below w.heap.size w (w.alloc (.cells #[] 36)) := zc (Below.refl _ _) _
 have hR0 : Kd.R kh 36 (w.alloc (.cells #[] 36)) w.heap.size (fun k => w.heap.size ≤ k) (.slice (some ⟨w.heap.size, 0, none⟩) 0 0) ([] : List Hd) := by
  have h := yA (enc := ja) w w.heap.size 36 [] (Nat.le_refl _) (by simp)
  exact Kd.R_of_own h (fun j hj => by
                                    have : w.heap.size = j := by simpa [Value.ownBlock] using hj
                                    omega)
 obtain ⟨v', W', hrun, hR, hg, hat⟩ := zR (P := Try.prog) ja hd0 (w.alloc (.cells #[] 36)) w.heap.size 37 37 36 (.slice none 0 0) 24 Try.underlying37 zaa rfl (ys := hs) (c := c) hR0 (by rw [hl]; exact Kd.C_below h1 hb0) (by simp only [List.length_nil]; omega) (by omega) hb0.size (fun k hk => Nat.le_trans hb0.size hk)
 obtain ⟨B, d, rfl⟩ := Kd.R_slice hR
 rw [List.nil_append, hl] at hrun hR
 obtain ⟨g, rfl, _, hgl, hgo, _, _, _⟩ := jJ (d0 := hd0) hR 0 hN
 have hf : Fr (fun _ => False) w W' := (Fr.of_below hb0 (fun _ => False)).trans (S' := fun k => w.heap.size ≤ k) (Fr.of_grown hg (fun k hk => by
  rw [show (Value.slice (some ⟨w.heap.size, 0, none⟩) 0 0).ownBlock = some w.heap.size by simp [Value.ownBlock]] at hk
  injection hk with hk
  exact .inl (by omega))) (fun k hk => .inr hk)
 have hbw : Below w.heap.size w W' := hf.f_below
 have HX : za (jY W' P w.heap.size g N d rows ∧ Below w.heap.size w W') := ⟨⟨hs, Kd.R_mono (R_tight hR) (fun k hk => by obtain ⟨a, ha, rfl⟩ := hk; injection ha with ha; rw [← ha]), h2, fun i hi => by
  obtain ⟨e1, e2, e3, e4⟩ := h3 i hi
  exact ⟨e1, e2, jc e3 hf (fun _ _ _ h => h), fun hp j hj => by have := (e4 hp j hj).1; exact ⟨Nat.lt_of_lt_of_le this hbw.size, by omega, (e4 hp j hj).2⟩⟩⟩, hbw⟩
 have HR := za.mk hrun
 have HG := za.mk hgo
 clear hR0 hR hg hat hrun hf hbw h1 h2 h3 hl hb0
 have kq := fun W : World => Lib.run_eql_slice_nil (P := Try.prog) W 37 36 (some ad) N c 0 0 Try.underlying37
 go_enter Try.func129, Try.ntmps129
 go_wp2_with (at_builtin; refine zm rfl _ _ _ _ rfl rfl rfl HR.out ?_)
 go_ret
 exact ⟨g, d, rfl, HX.out.1, HG.out, HX.out.2⟩
def AL (W : World) (A : Option Addr) (n : Nat) (dss : List (List (List F))) : Prop :=
 ∃ hs : List Hd, Kd.C kh W A n hs ∧ dss.length = n ∧ ∀ i, i < n → (hs.getD i hd0).2.1 = (dss.getD i []).length ∧ (hs.getD i hd0).2.1 ≤ (hs.getD i hd0).2.2 ∧ PL W (hs.getD i hd0).1 (dss.getD i []).length (dss.getD i [])
theorem zpy {w : World} {A : Option Addr} {n : Nat} {dss : List (List (List F))} (h : AL w A n dss) (k : Nat) (hk : k < n) : ∃ ad B c, A = some ad ∧ w.cell? (ad.add k) = some (.slice B (dss.getD k []).length c) ∧ (dss.getD k []).length ≤ c ∧ PL w B (dss.getD k []).length (dss.getD k []) := by
 obtain ⟨hs, h1, h2, h3⟩ := h
 obtain ⟨ad, e, hc⟩ := zde h1 k hk
 obtain ⟨e1, e2, e3⟩ := h3 k hk
 refine ⟨ad, (hs.getD k hd0).1, (hs.getD k hd0).2.2, e, ?_, by omega, e3⟩
 rw [hc, ← e1]
 rfl
set_option maxRecDepth 100000 in
set_option maxHeartbeats 3200000 in
theorem zmR (w : World) (A : Option Addr) (N c cols : Nat) (q : Ev) (X : Option Addr) (m d : Nat) (ds : List Ev) (P : Nat → Prop) (hP : PLn w A N (zE N cols q) P) (hPl : ∀ k, P k → k < w.heap.size) (hA : AL w X m (ds.map (zE N cols))) (hN : 0 < N) (hNl : N ≤ 1000000) (hc : cols ≤ 1000000) (hm : m ≤ 1000000) :
 Calls Try.prog 107 #[.slice A N c, .slice X m d] w fun e w' => ∃ g cg, e = .returned (.slice (some ⟨g, 0, none⟩) N cg) ∧ PLn w' (some ⟨g, 0, none⟩) N (zE N cols (yg q ds)) P ∧ Below w.heap.size w w' ∧ N ≤ cg := by
 have hdl : ds.length = m := by have := hA; obtain ⟨_, _, h, _⟩ := this; rwa [List.length_map] at h
 have HCL := za.mk (zjb w A N c _ P hP hN hNl)
 have HA := za.mk hA
 have HDL := za.mk hdl
 have HPL0 := za.mk hPl
 clear hP hA hdl hPl
 go_enter Try.func107, Try.ntmps107
 go_wp2_with (go_at_call 129; with_reducible refine HCL.out.mono ?_; rintro e w1 ⟨g, cg, rfl, hS, hg, hb1⟩; have HS := za.mk hS; have HB1 := za.mk hb1; have HG := za.mk hg; clear hS hb1 hg)
 have HS0 : za (jY w1 P w.heap.size g N cg (zE N cols (yg q (ds.take 0)))) := ⟨HS.out⟩
 clear HS HCL
 go_loopw [13] (fun v13 wr => ∃ (k : Nat), k ≤ m ∧ v13 = .int .i64 k ∧ za (jY wr P w.heap.size g N cg (zE N cols (yg q (ds.take k)))) ∧ za (Below w.heap.size w wr)) (fun v13 _ => m - (intOf v13).toNat)
 case atStart => exact ⟨0, by omega, rfl, HS0, HB1⟩
 clear HS0 HB1
 obtain ⟨k, hk, rfl, HSK, HBK⟩ := hrel
 by_cases hlt : k < m
 ·obtain ⟨ad, B, cb, rfl, hcell0, hle, hPL⟩ := zpy HA.out k hlt
  have hkl : k < ds.length := by rw [HDL.out]; exact hlt
  have hdk : (ds.map (zE N cols)).getD k [] = zE N cols (ds.getD k fun _ _ => 0) := by
   rw [List.getD_eq_getElem?_getD, List.getD_eq_getElem?_getD, List.getElem?_map, List.getElem?_eq_getElem hkl]; rfl
  rw [hdk] at hcell0 hle hPL
  rw [Zf] at hcell0 hle hPL
  have hcell := (Fr.of_below HBK.out (fun _ => False)).cell hcell0 (fun h => h)
  have hts : ds.take (k + 1) = ds.take k ++ [ds.getD k fun _ _ => 0] := zK (fun _ _ => 0) ds k hkl
  obtain ⟨dk, hdkk⟩ : ∃ dk, dk = ds.getD k fun _ _ => 0 := ⟨_, rfl⟩
  rw [← hdkk] at hPL hts
  have HTS := za.mk hts
  have HPL := za.mk hPL
  have hkI : (k : Int) < (m : Int) := by omega
  obtain ⟨wk, hwk⟩ : ∃ wk, wk = wr := ⟨_, rfl⟩
  have HS1 : za (jY wr P w.heap.size g N cg (jn N cols q (ds.take k) dk 0)) := ⟨by rw [zbI]; exact HSK.out⟩
  have HBG : za (g < wr.heap.size) := ⟨by
   obtain ⟨hs, h1, _⟩ := HSK.out
   exact Kd.R_lt h1 g (by simp [Value.ownBlock])⟩
  clear hkl hdk hdkk hts hPL HSK hcell0
  rw [← hwk] at HBG
  have HWK : za (Below w.heap.size w wk) := ⟨by rw [hwk]; exact HBK.out⟩
  have HF0 : za (Fr (fun j => j = g) wk wr) := ⟨by rw [hwk]; exact Fr.refl _ _⟩
  clear hwk HBK
  go_wp2
  go_loopw [19] (fun v19 wq => ∃ (h : Nat), h ≤ N ∧ v19 = .int .i64 h ∧ za (jY wq P w.heap.size g N cg (jn N cols q (ds.take k) dk h)) ∧ za (Fr (fun j => j = g) wk wq)) (fun v19 _ => N - (intOf v19).toNat)
  case atStart => exact ⟨0, by omega, rfl, HS1, HF0⟩
  clear HS1 HF0
  obtain ⟨h, hh, rfl, HSH, HFH⟩ := hrel
  by_cases hhn : h < N
  ·have hbw : Below w.heap.size w wr := HWK.out.trans (HFH.out.below HWK.out.size (fun j hj => by have := HG.out; omega))
   obtain ⟨A1, c1, hx1, hl1, hC1, hz1⟩ := zdx HSH.out h hhn
   rw [zeK _ _ _ _ _ _ hhn, zz] at hx1 hl1 hC1
   obtain ⟨adB, B2, c2, rfl, hx2, hl2, hC2⟩ := jV (zG HPL.out hbw) h hhn
   rw [yE _ _ _ _ hhn, zz] at hx2 hl2 hC2
   have HSUM : za (∀ W, Fr (fun _ => False) wr W → Calls Try.prog 63 #[.slice A1 cols c1, .slice B2 cols c2] W fun e w' => ∃ D cd, e = .returned (.tuple #[.slice D cols cd, .bool true]) ∧ Kd.R fk 5 w' W.heap.size (fun _ => True) (.slice D cols cd) (zah (yo cols (yg q (ds.take k)) h) (yo cols dk h)) ∧ Below W.heap.size W w') := ⟨fun W hW => zgw W A1 B2 cols c1 c2 _ _ (jc hC1 hW (fun _ _ _ h => h)) (jc hC2 hW (fun _ _ _ h => h)) (by omega)⟩
   have HST : za (∀ W D cd, Fr (fun _ => False) wr W → Kd.R fk 5 W wr.heap.size (fun _ => True) (.slice D cols cd) (zah (yo cols (yg q (ds.take k)) h) (yo cols dk h)) → jY (W.setCell ⟨g, h, none⟩ (.slice D cols cd)) P w.heap.size g N cg (jn N cols q (ds.take k) dk (h + 1)) ∧ Fr (fun j => j = g) wk (W.setCell ⟨g, h, none⟩ (.slice D cols cd))) := ⟨fun W D cd hW hR => by
    have h5 := Kd.R_reads' hR
    rw [ZI, zz] at h5
    have hgl : g < wr.heap.size := Nat.lt_of_lt_of_le HBG.out HFH.out.size
    have h6 := zgQ (zdy HSH.out hW) h hhn (n := cols) (by rw [ZI, zz]) h5.2.1 h5.2.2 (fun _ j hj => by
     have h7 := jK (Kd.Q_of_R hR) j hj
     exact ⟨h7.2.1, by omega, fun h8 => by have := HPL0.out j h8; have := HWK.out.size; have := HFH.out.size; omega⟩)
    rw [zdc _ _ _ _ _ _ hhn] at h6
    exact ⟨h6, (HFH.out.trans' (hW.mono (fun _ h => h.elim))).set_ (.inl rfl) _⟩⟩
   have hne : (adB.add h).block ≠ g := by
    obtain ⟨ad0, _, _, e0, hx0, _, _⟩ := jV HPL.out h hhn
    injection e0 with e0
    subst e0
    have := World.block_lt_of_cell? w _ hx0
    have := HG.out
    omega
   have HGS : za (∀ W, Fr (fun j => j = g) wr W → W.cell? (adB.add h) = some (.slice B2 cols c2)) := ⟨fun W hW => hW.cell hx2 hne⟩
   have HFZ : za (∀ W, Fr (fun _ => False) wr W → W.cell? ⟨g, h, none⟩ = some (.slice A1 cols c1) ∧ W.frozen? ⟨g, h, none⟩ = false) := ⟨fun W hW => ⟨hW.cell hx1 (fun h => h), by
    obtain ⟨_, _, _, _, _, hz⟩ := zdx (zdy HSH.out hW) h hhn
    exact hz⟩⟩
   have hhI : (h : Int) < (N : Int) := by omega
   clear hl1 hC1 hz1 hl2 hC2 hbw hne
   go_wp2
   go_region_with (first | (go_at_call 63; with_reducible refine (HSUM.out _ ((Fr.refl _ wr).drew)).mono ?_; rintro e W2 ⟨D, cd, rfl, hR, hb2⟩; have HF2 := za.mk ((Fr.refl (fun _ => False) wr).drew.trans' (Fr.of_below hb2 (fun _ => False))); have HR2 := za.mk (HST.out W2 D cd HF2.out (Kd.R_lower hR (Nat.le_refl _))); obtain ⟨hx3, hz3⟩ := HFZ.out W2 HF2.out; clear hR hb2))
   all_goals
    have HQ1 : za (jY (W2.setCell ⟨g, h, none⟩ (.slice D cols cd)) P w.heap.size g N cg (jn N cols q (ds.take k) dk (h + 1))) := ⟨HR2.out.1⟩
    have HQ2 : za (Fr (fun j => j = g) wk (W2.setCell ⟨g, h, none⟩ (.slice D cols cd))) := ⟨HR2.out.2⟩
    go_wp2
    go_roundw
    case rel => exact ⟨h + 1, by omega, by go_num, HQ1, HQ2⟩
    simp [intOf]; omega
  obtain rfl : h = N := by omega
  have HR1 : za (jY wr P w.heap.size g h cg (zE h cols (yg q (ds.take (k + 1))))) := ⟨by rw [HTS.out, ← zep]; exact HSH.out⟩
  have HR2 : za (Below w.heap.size w wr) := ⟨HWK.out.trans (HFH.out.below HWK.out.size (fun j hj => by have := HG.out; omega))⟩
  go_wp2
  go_roundw
  case rel => exact ⟨k + 1, by omega, by go_num, HR1, HR2⟩
  simp [intOf]; omega
 obtain rfl : k = m := by omega
 go_wp2
 go_ret
 have h := HSK.out
 rw [List.take_of_length_le (by rw [HDL.out]; exact Nat.le_refl _)] at h
 exact ⟨g, cg, rfl, zgG h (fun hp => by have := HPL0.out g hp; have := HG.out; omega), HBK.out, by obtain ⟨hs, h1, _⟩ := h; exact (Kd.R_reads' h1).2.1⟩
theorem zec {W : World} {b : Nat} {ok : Nat → Prop} {g N : Nat} {rows : List (List F)} (h : yP W b ok g N rows) (hg : b ≤ g) : PLn W (some ⟨g, 0, none⟩) N rows (fun k => k < b) := by
 obtain ⟨hs, h1, h2, h3, h4⟩ := h
 refine ⟨hs, R_C h1, h2, fun hn j hj => ?_, fun i hi => ?_⟩
 ·obtain ⟨a, ha, rfl⟩ := hj
  injection ha with ha
  subst ha
  exact ⟨Kd.R_lt h1 g (by simp [Value.ownBlock]), by show ¬ g < b; omega⟩
 obtain ⟨e, h5⟩ := h3 i hi
 have h6 := Kd.R_reads' (A := (hs.getD i hd0).1) (n := (hs.getD i hd0).2.1) (c := (hs.getD i hd0).2.2) h5
 refine ⟨e, h6.2.1, h6.2.2, fun hp j hj => ?_⟩
 have h7 := Kd.R_base h5 j (zV hj)
 exact ⟨Kd.R_lt h5 j (zV hj), by show ¬ j < b; omega⟩
theorem zjF {W : World} {b N : Nat} {A : Option Addr} {len cap : Nat} {qs : List (List F)} (h : SV W b N A len cap true qs) : len = N ∧ cap = N ∧ PLn W A N (yH N qs) (fun k => k < b) := by
 obtain ⟨g, rfl, rfl, rfl, hg, h⟩ := zph h rfl
 exact ⟨rfl, rfl, zec h hg⟩
set_option maxRecDepth 100000 in
set_option maxHeartbeats 3200000 in
theorem zhX (w : World) (g N T K : Nat) (E Rm : Int) (r : Ri) (D S : Option Addr) (nd cd ns cs cols : Nat) (A : Option Addr) (n c : Nat) (rnd : List F) (hF : Fld w g) (hr : Kd.C fk w A n rnd) (hc : n ≤ c) (hN : N ≤ 1000) (hT : T ≤ 1000) (hK : K ≤ 1000) (hTK : 1 ≤ T + K) (hcl : cols ≤ 100000)
 (hk : r.kind = 2 ∨ r.kind = 3 ∨ r.kind = 4) (ht : 0 ≤ r.target ∧ r.target < N) (hn : n = zD T K r.kind * cols) :
 Calls Try.prog 106 #[.pointer (some ⟨g, 0, none⟩), zv N T K E Rm, Je r.kind r.target D S nd cd ns cs, .int .i64 cols, .slice A n c] w fun e w' => ∃ Y, e = .returned (.slice Y N N) ∧ PLn w' Y N (zE N cols (zdg N T K (zM r) rnd)) (fun k => k < w.heap.size) ∧ Fr (fun _ => False) w w' := by
 obtain ⟨kind, target, ds, sn⟩ := r
 simp only at hk ht hn ⊢
 obtain ⟨tg, rfl⟩ : ∃ tg : Nat, target = tg := ⟨target.toNat, by omega⟩
 have htg : tg < N := by omega
 obtain ⟨w1, hw1, hz1, a0, a1, hb1⟩ := zey w (Obj.cells #[.int .i64 N, .int .i64 T, .int .i64 K, .int .i64 E, .int .i64 Rm] 48) (Obj.cells #[.int .i64 kind, .int .i64 tg, .slice D nd cd, .slice S ns cs] 90)
 have hF1 := hF.fr (Fr.of_below hb1 (fun _ => False)) (fun h => h)
 have hr1 := Kd.C_below hr hb1
 have HZ : za (w.heap.size ≤ w1.heap.size) := ⟨hb1.size⟩
 have HFR : za (∀ W, Fr (fun _ => False) w1 W → Fr (fun _ => False) w W) := ⟨fun W hW => (Fr.of_below hb1 (fun _ => False)).trans' hW⟩
 have hu48 := Try.underlying48
 have hu90 := Try.underlying90
 have hrow : ∀ fac, zE N cols (Jb (ev fac) (zD T K kind) ptF rnd) = yH N (yj cols (zD T K kind) fac rnd) := fun fac => (zdQ N cols _ fac rnd).symm
 have hdr : zdg N T K (zM ⟨kind, tg, ds, sn⟩) rnd = Jb (ev (yk N K kind (ptF tg))) (zD T K kind) ptF rnd := by
  unfold zdg Jm yO zM
  simp only [Int.toNat_natCast]
 rw [hdr, hrow]
 rcases hk with rfl | rfl | rfl
 ·have hfac : yk N K 2 (ptF tg) = zw (zN N K) := by unfold yk; rw [if_pos rfl]
  rw [hfac]
  have HC := za.mk (zkz w1 g N T K E Rm cols A n c rnd hF1 hr1 hc hN hT hK hTK hcl true (by rw [eq_comm, decide_eq_true_iff]; exact hn))
  obtain ⟨qs, hqs⟩ : ∃ qs, qs = yj cols (zD T K 2) (zw (zN N K)) rnd := ⟨_, rfl⟩
  rw [← hqs] at HC ⊢
  rw [hw1] at HC HFR HZ
  clear hn hqs hrow hdr hfac hF1 hr1 hF hr hw1 hz1 a0 a1 hb1
  unfold zv at *
  unfold Je
  go_enter Try.func106, Try.ntmps106
  go_wp2_with (go_at_call 58; with_reducible refine HC.out.mono ?_; rintro e W1 ⟨Y, l, cp, rfl, hsv, hf⟩; have HSV := za.mk hsv; have HF := za.mk hf; clear hsv hf)
  go_ret
  obtain ⟨rfl, rfl, hp⟩ := zjF HSV.out
  exact ⟨Y, rfl, yM hp (fun k _ hk => by have := HZ.out; omega), HFR.out _ HF.out⟩
 ·have hfac : yk N K 3 (ptF tg) = lin (ptF tg) := by unfold yk; rw [if_neg (by decide), if_pos rfl]
  rw [hfac]
  have HC := za.mk (zkf w1 g N T K E Rm tg cols A n c rnd hF1 hr1 hc htg hN hT hK hTK hcl true (by rw [eq_comm, decide_eq_true_iff]; exact hn))
  obtain ⟨qs, hqs⟩ : ∃ qs, qs = yj cols (zD T K 3) (lin (ptF tg)) rnd := ⟨_, rfl⟩
  rw [← hqs] at HC ⊢
  rw [hw1] at HC HFR HZ
  clear hn hqs hrow hdr hfac hF1 hr1 hF hr hw1 hz1 a0 a1 hb1
  unfold zv at *
  unfold Je
  go_enter Try.func106, Try.ntmps106
  go_wp2_with (go_at_call 59; with_reducible refine HC.out.mono ?_; rintro e W1 ⟨Y, l, cp, rfl, hsv, hf⟩; have HSV := za.mk hsv; have HF := za.mk hf; clear hsv hf)
  go_ret
  obtain ⟨rfl, rfl, hp⟩ := zjF HSV.out
  exact ⟨Y, rfl, yM hp (fun k _ hk => by have := HZ.out; omega), HFR.out _ HF.out⟩
 have hfac : yk N K 4 (ptF tg) = [1] := by unfold yk; rw [if_neg (by decide), if_neg (by decide)]
 rw [hfac]
 have HC := za.mk (zkx w1 g N T K E Rm cols A n c rnd hF1 hr1 hc hN hT hK hTK hcl true (by rw [eq_comm, decide_eq_true_iff]; exact hn))
 obtain ⟨qs, hqs⟩ : ∃ qs, qs = yj cols (zD T K 4) [1] rnd := ⟨_, rfl⟩
 rw [← hqs] at HC ⊢
 rw [hw1] at HC HFR HZ
 clear hn hqs hrow hdr hfac hF1 hr1 hF hr hw1 hz1 a0 a1 hb1
 unfold zv at *
 unfold Je
 go_enter Try.func106, Try.ntmps106
 go_wp2_with (go_at_call 60; with_reducible refine HC.out.mono ?_; rintro e W1 ⟨Y, l, cp, rfl, hsv, hf⟩; have HSV := za.mk hsv; have HF := za.mk hf; clear hsv hf)
 go_ret
 obtain ⟨rfl, rfl, hp⟩ := zjF HSV.out
 exact ⟨Y, rfl, yM hp (fun k _ hk => by have := HZ.out; omega), HFR.out _ HF.out⟩
end Go.Proofs.Ytpeiejkcoadhfaa
namespace Go.Proofs.Ytpeiejkcoadhfaa
open Go.RowKit Go.Shelf Go.Proofs.YtpeiejkcoadhfaaW.PrintWords Go.Proofs.YtpeiejkcoadhfaaW.PrintMore
open Go.BigFrame
theorem JN {w : World} {A : Option Addr} {P : Nat → Prop} {n : Nat} {qs : List (List F)} (h : PLn w A n qs P) (k : Nat) (hk : k < n) : ∃ ad B c, A = some ad ∧ w.cell? (ad.add k) = some (.slice B (qs.getD k []).length c) ∧ (qs.getD k []).length ≤ c ∧ Kd.C fk w B (qs.getD k []).length (qs.getD k []) := jV (zfI h) k hk
theorem zcc {w W : World} {O : Option Addr} {no co : Nat} {out : List F} (h : Kd.R fk 5 W w.heap.size (fun _ => True) (.slice O no co) out) (hb : Below w.heap.size w W) {B : Option Addr} {n c : Nat} {row : List F} (hr : Kd.C fk W B n row) (hn : no + n ≤ 140737488355328) :
 ∃ O' co' W', (Builtin.append_ #[36, 36] 36 #[.slice O no co, .slice B n c]).run Try.prog W = .ok (.slice O' (no + n) co') W' ∧ Kd.R fk 5 W' w.heap.size (fun _ => True) (.slice O' (no + n) co') (out ++ row) ∧ Below w.heap.size w W' ∧ Fr (fun k => OB O k) W W' ∧ ∀ k, OB O' k → OB O k ∨ W.heap.size ≤ k := by
 have hol : no = out.length := (Kd.Q_reads' (Kd.Q_of_R h)).1
 obtain rfl : row.length = n := Kd.C_len hr
 subst hol
 obtain ⟨v', W', hrun, hR, hg, hat⟩ := zR (P := Try.prog) zZ (0 : F) W w.heap.size 36 36 5 (.int .u8 0) 1 Try.underlying36 yJ rfl (c := c) h hr (by omega) (by omega) hb.size (fun _ _ => trivial)
 obtain ⟨O', co', rfl⟩ := Kd.R_slice hR
 rw [List.length_append] at hrun hR
 refine ⟨O', co', W', hrun, hR, hb.grown hg hb.size (fun i hi => Kd.R_base h i hi), Fr.of_grown hg (fun k hk => .inl (JP hk)), fun k hk => ?_⟩
 rcases hat with e | ⟨b, e, hb'⟩
 ·exact .inl (JP (by rw [← e]; exact zV hk))
 rw [zV hk] at e
 injection e with e
 exact .inr (by omega)
def JL (W : World) (b : Nat) (A : Option Addr) (n c : Nat) (dss : List (List (List F))) (P : Nat → Prop) : Prop :=
 ∃ hs : List Hd, Kd.R kh 37 W b (fun _ => True) (.slice A n c) hs ∧ dss.length = n ∧ ∀ i, i < n → (hs.getD i hd0).2.1 = (dss.getD i []).length ∧ (hs.getD i hd0).2.1 ≤ (hs.getD i hd0).2.2 ∧ PLn W (hs.getD i hd0).1 (dss.getD i []).length (dss.getD i []) P
theorem zjs (W : World) (b : Nat) (P : Nat → Prop) : JL W b none 0 0 [] P := ⟨[], Kd.R_nil _ _ _ _ _, rfl, fun i hi => by omega⟩
theorem zpi {W : World} {b : Nat} {A : Option Addr} {n c : Nat} {dss : List (List (List F))} {P : Nat → Prop} (h : JL W b A n c dss P) : AL W A n dss := by
 obtain ⟨hs, h1, h2, h3⟩ := h
 exact ⟨hs, R_C h1, h2, fun i hi => ⟨(h3 i hi).1, (h3 i hi).2.1, zfI (h3 i hi).2.2⟩⟩
theorem zls {w : World} {b : Nat} {A : Option Addr} {n c : Nat} {dss : List (List (List F))} {P : Nat → Prop} (h : JL w b A n c dss P) (k : Nat) (hk : k < n) : ∃ ad B cb, A = some ad ∧ w.cell? (ad.add k) = some (.slice B (dss.getD k []).length cb) ∧ (dss.getD k []).length ≤ cb ∧ PLn w B (dss.getD k []).length (dss.getD k []) P := by
 obtain ⟨hs, h1, h2, h3⟩ := h
 obtain ⟨ad, e, hc⟩ := zde (R_C h1) k hk
 obtain ⟨e1, e2, e3⟩ := h3 k hk
 refine ⟨ad, (hs.getD k hd0).1, (hs.getD k hd0).2.2, e, ?_, by omega, e3⟩
 rw [hc, ← e1]
 rfl
theorem zfW {W W1 : World} {b : Nat} {A : Option Addr} {n c : Nat} {dss : List (List (List F))} {S P P' : Nat → Prop} (h : JL W b A n c dss P) (hf : Fr S W W1) (hSP : ∀ k, S k → P k) (ho : ∀ k, P' k → P k ∨ W.heap.size ≤ k) (hty : ∀ k, k < W.heap.size → S k → ∀ cells, W.heap[k]? ≠ some (.cells cells 37 (0, 0))) : JL W1 b A n c dss P' := by
 obtain ⟨hs, h1, h2, h3⟩ := h
 refine ⟨hs, zdf h1 hf (fun k hk hS => ?_), h2, fun i hi => ⟨(h3 i hi).1, (h3 i hi).2.1, ZK (h3 i hi).2.2 (hf.mono hSP) ho⟩⟩
 obtain ⟨c1, hc1⟩ := Kd.R_typed h1 k (zV hk)
 exact hty k (yB hc1) hS c1 hc1
theorem JB {W W1 : World} {b : Nat} {A : Option Addr} {n c : Nat} {dss : List (List (List F))} {P : Nat → Prop} (h : JL W b A n c dss P) (hf : Fr (fun _ => False) W W1) : JL W1 b A n c dss P := by
 obtain ⟨hs, h1, h2, h3⟩ := h
 exact ⟨hs, jo h1 hf (fun _ _ _ _ h => h), h2, fun i hi => ⟨(h3 i hi).1, (h3 i hi).2.1, yy (h3 i hi).2.2 hf⟩⟩
theorem zhZ : (Try.prog.info? 37).map (fun i => (i.zero, i.size, i.bytes)) = some (some (.slice none 0 0), 1, 24) := by kernel_rfl
def JQ (rows : List (List F)) (r : Ri) (i : Nat) : List F := (List.range i).flatMap fun h : Nat => if r.kind = 4 ∨ (r.kind = 3 ∧ r.target ∈ r.sn ∧ (h : Int) ≠ r.target) then rows.getD h [] else []
theorem zaB (rows : List (List F)) (r : Ri) (i : Nat) : JQ rows r (i + 1) = JQ rows r i ++ (if r.kind = 4 ∨ (r.kind = 3 ∧ r.target ∈ r.sn ∧ (i : Int) ≠ r.target) then rows.getD i [] else []) := by
 unfold JQ
 rw [List.range_succ, List.flatMap_append]
 simp
theorem zeD (rows : List (List F)) (r : Ri) (m : Nat) (hm : ∀ i, i < rows.length → (rows.getD i []).length ≤ m) : ∀ i, i ≤ rows.length → (JQ rows r i).length ≤ i * m
 | 0, _ => by simp [JQ]
 | i + 1, h => by
   rw [zaB, List.length_append]
   have h1 := zeD rows r m hm i (by omega)
   have h2 := hm i h
   have h3 : (i + 1) * m = i * m + m := by rw [Nat.add_mul, Nat.one_mul]
   split
   ·omega
   simp; omega
def zbm (N : Nat) (rows : List (List F)) (r : Ri) : List F := JQ rows r N
theorem zlk (w : World) (r : Ri) (D S : Option Addr) (nd cd ns cs : Nat) (hD : Kd.C kz w D nd r.ds) (hS : Kd.C kz w S ns r.sn) (hdc : nd ≤ cd) (hsc : ns ≤ cs) (hns : ns ≤ 9223372036854775807) (A : Option Addr) (N c cols : Nat) (rows : List (List F)) (hP : PL w A N rows) (hc : N ≤ c) (hN : N ≤ 1000) (hrl : ∀ i, i < N → (rows.getD i []).length ≤ cols) (hcl : cols ≤ 1000000) :
 Calls Try.prog 108 #[.agg #[.int .i64 r.kind, .int .i64 r.target, .slice D nd cd, .slice S ns cs], .slice A N c] w fun e w' => ∃ B d, e = .returned (.slice B (zbm N rows r).length d) ∧ Kd.C fk w' B (zbm N rows r).length (zbm N rows r) ∧ (zbm N rows r).length ≤ d ∧ Below w.heap.size w w' := by
 have hl : rows.length = N := by obtain ⟨_, _, h, _⟩ := hP; exact h
 obtain ⟨kind, target, ds, sn⟩ := r
 simp only at hD hS ⊢
 obtain ⟨W0, hW0, hz0, a0, hb0⟩ := zU w (.cells #[.int .i64 kind, .int .i64 target, .slice D nd cd, .slice S ns cs] 90)
 have HW0 := za.mk hW0
 obtain ⟨s, hs⟩ : ∃ s, s = w.heap.size := ⟨_, rfl⟩
 rw [← hs] at a0
 have HS := za.mk hs
 obtain ⟨tT, htT⟩ : ∃ tT, tT = JQ rows ⟨kind, target, ds, sn⟩ := ⟨_, rfl⟩
 have HT0 : tT 0 = [] := by rw [htT]; rfl
 have HTS : za (∀ k, tT (k + 1) = tT k ++ (if kind = 4 ∨ (kind = 3 ∧ target ∈ sn ∧ (k : Int) ≠ target) then rows.getD k [] else [])) := ⟨fun k => by rw [htT, zaB]⟩
 have HSK : za (∀ W, Below W0.heap.size W0 W → W.cell? ⟨s, 0, none⟩ = some (.int .i64 kind) ∧ W.cell? ⟨s, 1, none⟩ = some (.int .i64 target) ∧ W.cell? ⟨s, 3, none⟩ = some (.slice S ns cs)) := ⟨fun W hW => by
  have h := zl a0 hW
  exact ⟨zh h rfl, zh h rfl, zh h rfl⟩⟩
 have HIN : za (∀ W, Below W0.heap.size W0 W → Calls Try.prog 114 #[.slice S ns cs, .int .i64 target] W fun e w' => e = .returned (.bool (decide (target ∈ sn))) ∧ zq W w') := ⟨fun W h => jC W S ns cs sn target (Kd.C_below hS (hb0.trans (h.mono hb0.size))) hns⟩
 have HBW : za (∀ W, Below W0.heap.size W0 W → Below w.heap.size w W) := ⟨fun W h => hb0.trans (h.mono hb0.size)⟩
 have HP : za (∀ W, Below W0.heap.size W0 W → PL W A N rows) := ⟨fun W h => zG hP (hb0.trans (h.mono hb0.size))⟩
 have HP1 : za (Kd.R fk 5 W0 W0.heap.size (fun _ => True) (.slice none 0 0) (tT 0)) := ⟨by rw [HT0]; exact Kd.R_nil _ _ _ _ _⟩
 obtain ⟨res, hres⟩ : ∃ res, res = zbm N rows ⟨kind, target, ds, sn⟩ := ⟨_, rfl⟩
 have HRS : za (tT N = res) := ⟨by rw [hres, htT]; rfl⟩
 rw [← hres]
 have hu90 := Try.underlying90
 clear hD hS hdc hsc hns hP hl hz0 a0 hW0 hb0 hs htT HT0 hres
 go_enter Try.func108, Try.ntmps108
 go_wp2
 rw [← HW0.out, ← HS.out]
 have HRL := za.mk hrl
 clear hrl
 go_loopw [5, 11] (fun v5 v11 wr => ∃ (k no co : Nat) (O : Option Addr), k ≤ N ∧ v11 = .int .i64 k ∧ v5 = .slice O no co ∧ za (Kd.R fk 5 wr W0.heap.size (fun _ => True) (.slice O no co) (tT k)) ∧ za (no ≤ k * cols) ∧ za (Below W0.heap.size W0 wr)) (fun _ v11 _ => N - (intOf v11).toNat)
 case atStart => exact ⟨0, 0, 0, none, by omega, rfl, rfl, HP1, ⟨Nat.zero_le _⟩, ⟨Below.refl _ _⟩⟩
 obtain ⟨k, no, co, O, hk, rfl, rfl, HR, HNB, HB⟩ := hrel
 by_cases hkn : k < N
 ·have htk := HTS.out k
  obtain ⟨ad, B1, c1, rfl, hx1, hl1, hC1⟩ := jV (HP.out wr HB.out) k hkn
  have hrk := HRL.out k hkn
  have hkI : (k : Int) < (N : Int) := by omega
  have hsz : no + (rows.getD k []).length ≤ 140737488355328 := by
   have h5 := HNB.out
   have h6 : k * cols ≤ 1000 * 1000000 := Nat.mul_le_mul (by omega) hcl
   omega
  have hnx : no + (rows.getD k []).length ≤ (k + 1) * cols := by
   have h5 := HNB.out
   rw [Nat.add_mul, Nat.one_mul]
   omega
  have hnx2 : no ≤ (k + 1) * cols := by omega
  obtain ⟨row, hrow⟩ : ∃ row, row = rows.getD k [] := ⟨_, rfl⟩
  rw [← hrow] at htk hx1 hl1 hC1 hsz hnx
  have HX := za.mk hnx
  have HX2 := za.mk hnx2
  have HPU : za (∀ W, Below wr.heap.size wr W → ∃ O' co' W', (Builtin.append_ #[36, 36] 36 #[.slice O no co, .slice B1 row.length c1]).run Try.prog W = .ok (.slice O' (no + row.length) co') W' ∧ za (Kd.R fk 5 W' W0.heap.size (fun _ => True) (.slice O' (no + row.length) co') (tT k ++ row)) ∧ za (Below W0.heap.size W0 W')) := ⟨fun W hW => by
   obtain ⟨O7, co7, w7, run7, hR7, hb7, _⟩ := zcc (c := c1) (jo HR.out (Fr.of_below hW (fun _ => False)) (fun _ _ _ _ h => h)) (HB.out.trans (hW.mono HB.out.size)) (Kd.C_below hC1 hW) hsz
   exact ⟨O7, co7, w7, run7, ⟨hR7⟩, ⟨hb7⟩⟩⟩
  have HBD : za (∀ d, Below wr.heap.size wr (wr.drewN d)) := ⟨fun d => yu (Below.refl _ _) d⟩
  have HQD : za (∀ d, Kd.R fk 5 (wr.drewN d) W0.heap.size (fun _ => True) (.slice O no co) (tT k) ∧ Below W0.heap.size W0 (wr.drewN d)) := ⟨fun d => ⟨jo HR.out (Fr.of_below (HBD.out d) (fun _ => False)) (fun _ _ _ _ h => h), HB.out.trans ((HBD.out d).mono HB.out.size)⟩⟩
  obtain ⟨p0, p1, p3⟩ := HSK.out wr HB.out
  clear hrk hsz hnx hnx2 hrow hC1
  by_cases hk3 : kind = 3
  ·have hkt3 : (kind == (3 : Int)) = true := by rw [hk3]; rfl
   have hkt4 : (kind == (4 : Int)) = false := by rw [hk3]; rfl
   have hk4 : kind ≠ 4 := by omega
   have HSI := za.mk (HIN.out wr HB.out)
   by_cases hts : target ∈ sn
   ·rw [decide_eq_true hts] at HSI
    by_cases hkg : (k : Int) = target
    ·rw [if_neg (by rintro (h | ⟨_, _, h⟩); exact hk4 h; exact h hkg), List.append_nil] at htk
     have hkn2 : ((k : Int) != target) = false := by simpa using hkg
     have HTK := za.mk htk
     subst hk3
     clear htk hkg hk4
     go_wp2_with (go_at_call 114; with_reducible refine HSI.out.mono ?_; rintro e w6 ⟨rfl, hd6⟩; obtain ⟨d6, rfl⟩ := hd6; have HQ := HQD.out d6)
     clear p0 p1 p3 hx1
     go_roundw
     case rel => exact ⟨k + 1, no, co, O, by omega, by go_num, rfl, ⟨by rw [HTK.out]; exact HQ.1⟩, HX2, ⟨HQ.2⟩⟩
     simp [intOf]; omega
    rw [if_pos (.inr ⟨hk3, hts, hkg⟩)] at htk
    have hkn2 : ((k : Int) != target) = true := by simpa using hkg
    have HTK := za.mk htk
    subst hk3
    clear htk hkg hk4
    go_wp2_with (first | (go_at_call 114; with_reducible refine HSI.out.mono ?_; rintro e w6 ⟨rfl, hd6⟩; obtain ⟨d6, rfl⟩ := hd6; obtain ⟨O7, co7, w7, run7, S7, B7⟩ := HPU.out _ (HBD.out d6)) | (at_builtin; refine zm rfl _ _ _ _ rfl rfl rfl run7 ?_))
    clear run7 hx1 p0 p1 p3
    go_roundw
    case rel => exact ⟨k + 1, _, co7, O7, by omega, by go_num, rfl, ⟨by rw [HTK.out]; exact S7.out⟩, HX, B7⟩
    simp [intOf]; omega
   rw [if_neg (by rintro (h | ⟨_, h, _⟩); exact hk4 h; exact hts h), List.append_nil] at htk
   rw [decide_eq_false hts] at HSI
   have HTK := za.mk htk
   subst hk3
   clear htk hk4
   go_wp2_with (go_at_call 114; with_reducible refine HSI.out.mono ?_; rintro e w6 ⟨rfl, hd6⟩; obtain ⟨d6, rfl⟩ := hd6; have HQ := HQD.out d6)
   clear p0 p1 p3 hx1
   go_roundw
   case rel => exact ⟨k + 1, no, co, O, by omega, by go_num, rfl, ⟨by rw [HTK.out]; exact HQ.1⟩, HX2, ⟨HQ.2⟩⟩
   simp [intOf]; omega
  have hkt3 : (kind == (3 : Int)) = false := by simpa using hk3
  by_cases hk4 : kind = 4
  ·rw [if_pos (.inl hk4)] at htk
   have hkt4 : (kind == (4 : Int)) = true := by rw [hk4]; rfl
   obtain ⟨O7, co7, w7, run7, S7, B7⟩ := HPU.out _ (Below.refl _ wr)
   have HTK := za.mk htk
   subst hk4
   clear htk hk3
   go_wp2_with (at_builtin; refine zm rfl _ _ _ _ rfl rfl rfl run7 ?_)
   clear run7 hx1 p0 p1 p3
   go_roundw
   case rel => exact ⟨k + 1, _, co7, O7, by omega, by go_num, rfl, ⟨by rw [HTK.out]; exact S7.out⟩, HX, B7⟩
   simp [intOf]; omega
  rw [if_neg (by rintro (h | ⟨h, _, _⟩); exact hk4 h; exact hk3 h), List.append_nil] at htk
  have hkt4 : (kind == (4 : Int)) = false := by simpa using hk4
  have HTK := za.mk htk
  clear htk hk3 hk4
  go_wp2
  clear p0 p1 p3 hx1
  go_roundw
  case rel => exact ⟨k + 1, no, co, O, by omega, by go_num, rfl, ⟨by rw [HTK.out]; exact HR.out⟩, HX2, HB⟩
  simp [intOf]; omega
 obtain rfl : k = N := by omega
 have h1 := Kd.R_reads' HR.out
 have h2 := R_C HR.out
 rw [HRS.out] at h1 h2
 have h3 := Kd.C_len h2
 have HE := za.mk (And.intro h1.2.1 (And.intro h2 h3))
 have HBB := za.mk (HBW.out _ HB.out)
 clear h1 h2 h3
 go_wp2
 go_ret
 obtain ⟨h1, h2, h3⟩ := HE.out
 exact ⟨O, co, by rw [h3]; rfl, by rw [h3]; exact h2, by rw [h3]; exact h1, HBB.out⟩
theorem zaT (h : Nat) : ∀ (ds : List Nat) (ts : List (List F)), h ∉ ds → yI h ds ts = []
 | [], _, _ => by unfold yI; rfl
 | d :: ds, [], _ => by unfold yI; rfl
 | d :: ds, t :: ts, hn => by
   unfold yI
   rw [if_neg (fun e => hn (by rw [e]; exact List.mem_cons_self ..)), List.nil_append]
   exact zaT h ds ts (fun hm => hn (List.mem_cons_of_mem _ hm))
theorem zeq (h : Nat) : ∀ (ds : List Nat) (ts : List (List F)) (i : Nat), ds.Nodup → i < ds.length → ds.length ≤ ts.length → ds.getD i 0 = h → yI h ds ts = ts.getD i []
 | [], _, _, _, hi, _, _ => by simp at hi
 | d :: ds, [], _, _, _, hl, _ => by simp at hl
 | d :: ds, t :: ts, 0, hn, _, _, e => by
   rw [List.getD_cons_zero] at e
   unfold yI
   rw [if_pos e, List.getD_cons_zero, zaT h ds ts (by rw [← e]; exact (List.nodup_cons.1 hn).1), List.append_nil]
 | d :: ds, t :: ts, i + 1, hn, hi, hl, e => by
   rw [List.getD_cons_succ] at e
   have hi2 : i < ds.length := by simpa using hi
   have hm : h ∈ ds := by
    rw [← e, List.getD_eq_getElem?_getD, List.getElem?_eq_getElem hi2]
    exact List.getElem_mem hi2
   unfold yI
   rw [if_neg (fun e2 => (List.nodup_cons.1 hn).1 (by rw [e2]; exact hm)), List.nil_append, List.getD_cons_succ]
   exact zeq h ds ts i (List.nodup_cons.1 hn).2 hi2 (by simpa using hl) e
def zkD (W : World) (ts : List (List F)) (nx : Nat) (ds : List Int) (j : Nat) (f : Int → Value) : Prop :=
 ∀ x : Int, ((∀ i, i < j → ds.getD i 0 ≠ x) → f x = zhW) ∧ ∀ i, i < j → ds.getD i 0 = x → ∃ B c, f x = .slice B (ts.getD (nx + i) []).length c ∧ (ts.getD (nx + i) []).length ≤ c ∧ Kd.C fk W B (ts.getD (nx + i) []).length (ts.getD (nx + i) [])
theorem zjZ (W : World) (ts : List (List F)) (nx : Nat) (ds : List Int) : zkD W ts nx ds 0 (fun _ => zhW) := fun x => ⟨fun _ => rfl, fun i hi => by omega⟩
theorem zlI {N : Int} {l : List Int} (h : Ris N l) {i j : Nat} (hi : i < l.length) (hj : j < l.length) (e : l.getD i 0 = l.getD j 0) : i = j := by
 rcases Nat.lt_trichotomy i j with h1 | h1 | h1
 ·have := zfQ h j hj i h1; omega
 ·exact h1
 have := zfQ h i hi j h1; omega
theorem zkJ {W : World} {ts : List (List F)} {nx : Nat} {N : Int} {ds : List Int} {j : Nat} {f : Int → Value} (h : zkD W ts nx ds j f) (hds : Ris N ds) (hj : j < ds.length) {B : Option Addr} {c : Nat} (hc : (ts.getD (nx + j) []).length ≤ c) (hC : Kd.C fk W B (ts.getD (nx + j) []).length (ts.getD (nx + j) [])) :
 zkD W ts nx ds (j + 1) (fun y => if y = ds.getD j 0 then .slice B (ts.getD (nx + j) []).length c else f y) := fun x => by
 refine ⟨fun hx => ?_, fun i hi e => ?_⟩
 ·have h1 : ¬ x = ds.getD j 0 := fun e => hx j (by omega) e.symm
  simp only [if_neg h1]
  exact (h x).1 (fun i hi => hx i (by omega))
 rcases Nat.lt_or_ge i j with h2 | h2
 ·have h1 : ¬ x = ds.getD j 0 := fun e2 => by
   have := zlI hds (by omega) hj (e.trans e2)
   omega
  simp only [if_neg h1]
  exact (h x).2 i h2 e
 obtain rfl : i = j := by omega
 simp only [if_pos e.symm]
 exact ⟨B, c, rfl, hc, hC⟩
theorem zlu {W : World} {ts : List (List F)} {nx : Nat} {N : Nat} {ds : List Int} {f : Int → Value} (h : zkD W ts nx ds ds.length f) (hds : Ris N ds) (hl : ds.length ≤ (ts.drop nx).length) (x : Nat) :
 ∃ B n c, f (x : Int) = .slice B n c ∧ Kd.C fk W B n (yI x (ds.map Int.toNat) (ts.drop nx)) := by
 have hgd : ∀ i, i < ds.length → (ds.map Int.toNat).getD i 0 = (ds.getD i 0).toNat := fun i hi => by
  rw [List.getD_eq_getElem?_getD, List.getD_eq_getElem?_getD, List.getElem?_map, List.getElem?_eq_getElem hi]; rfl
 by_cases hx : (x : Int) ∈ ds
 ·obtain ⟨i, hi, e⟩ := zhK hx
  obtain ⟨B, c, h1, h2, h3⟩ := (h x).2 i hi e
  have hnd : (ds.map Int.toNat).Nodup := by
   unfold List.Nodup
   rw [List.pairwise_map]
   refine List.Pairwise.imp_of_mem ?_ (zaU hds)
   intro a b ha hb hab e
   have := (yp hds ha).1
   have := (yp hds hb).1
   exact hab (by omega)
  have h4 := zeq x (ds.map Int.toNat) (ts.drop nx) i hnd (by rw [List.length_map]; exact hi) (by rw [List.length_map]; exact hl) (by rw [hgd i hi, e]; exact Int.toNat_natCast x)
  have h5 : (ts.drop nx).getD i [] = ts.getD (nx + i) [] := by
   rw [List.getD_eq_getElem?_getD, List.getD_eq_getElem?_getD, List.getElem?_drop]
  rw [h4, h5]
  exact ⟨B, _, c, h1, h3⟩
 have h4 := zaT x (ds.map Int.toNat) (ts.drop nx) (fun hm => by
  obtain ⟨y, hy, e⟩ := List.mem_map.1 hm
  have := (yp hds hy).1
  exact hx (by rw [show (x : Int) = y by omega]; exact hy))
 rw [h4, (h x).1 (fun i hi e => hx (by rw [← e]; exact yL hi))]
 exact ⟨none, 0, 0, rfl, Kd.C_nil _ _⟩
theorem zbK {P : Program} {α : Type} (enc : α → Value) (d0 : α) {h1 : ∀ x, (enc x).oneCell' = true} (W w : World) (t e : TypeId) (z : Value) (bytes : Nat) (ht : P.underlying t = some (.slice e))
 (hinfo : (P.info? e).map (fun i => (i.zero, i.size, i.bytes)) = some (some z, 1, bytes)) (hzs : z.cells.size = 1) {A : Option Addr} {n c : Nat} {xs : List α} (h : Kd.R (Kd.scalar enc h1) e W w.heap.size (fun _ => True) (.slice A n c) xs) (hb : Below w.heap.size w W) (x : α)
 (hn : (xs.length + 1) * bytes ≤ 140737488355328) (hb0 : 0 < bytes) :
 ∃ B d W', (Builtin.append_ #[t, t] t #[.slice A n c, .slice (some ⟨W.heap.size, 0, none⟩) 1 1]).run P (W.alloc (.cells #[enc x] e)) = .ok (.slice B (xs.length + 1) d) W' ∧ Kd.R (Kd.scalar enc h1) e W' w.heap.size (fun _ => True) (.slice B (xs.length + 1) d) (xs ++ [x]) ∧ Below w.heap.size w W' ∧ Fr (fun k => OB A k) W W' ∧ ∀ k, OB B k → OB A k ∨ W.heap.size ≤ k := by
 have hlit : Kd.R (Kd.scalar enc h1) e (W.alloc (.cells #[enc x] e)) W.heap.size (fun _ => True) (.slice (some ⟨W.heap.size, 0, none⟩) 1 1) [x] :=
  Kd.R_of_own (yA W W.heap.size e [x] (Nat.le_refl _) (by simp)) (fun _ _ => trivial)
 have hb1 : Below W.heap.size W (W.alloc (.cells #[enc x] e)) := zc (Below.refl _ _) _
 have h2 := jo h (Fr.of_below hb1 (fun _ => False)) (fun _ _ _ _ h => h)
 have hbb : Below w.heap.size w (W.alloc (.cells #[enc x] e)) := hb.trans (hb1.mono hb.size)
 obtain ⟨v', W', hrun, hR, hg, hat⟩ := zR (P := P) enc d0 (W.alloc (.cells #[enc x] e)) w.heap.size t t e z bytes ht hinfo hzs (ys := [x]) (c := 1) h2 (R_C hlit) hn hb0 hbb.size (fun _ _ => trivial)
 obtain ⟨B, d, rfl⟩ := Kd.R_slice hR
 rw [List.length_append] at hrun hR
 refine ⟨B, d, W', hrun, hR, hbb.grown hg hbb.size (fun i hi => Kd.R_base h2 i hi), (Fr.of_below hb1 _).trans (Fr.of_grown hg (fun k hk => .inl (JP hk))) (fun k hk => .inl hk), fun k hk => ?_⟩
 rcases hat with e | ⟨b, e, hb'⟩
 ·exact .inl (JP (by rw [← e]; exact zV hk))
 rw [zV hk] at e
 injection e with e
 have := hb1.size
 exact .inr (by omega)
theorem zhQ {W : World} {b : Nat} {A : Option Addr} {n c : Nat} {dss : List (List (List F))} {P P' : Nat → Prop} (h : JL W b A n c dss P) (hp : ∀ k, k < W.heap.size → P' k → P k) : JL W b A n c dss P' := by
 obtain ⟨hs, h1, h2, h3⟩ := h
 exact ⟨hs, h1, h2, fun i hi => ⟨(h3 i hi).1, (h3 i hi).2.1, yM (h3 i hi).2.2 hp⟩⟩
theorem zeZ {W : World} {b b' : Nat} {A : Option Addr} {n c : Nat} {dss : List (List (List F))} {P : Nat → Prop} (h : JL W b A n c dss P) (hb : b' ≤ b) : JL W b' A n c dss P := by
 obtain ⟨hs, h1, h2, h3⟩ := h
 exact ⟨hs, Kd.R_lower h1 hb, h2, h3⟩
def DP (O A : Option Addr) (bo : Nat) (k : Nat) : Prop := OB O k ∨ OB A k ∨ k = bo
structure DI (V W : World) (O A : Option Addr) (j c : Nat) (dss : List (List (List F))) (f : Int → Value) : Prop where
 al : JL W V.heap.size A j c dss (DP O A V.heap.size)
 ow : zeR W V.heap.size j f
 bl : Below V.heap.size V W
theorem zmL {W : World} {b : Nat} {A : Option Addr} {n c : Nat} {dss : List (List (List F))} {P : Nat → Prop} (h : JL W b A n c dss P) : ∀ k, OB A k → k < W.heap.size ∧ b ≤ k := by
 obtain ⟨hs, h1, h2, h3⟩ := h
 exact fun k hk => ⟨Kd.R_lt h1 k (zV hk), Kd.R_base h1 k (zV hk)⟩
theorem DI.fr {V W W' : World} {O A : Option Addr} {j c : Nat} {dss : List (List (List F))} {f : Int → Value} (h : DI V W O A j c dss f) (hf : Fr (fun _ => False) W W') : DI V W' O A j c dss f :=
 ⟨JB h.al hf, zer h.ow hf (fun h => h), h.bl.trans (hf.f_below.mono h.bl.size)⟩
theorem DI.step {V W : World} {O A : Option Addr} {j c : Nat} {dss : List (List (List F))} {f : Int → Value} (h : DI V W O A j c dss f) (hO : ∀ k, OB O k → k < V.heap.size) {Y : Option Addr} {N : Nat} {rows : List (List F)} (hY : PLn W Y N rows (DP O A V.heap.size)) (x : Int) (hx : 0 ≤ x ∧ x ≤ 255) (val : Value) (hj : j ≤ 1000000) :
 ∃ A' c' W', (Builtin.append_ #[127, 127] 127 #[.slice A j c, .slice (some ⟨W.heap.size, 0, none⟩) 1 1]).run Try.prog (W.alloc (.cells #[.slice Y N N] 37)) = .ok (.slice A' (j + 1) c') W' ∧ Below V.heap.size V (W.alloc (.cells #[.slice Y N N] 37)) ∧ Below V.heap.size V W' ∧
 ∃ (v0 : Value) (st : Nat) (w1 : World), (Instr.mapEntry 128 (.map (some V.heap.size)) (.int .i64 x)).run Try.prog W' = .ok (.tuple #[v0, .int .i64 st]) w1 ∧ Below V.heap.size V w1 ∧
 ∃ w3, (Instr.entryStore 128 (.map (some V.heap.size)) (.int .i64 st) val).run Try.prog w1 = .ok () w3 ∧ DI V w3 O A' (j + 1) c' (dss ++ [rows]) (fun y => if y = x then val else f y) := by
 obtain ⟨hs, h1, h2, h3⟩ := h.al
 have hl : hs.length = j := (Kd.Q_reads' (Kd.Q_of_R h1)).1.symm
 have hrl : rows.length = N := by obtain ⟨_, _, h, _⟩ := hY; exact h
 obtain ⟨B, d, W', hrun, hR, hb', hf, ho⟩ := zbK (P := Try.prog) ja hd0 (h1 := fun _ => rfl) W V 127 37 (.slice none 0 0) 24 Try.underlying127 zhZ rfl h1 h.bl (Y, N, N) (by omega) (by omega)
 rw [hl] at hrun hR
 have hfP : Fr (DP O A V.heap.size) W W' := hf.mono (fun k hk => .inr (.inl hk))
 have hbs : W.heap.size ≤ W'.heap.size := hf.size
 obtain ⟨es0, cl0, hmb⟩ := zdt h.ow
 have hbo : V.heap.size < W.heap.size := yB hmb
 have hP' : ∀ k, DP O B V.heap.size k → DP O A V.heap.size k ∨ W.heap.size ≤ k := fun k hk => by
  rcases hk with hk | hk | hk
  ·exact .inl (.inl hk)
  ·rcases ho k hk with hk | hk
   ·exact .inl (.inr (.inl hk))
   exact .inr hk
  exact .inl (.inr (.inr hk))
 have hal : JL W' V.heap.size B (j + 1) d (dss ++ [rows]) (DP O B V.heap.size) := by
  refine ⟨hs ++ [(Y, N, N)], hR, by rw [List.length_append, h2]; rfl, fun i hi => ?_⟩
  rcases Nat.lt_or_ge i j with e | e
  ·have e1 : (hs ++ [(Y, N, N)]).getD i hd0 = hs.getD i hd0 := by rw [List.getD_eq_getElem?_getD, List.getElem?_append_left (by omega), ← List.getD_eq_getElem?_getD]
   have e2 : (dss ++ [rows]).getD i [] = dss.getD i [] := by rw [List.getD_eq_getElem?_getD, List.getElem?_append_left (by omega), ← List.getD_eq_getElem?_getD]
   rw [e1, e2]
   exact ⟨(h3 i e).1, (h3 i e).2.1, ZK (h3 i e).2.2 hfP hP'⟩
  obtain rfl : i = j := by omega
  have e1 : (hs ++ [(Y, N, N)]).getD i hd0 = (Y, N, N) := by rw [← hl]; exact ji hs [] _ hd0
  have e2 : (dss ++ [rows]).getD i [] = rows := by rw [← h2]; exact ji dss [] rows []
  rw [e1, e2, hrl]
  exact ⟨rfl, Nat.le_refl _, ZK hY hfP hP'⟩
 have how : zeR W' V.heap.size j f := zer h.ow hf (fun hk => by
  obtain ⟨cs, hcs⟩ := Kd.R_typed h1 V.heap.size (zV hk)
  rw [hmb] at hcs
  cases hcs)
 obtain ⟨v0, st, w1, hr1, hf1, hnext⟩ := zlb how x hx (by omega)
 obtain ⟨w3, hr3, how3, hf3⟩ := hnext w1 val rfl
 have hb1 : Below V.heap.size V w1 := hb'.trans (hf1.below hb'.size (fun k hk => by omega))
 have hf13 : Fr (fun k => k = V.heap.size) W' w3 := hf1.trans' hf3
 obtain ⟨es1, cl1, hmb1⟩ := zdt how
 refine ⟨B, d, W', hrun, zc h.bl _, hb', v0, st, w1, hr1, hb1, w3, hr3, ⟨zfW hal hf13 (fun k hk => .inr (.inr hk)) (fun k hk => .inl hk) (fun k _ hk cells hc => ?_), how3, hb1.trans (hf3.below hb1.size (fun k hk => by omega))⟩⟩
 subst hk
 rw [hmb1] at hc
 cases hc
def Zw (cols : Nat) (kind : Int) (dl : List Nat) (q : Ev) (ds : List Ev) (ts : List (List F)) (h : Nat) : List F :=
 yo cols q h ++ (ds.flatMap fun d => yo cols d h) ++ yI h dl ts ++ (if kind = 2 then yo cols (yg q ds) h else [])
def zbz (cols : Nat) (r : Ri) (q : Ev) (ds : List Ev) (ts : List (List F)) (j : Nat) : List F := (r.sn.take j).flatMap fun x => Zw cols r.kind (r.ds.map Int.toNat) q ds ts x.toNat
theorem zdb {cols : Nat} {r : Ri} {q : Ev} {ds : List Ev} {ts : List (List F)} {j : Nat} (h : j < r.sn.length) : zbz cols r q ds ts (j + 1) = zbz cols r q ds ts j ++ Zw cols r.kind (r.ds.map Int.toNat) q ds ts (r.sn.getD j 0).toNat := by
 unfold zbz
 rw [zK 0 r.sn j h, List.flatMap_append]
 simp
theorem znT {N cols : Nat} {r : Ri} {p : Ev} (ht : 0 ≤ r.target) (hs : ∀ x ∈ r.sn, 0 ≤ x) :
 zbm N (zE N cols p) r = (List.range N).flatMap fun h => if (zM r).kind = 4 ∨ ((zM r).kind = 3 ∧ (zM r).target ∈ (zM r).seen ∧ h ≠ (zM r).target) then yo cols p h else [] := by
 unfold zbm JQ
 refine Jf (fun h hh => ?_)
 rw [yE _ _ _ _ (List.mem_range.1 hh)]
 have e : (r.kind = 4 ∨ (r.kind = 3 ∧ r.target ∈ r.sn ∧ (h : Int) ≠ r.target)) ↔ ((zM r).kind = 4 ∨ ((zM r).kind = 3 ∧ (zM r).target ∈ (zM r).seen ∧ h ≠ (zM r).target)) := by
  have e1 : r.target ∈ r.sn ↔ r.target.toNat ∈ r.sn.map Int.toNat := by
   refine ⟨fun hm => List.mem_map.2 ⟨_, hm, rfl⟩, fun hm => ?_⟩
   obtain ⟨x, hx, he⟩ := List.mem_map.1 hm
   have := hs x hx
   rwa [show r.target = x by omega]
  have e2 : (h : Int) ≠ r.target ↔ h ≠ r.target.toNat := by
   constructor
   ·intro h1 h2; exact h1 (by omega)
   intro h1 h2; exact h1 (by omega)
  show _ ↔ (r.kind = 4 ∨ (r.kind = 3 ∧ r.target.toNat ∈ r.sn.map Int.toNat ∧ h ≠ r.target.toNat))
  rw [e1, e2]
 by_cases h1 : r.kind = 4 ∨ (r.kind = 3 ∧ r.target ∈ r.sn ∧ (h : Int) ≠ r.target)
 ·rw [if_pos h1, if_pos (e.1 h1)]
 rw [if_neg h1, if_neg (fun h2 => h1 (e.2 h2))]
theorem zhh {N cols : Nat} {r : Ri} {q : Ev} {ds : List Ev} {ts : List (List F)} (ht : 0 ≤ r.target) (hs : ∀ x ∈ r.sn, 0 ≤ x) :
 ZY N cols (zM r) q ds ts = zbz cols r q ds ts r.sn.length ++ zbm N (zE N cols (yg q ds)) r := by
 rw [znT ht hs]
 unfold ZY zbz
 rw [List.take_length]
 congr 1
 show (r.sn.map Int.toNat).flatMap _ = _
 rw [List.flatMap_map]
 rfl
theorem zjB {N : Int} {h L : Nat} {ds : List Int} {ts : List (List F)} (hds : Ris N ds) (hl : ds.length ≤ ts.length) (hL : ∀ t ∈ ts.take ds.length, t.length = L) : (yI h (ds.map Int.toNat) ts).length ≤ L := by
 by_cases hx : h ∈ ds.map Int.toNat
 ·obtain ⟨i, hi, e⟩ := List.getElem_of_mem hx
  rw [List.length_map] at hi
  have hnd : (ds.map Int.toNat).Nodup := by
   unfold List.Nodup
   rw [List.pairwise_map]
   refine List.Pairwise.imp_of_mem ?_ (zaU hds)
   intro a b ha hb hab e
   have := (yp hds ha).1
   have := (yp hds hb).1
   exact hab (by omega)
  rw [zeq h (ds.map Int.toNat) ts i hnd (by rw [List.length_map]; exact hi) (by rw [List.length_map]; exact hl) (by rw [List.getD_eq_getElem?_getD, List.getElem?_eq_getElem (by rw [List.length_map]; exact hi)]; exact e)]
  refine Nat.le_of_eq (hL _ ?_)
  rw [List.getD_eq_getElem?_getD, List.getElem?_eq_getElem (by omega)]
  exact List.mem_take_iff_getElem.2 ⟨i, by omega, rfl⟩
 rw [zaT h _ _ hx]
 exact Nat.zero_le _
theorem zaJ (h : Nat) : ∀ (dl : List Nat) (ts : List (List F)), yI h dl (ts.take dl.length) = yI h dl ts
 | [], ts => by unfold yI; rfl
 | d :: dl, [] => by simp
 | d :: dl, t :: ts => by
   rw [List.length_cons, List.take_succ_cons]
   conv => lhs; unfold yI
   conv => rhs; unfold yI
   rw [zaJ h dl ts]
end Go.Proofs.Ytpeiejkcoadhfaa
