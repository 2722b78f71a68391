/- The law DealSecret, walked. -/
import Derived.Test.YtpeiejkcoadhfaaDlD
set_option linter.all false
namespace Go.Proofs.Ytpeiejkcoadhfaa
open Go.RowKit Go.Shelf Go.Proofs.YtpeiejkcoadhfaaW.PrintWords Go.Proofs.YtpeiejkcoadhfaaW.PrintMore
open Go.BigFrame
attribute [local go_sem] Oper.semAt_some

/-- append, whose run is known when it comes, as one step of a region that draws. -/
theorem step_append_cps {P : Program} {ops : Array Oper} {o : Oper} {a : Act} {w : World} {K : Act → World → Prop} {Q : Exit → Act → World → Prop} {E : Prop} {v y : Value} {Φ : Option Addr → Nat → Nat → World → Prop}
    (hg : o.guard = none) (s x : Operand) (t t' : TypeId) (hop : o.op = Op.call { callee := Callee.builtin Builtin.append, args := #[s, x], argTypes := #[t, t'] })
    (hs : a.eval s = v) (hx : a.eval x = y) (hrun : ∃ A n c w', (Builtin.append_ #[t, t'] o.type #[v, y]).run P w = .ok (.slice A n c) w' ∧ Φ A n c w') (hK : ∀ A n c w', Φ A n c w' → K (a.put o.dst (.slice A n c)) w') :
    if Region.wanted o (yielded ops a.tmps) = true then Oper.wp P o a w K Q else E := by
  obtain ⟨A, n, c, w', h1, h2⟩ := hrun
  exact step_append_run hg s x t t' hop hs hx h1 (hK A n c w' h2)
/-- A byte's literal, appended to a row of one's own. -/
theorem push_blk (W : World) (base : Nat) (A : Option Addr) (n c : Nat) (xs : List F) (hR : Kd.R fk 5 W base (fun _ => True) (.slice A n c) xs) (hb : base ≤ W.heap.size) (L : Nat) (e : F) (hL : W.heap[L]? = some (.cells #[.int .u8 e.v] 5 (0, 0))) (hn : n ≤ 1000000) :
    ∃ A' c' W', (Builtin.append_ #[36, 36] 36 #[.slice A n c, .slice (some ⟨L, 0, none⟩) 1 1]).run Try.prog W = .ok (.slice A' (n + 1) c') W' ∧ Kd.R fk 5 W' base (fun _ => True) (.slice A' (n + 1) c') (xs ++ [e]) ∧ Fr (fun k => OB A k) W W' ∧ (∀ k, OB A' k → OB A k ∨ W.heap.size ≤ k) := by
  have hn' : n = xs.length := (Kd.R_reads' hR).1
  subst hn'
  obtain ⟨v', W', hrun, hq, hg, hat⟩ := R_append_row (P := Try.prog) encF (0 : F) W base 36 36 5 _ 1 Try.underlying36 info5 rfl (ys := [e]) (c := 1) hR (C_lit1 hL) (by simp only [List.length_cons, List.length_nil]; omega) (by omega) hb (fun _ _ => trivial)
  obtain ⟨A', c', rfl⟩ := Kd.R_slice hq
  rw [List.length_append] at hrun hq
  refine ⟨A', c', W', hrun, hq, Fr.of_grown hg (fun k hk => .inl (own_ob hk)), fun k hk => ?_⟩
  rcases hat with h | ⟨b', h, hb'⟩
  · exact .inl (own_ob (n := xs.length) (c := c) (by rw [← h]; exact ob_own hk))
  · rw [ob_own hk] at h
    injection h with h
    exact .inr (by omega)

theorem thru_exists {xs ys : List F} (hu : Unl xs) : ∃ s, Thru xs ys s := by
  have : ∀ n, n ≤ xs.length → ∃ s, ThruTo xs ys s n := by
    intro n
    induction n with
    | zero => exact fun _ => ⟨[], thru_start xs ys⟩
    | succ n ih =>
      intro hn
      obtain ⟨s, hs⟩ := ih (by omega)
      exact ⟨_, thru_step hs (by omega) (basis_others hu (by omega)) (Eqv.refl _)⟩
  obtain ⟨s, hs⟩ := this xs.length (Nat.le_refl _)
  exact ⟨s, thru_end hs rfl⟩
theorem thruP_spec {xs ys : List F} (hu : Unl xs) : Thru xs ys (thruP xs ys) := by
  obtain ⟨s, hs⟩ := thru_exists (ys := ys) hu
  rw [thruP_eq hu hs]
  exact hs
/-- A column's polynomial. -/
noncomputable def colP (N T K : Nat) (data rnd : List F) (j : Nat) : List F := trimP (addP (thruP (secL N K) (colF data K j)) (trimP (mulP (roots (secL N K)) (pieceL rnd T j))))
theorem polysL_get (N T K : Nat) (data rnd : List F) (j : Nat) (hj : j < ncol data.length K) : (polysL N T K data rnd).getD j [] = colP N T K data rnd j := getD_range _ _ _ _ hj
theorem secL_get (N K i : Nat) (h : i < K) : (secL N K).getD i 0 = ptF (N + i) := getD_range _ _ _ _ h
theorem colP_secret (N T K : Nat) (data rnd : List F) (j i : Nat) (hi : i < K) (hNK : N + K ≤ 255) : ev (colP N T K data rnd j) (ptF (N + i)) = (colF data K j).getD i 0 := by
  have hth := thruP_spec (ys := colF data K j) (secL_unl N K hNK)
  have h1 := hth.2.2 i (by rw [secL_length]; exact hi)
  rw [secL_get N K i hi] at h1
  have h0 : ev (roots (secL N K)) (ptF (N + i)) = 0 := (ev_roots _ _).2 (by rw [← secL_get N K i hi]; exact getD_mem (by rw [secL_length]; exact hi))
  unfold colP
  rw [ev_trim, ev_add, ev_trim, ev_mul, h0, F.zero_mul, F.add_zero, h1]
theorem colP_len (N T K : Nat) (data rnd : List F) (j : Nat) : (colP N T K data rnd j).length ≤ T + K := by
  have hrl := roots_length (secL N K)
  rw [secL_length] at hrl
  have ht := thruP_len (secL N K) (colF data K j)
  rw [secL_length] at ht
  have h2 : (trimP (mulP (roots (secL N K)) (pieceL rnd T j))).length ≤ K + T := trim_le (fun i hi => cf_mul_ge _ _ (K + 1) T (fun k hk => cf_ge _ _ (by omega)) (fun k hk => cf_ge _ _ (by simp [pieceL]; omega)) i (by omega) (by omega))
  exact trim_le (fun i hi => by rw [cf_add, cf_ge _ i (by omega), cf_ge _ i (by omega), F.add_zero])
/-- Holders' points from one on. -/
def ptsL (fr i : Nat) : List F := (List.range i).map fun t => ptF (fr + t)
def valsL (q : List F) (fr i : Nat) : List F := (List.range i).map fun t => ev q (ptF (fr + t))
theorem ptsL_length (fr i : Nat) : (ptsL fr i).length = i := by simp [ptsL]
theorem valsL_length (q : List F) (fr i : Nat) : (valsL q fr i).length = i := by simp [valsL]
theorem ptsL_snoc (fr i : Nat) : ptsL fr (i + 1) = ptsL fr i ++ [ptF (fr + i)] := by simp [ptsL, List.range_succ]
theorem valsL_snoc (q : List F) (fr i : Nat) : valsL q fr (i + 1) = valsL q fr i ++ [ev q (ptF (fr + i))] := by simp [valsL, List.range_succ]
theorem ptsL_unl (fr i : Nat) (h : fr + i ≤ 255) : Unl (ptsL fr i) := unl_map _ (fun a b ha hb e => by have := ptF_inj (by omega) (by omega) e; omega)
theorem colP_thru (N T K : Nat) (data rnd : List F) (j fr : Nat) (h : fr + (T + K) ≤ 255) {s : List F} (hs : Thru (ptsL fr (T + K)) (valsL (colP N T K data rnd j) fr (T + K)) s) : s = colP N T K data rnd j := by
  refine thru_unique (ptsL_unl fr (T + K) h) hs ⟨trim_trim _, by rw [ptsL_length]; exact colP_len N T K data rnd j, fun i hi => ?_⟩
  rw [ptsL_length] at hi
  rw [show (ptsL fr (T + K)).getD i 0 = ptF (fr + i) from getD_range _ _ _ _ hi, show (valsL (colP N T K data rnd j) fr (T + K)).getD i 0 = ev (colP N T K data rnd j) (ptF (fr + i)) from getD_range _ _ _ _ hi]

/-- Two rows of one's own, side by side. -/
def Two (W : World) (b : Nat) (A : Option Addr) (n c : Nat) (xs : List F) (B : Option Addr) (m d : Nat) (ys : List F) : Prop :=
  Kd.R fk 5 W b (fun _ => True) (.slice A n c) xs ∧ Kd.R fk 5 W b (fun _ => True) (.slice B m d) ys ∧ ∀ k, OB A k → ¬ OB B k
theorem two_nil (W : World) (b : Nat) : Two W b none 0 0 [] none 0 0 [] := ⟨Kd.R_nil _ _ _ _ _, Kd.R_nil _ _ _ _ _, fun k ⟨_, h, _⟩ => by cases h⟩
theorem R_lt' {W : World} {b : Nat} {A : Option Addr} {n c : Nat} {xs : List F} (h : Kd.R fk 5 W b (fun _ => True) (.slice A n c) xs) : ∀ k, OB A k → k < W.heap.size := fun k hk => Kd.R_lt h k (ob_own hk)
theorem two_push {W V W1 W2 W3 : World} {b n c m d c1 d1 : Nat} {A B A1 B1 : Option Addr} {xs ys : List F} {x y : F} (h : Two W b A n c xs B m d ys)
    (hV : Fr (fun _ => False) W V) (hx : Kd.R fk 5 W1 b (fun _ => True) (.slice A1 (n + 1) c1) (xs ++ [x])) (h1 : Fr (fun k => OB A k) V W1) (ho1 : ∀ k, OB A1 k → OB A k ∨ V.heap.size ≤ k)
    (h12 : Fr (fun _ => False) W1 W2) (hy : Kd.R fk 5 W3 b (fun _ => True) (.slice B1 (m + 1) d1) (ys ++ [y])) (h2 : Fr (fun k => OB B k) W2 W3) (ho2 : ∀ k, OB B1 k → OB B k ∨ W2.heap.size ≤ k) : Two W3 b A1 (n + 1) c1 (xs ++ [x]) B1 (m + 1) d1 (ys ++ [y]) := by
  obtain ⟨hA, hB, hd⟩ := h
  have s1 := hV.size
  have s2 := h1.size
  have s3 := h12.size
  have lA := R_lt' hA
  have lB := R_lt' hB
  have lA1 := R_lt' hx
  refine ⟨R_fr1 (R_fr1 hx h12 (fun _ _ h => h)) h2 (fun k hk hk2 => ?_), hy, fun k hk hk2 => ?_⟩
  · rcases ho1 k hk with h3 | h3
    · exact hd k h3 hk2
    · have := lB k hk2; omega
  · rcases ho1 k hk with h3 | h3
    · rcases ho2 k hk2 with h4 | h4
      · exact hd k h3 h4
      · have := lA k h3; omega
    · rcases ho2 k hk2 with h4 | h4
      · have := lB k h4; omega
      · have := lA1 k hk; omega
set_option maxRecDepth 100000 in
set_option maxHeartbeats 6400000 in
theorem secret_law (w : World) (cs : Array Value) (p : Par) (hK : kpar.K w p cs.toList) (hw : wfPar p) (A : Option Addr) (n c : Nat) (l : List Int) (hl : l.length = n) (hC : Kd.C u8 w A n l) (hc : n ≤ c) (hwl : ∀ a ∈ l, (Lit.int .u8 a).wf = true)
    (R : Option Addr) (m mc : Nat) (lr : List Int) (hlr : lr.length = m) (hCr : Kd.C u8 w R m lr) (hmc : m ≤ mc) (hwr : ∀ a ∈ lr, (Lit.int .u8 a).wf = true) (skip : Int) (hsk : (Lit.int .u8 skip).wf = true) :
    Calls Try.prog 16 #[.agg cs, .slice A n c, .slice R m mc, .int .u8 skip] w fun e w' => e = .returned (.bool true) ∧ Below w.heap.size w w' := by
  rw [par_cs hK]
  obtain ⟨N, T, K, E, Rm⟩ := p
  have hNb := i64_bd hw.1
  obtain ⟨data, rfl⟩ := bytes_F l hwl
  obtain ⟨rnd, rfl⟩ := bytes_F lr hwr
  obtain ⟨sn, rfl, hsn⟩ := u8_nt hsk
  have hd := C_bs.1 hC
  have hr := C_bs.1 hCr
  have HGR := Aside0.mk (fun W => RGood_any W N T K E Rm hNb)
  have HAN := Aside0.mk answers10
  have hmx := Kd.C_max hd
  clear hC hCr hwl hwr hl hlr hw hK hsk
  have hu48 := Try.underlying48
  by_cases hg : goodB N T K E Rm = true
  · obtain ⟨N, T, K, rfl, rfl, rfl, hn, ht1, ht, hk1, hk, hnk, htk⟩ := gd_nat (good_true hg)
    rw [hg] at HGR
    obtain ⟨w0, hw0, hz0, a0, hb0⟩ := heap1 w (Obj.cells #[.int .i64 N, .int .i64 T, .int .i64 K, .int .i64 E, .int .i64 Rm] 48)
    obtain ⟨s, hs⟩ : ∃ s, s = w.heap.size := ⟨_, rfl⟩
    rw [← hs] at a0
    have HG : Aside0 (∀ W, Fr (fun _ => False) w0 W → W.cell? ⟨s, 0, none⟩ = some (.int .i64 N) ∧ W.cell? ⟨s, 1, none⟩ = some (.int .i64 T) ∧ W.cell? ⟨s, 2, none⟩ = some (.int .i64 K) ∧ W.cell? ⟨s, 3, none⟩ = some (.int .i64 E) ∧ W.cell? ⟨s, 4, none⟩ = some (.int .i64 Rm)) :=
      ⟨fun W hW => by
        have h1 := hW.blk a0 (fun h => h)
        exact ⟨cell_at h1 rfl, cell_at h1 rfl, cell_at h1 rfl, cell_at h1 rfl, cell_at h1 rfl⟩⟩
    have HB : Aside0 (∀ W, Fr (fun _ => False) w0 W → Below w.heap.size w W) := ⟨fun W hW => hb0.trans (hW.f_below.mono hb0.size)⟩
    have HS := Aside0.mk hs
    have HW0 := Aside0.mk hw0
    by_cases hsm : n ≤ 40 ∧ N ≤ 30
    · obtain ⟨hn40, hN30⟩ := hsm
      have HNW := Aside0.mk (fun W => New_any W)
      have hdl := Kd.C_len hd
      have hncl := ncol_le n K hk1
      obtain ⟨ok, hok⟩ : ∃ ok, ok = decide (m = T * ncol n K) := ⟨_, rfl⟩
      have HSH := Aside0.mk (fun W g (hW : Fr (fun _ => False) w0 W) (hF : Fld W g) => Share_any W g N T K E Rm A R n c m mc data rnd hF (Kd.C_below hd (HB.out W hW)) (Kd.C_below hr (HB.out W hW)) hc hmc (by omega) (by omega) (by omega) hk hk1 hnk)
      rw [← hok] at HSH
      have HSP := Aside0.mk (fun W (hW : Fr (fun _ => False) w0 W) => RSplitL_any W A n c K data (Kd.C_below hd (HB.out W hW)) hc hk1 hk (by omega))
      have HPG : Aside0 (∀ j, j < ncol n K → (polysL N T K data rnd).getD j [] = colP N T K data rnd j) := ⟨fun j hj => polysL_get N T K data rnd j (by rw [hdl]; exact hj)⟩
      have HPL : Aside0 ((polysL N T K data rnd).length = ncol n K) := ⟨by rw [polysL_length, hdl]⟩
      have HSG : Aside0 (∀ j, j < ncol n K → (splitL (bs data) K).getD j [] = bs (colF data K j)) := ⟨fun j hj => by
        rw [List.getD_eq_getElem?_getD, splitL_get _ _ _ (by rw [bs_length, hdl]; exact hj)]
        exact colF_bs data K j⟩
      obtain ⟨qs, hqs⟩ : ∃ qs, qs = polysL N T K data rnd := ⟨_, rfl⟩
      rw [← hqs] at HSH HPG HPL
      obtain ⟨nc, hnc⟩ : ∃ nc, nc = ncol n K := ⟨_, rfl⟩
      rw [← hnc] at HSP HPG HPL HSG hncl
      obtain ⟨fr, hfr, hfrl⟩ : ∃ fr : Nat, (sn : Int) % ((N : Int) - (T : Int) - (K : Int) + 1) = (fr : Int) ∧ fr + T + K ≤ N := by
        have h1 : (N : Int) - (T : Int) - (K : Int) + 1 = ((N - T - K + 1 : Nat) : Int) := by omega
        have h2 := Nat.mod_lt sn (show 0 < N - T - K + 1 by omega)
        exact ⟨sn % (N - T - K + 1), by rw [h1]; omega, by omega⟩
      have hNI : ¬ (30 : Int) < (N : Int) := by omega
      have hnI : ¬ (40 : Int) < (n : Int) := by omega
      have hNTK : (1 : Int) ≤ (N : Int) - (T : Int) - (K : Int) + 1 := by omega
      clear a0 hb0 hz0 hw0 hs hd hr hg hok hqs hnc hdl hmx hn40
      unfold parV at *
      go_enter Try.func16, Try.ntmps16
      go_wp2_with (first
        | (go_at_call 44; rw [← HW0.out, ← HS.out]; with_reducible refine (HGR.out _).mono ?_; rintro e W1 ⟨rfl, hb1⟩; have HF1 := Aside0.mk (Fr.of_below hb1 (fun _ => False)); obtain ⟨v0, v1, v2, v3, v4⟩ := HG.out W1 HF1.out; clear hb1)
        | (go_at_call 41; with_reducible refine (HSP.out _ HF1.out).mono ?_; rintro e W2 ⟨B2, d2, rfl, hd2, hC2, hb2⟩; have HF2 := Aside0.mk (HF1.out.below_ hb2); have HC2 := Aside0.mk hC2; clear hC2 hb2))
      have S2 := HG.out W2 HF2.out
      clear v0 v1 v2 v3 v4
      go_region_held3 (fun W => W.cell? ⟨s, 0, none⟩ = some (.int .i64 N) ∧ W.cell? ⟨s, 1, none⟩ = some (.int .i64 T) ∧ W.cell? ⟨s, 2, none⟩ = some (.int .i64 K) ∧ W.cell? ⟨s, 3, none⟩ = some (.int .i64 E) ∧ W.cell? ⟨s, 4, none⟩ = some (.int .i64 Rm))
        (first | exact S4 | exact S3 | exact HG.out _ (HF2.out.trans' ((Fr.refl _ W2).drew)))
        (first
          | (go_at_call 28; with_reducible refine (HNW.out _).mono ?_; rintro e W3 ⟨g, rfl, -, -, hF, hf3⟩; have HF23 := Aside0.mk (((Fr.refl _ W2).drew).trans' hf3); have HF3 := Aside0.mk (HF2.out.trans' HF23.out); have HSH3 := Aside0.mk (HSH.out W3 g HF3.out hF); have S3 := HG.out W3 HF3.out; clear hf3 hF)
          | (go_at_call 51; with_reducible refine HSH3.out.mono ?_; rintro e W4 ⟨Y, yl, yc, rfl, hsv, hf4⟩; have HSV := Aside0.mk hsv; have HF24 := Aside0.mk (HF23.out.trans' hf4); have HF4 := Aside0.mk (HF2.out.trans' HF24.out); have S4 := HG.out W4 HF4.out; clear hsv hf4))
      have HC4 := Aside0.mk (Kd.C_below HC2.out HF24.out.f_below)
      clear HSH HSH3 HNW HSP S2 S3 S4 HC2 HGR
      cases ok with
      | false =>
        clear HSV
        go_wp2_with (go_at_call 42; with_reducible refine (HAN.out _).mono ?_; rintro e W5 ⟨rfl, hf5⟩)
        go_ret
        exact ⟨rfl, HB.out _ (HF4.out.trans' hf5)⟩
      | true =>
        obtain ⟨x, rfl, e1, e2, _, hrows⟩ := SV_yes HSV.out rfl
        obtain rfl : N = yl := e1.symm
        obtain rfl : N = yc := e2.symm
        have HRW := Aside0.mk hrows
        clear HSV hrows
        obtain ⟨u0, u1, u2, u3, u4⟩ := HG.out W4 HF4.out
        go_wp2
        clear u0 u1 u2 u3 u4
        go_loopw [13] (fun v13 wr => ∃ j : Nat, j ≤ nc ∧ v13 = .int .i64 (j : Int) ∧ Aside0 (Fr (fun _ => False) W4 wr)) (fun v13 _ => nc - (intOf v13).toNat)
        case atStart => exact ⟨0, by omega, rfl, ⟨Fr.refl _ _⟩⟩
        case round =>
          obtain ⟨j, hj, rfl, HFO⟩ := hrel
          obtain ⟨wo, rfl⟩ : ∃ wo : World, wo = wr := ⟨_, rfl⟩
          by_cases hlt : j < nc
          · have hpg := HPG.out j hlt
            obtain ⟨q, hq⟩ : ∃ q, q = colP N T K data rnd j := ⟨_, rfl⟩
            rw [← hq] at hpg
            have HQ := Aside0.mk hq
            have HPJ := Aside0.mk hpg
            clear hpg hq
            go_wp2
            go_loopw [14, 15, 16] (fun v14 v15 v16 wr => ∃ (h i dx dy : Nat) (Ax Ay : Option Addr), h = fr + i ∧ i ≤ T + K ∧ v16 = .int .i64 (h : Int) ∧ v14 = .slice Ax i dx ∧ v15 = .slice Ay i dy ∧ Aside0 (Two wr wo.heap.size Ax i dx (ptsL fr i) Ay i dy (valsL q fr i)) ∧ Aside0 (Fr (fun _ => False) wo wr)) (fun _ _ v16 _ => fr + T + K - (intOf v16).toNat)
            case atStart => exact ⟨fr, 0, 0, 0, none, none, by omega, by omega, rfl, rfl, rfl, ⟨two_nil _ _⟩, ⟨Fr.refl _ _⟩⟩
            case round =>
              obtain ⟨h, i, dx, dy, Ax, Ay, hhe, hi, rfl, rfl, rfl, HT, HFI⟩ := hrel
              obtain ⟨u0, u1, u2, u3, u4⟩ := HG.out wr (HF4.out.trans' (HFO.out.trans' HFI.out))
              have HHE := Aside0.mk hhe
              by_cases hit : i < T + K
              · obtain ⟨Bx, dq, hcx, hdx, hCx⟩ := rows_cell HRW.out h (by omega)
                rw [share_len _ _ _ (by omega), HPL.out] at hcx hdx hCx
                obtain ⟨adx, rfl, hcel⟩ := C_at hCx (Fr.refl (fun _ => False) W4) (fun _ h => h.elim) j hlt
                rw [share_row _ _ _ (by omega)] at hcel
                have hv : (qs.map fun q => ev q (ptF h)).getD j 0 = ev q (ptF h) := by
                  have h1 := HPJ.out
                  rw [List.getD_eq_getElem?_getD] at h1 ⊢
                  rw [List.getElem?_map]
                  have hjq : j < qs.length := by rw [HPL.out]; exact hlt
                  rw [List.getElem?_eq_getElem hjq] at h1 ⊢
                  rw [show qs[j] = q from h1]
                  rfl
                rw [hv] at hcel
                have hpt := ptF_u8 h (by omega)
                have hps := ptsL_snoc fr i
                have hvs := valsL_snoc q fr i
                rw [← hhe] at hps hvs
                obtain ⟨x1, hx1⟩ : ∃ x1, x1 = ptF h := ⟨_, rfl⟩
                obtain ⟨y1, hy1⟩ : ∃ y1, y1 = ev q (ptF h) := ⟨_, rfl⟩
                rw [← hy1] at hcel hvs
                rw [← hx1] at hpt hps
                have HPS := Aside0.mk hps
                have HVS := Aside0.mk hvs
                have hFW := HFO.out.trans' HFI.out
                have hW4s : W4.heap.size ≤ wo.heap.size := HFO.out.size
                have HAX : Aside0 (∀ k, OB Ax k → wo.heap.size ≤ k ∧ k < wr.heap.size) := ⟨fun k hk => ⟨(ob_base (Kd.Q_of_R HT.out.1) k hk).1, R_lt' HT.out.1 k hk⟩⟩
                have HAY : Aside0 (∀ k, OB Ay k → wo.heap.size ≤ k ∧ k < wr.heap.size) := ⟨fun k hk => ⟨(ob_base (Kd.Q_of_R HT.out.2.1) k hk).1, R_lt' HT.out.2.1 k hk⟩⟩
                have HCEL : Aside0 (∀ W, Fr (fun k => OB Ax k ∨ OB Ay k) wr W → W.cell? ⟨x, h, none⟩ = some (.slice (some adx) nc dq) ∧ W.cell? (adx.add j) = some (.int .u8 y1.v)) := ⟨fun W hW => by
                  have hf : Fr (fun k => OB Ax k ∨ OB Ay k) W4 W := (hFW.mono (fun _ h => h.elim)).trans' hW
                  have h1 := World.block_lt_of_cell? W4 _ hcx
                  have h2 := World.block_lt_of_cell? W4 _ hcel
                  refine ⟨hf.cell hcx (fun hk => ?_), hf.cell hcel (fun hk => ?_)⟩
                  · rcases hk with hk | hk
                    · have := (HAX.out _ hk).1; simp only at this h1; omega
                    · have := (HAY.out _ hk).1; simp only at this h1; omega
                  · rcases hk with hk | hk
                    · have := (HAX.out _ hk).1; omega
                    · have := (HAY.out _ hk).1; omega⟩
                have HA1 : Aside0 (∀ W L, Fr (fun _ => False) wr W → W.heap[L]? = some (.cells #[.int .u8 x1.v] 5 (0, 0)) → ∃ A' n' c' W', (Builtin.append_ #[36, 36] 36 #[.slice Ax i dx, .slice (some ⟨L, 0, none⟩) 1 1]).run Try.prog W = .ok (.slice A' n' c') W' ∧ (n' = i + 1 ∧ Kd.R fk 5 W' wo.heap.size (fun _ => True) (.slice A' (i + 1) c') (ptsL fr i ++ [x1]) ∧ Fr (fun k => OB Ax k) W W' ∧ ∀ k, OB A' k → OB Ax k ∨ W.heap.size ≤ k)) := ⟨fun W L hW hL => by
                  obtain ⟨A', c', W', h1, h2, h3, h4⟩ := push_blk W wo.heap.size Ax i dx (ptsL fr i) (R_fr HT.out.1 hW (fun _ _ _ _ h => h)) (Nat.le_trans HFI.out.size hW.size) L x1 hL (by omega)
                  exact ⟨A', _, c', W', h1, rfl, h2, h3, h4⟩⟩
                have HA2 : Aside0 (∀ W L, Fr (fun k => OB Ax k) wr W → W.heap[L]? = some (.cells #[.int .u8 y1.v] 5 (0, 0)) → ∃ A' n' c' W', (Builtin.append_ #[36, 36] 36 #[.slice Ay i dy, .slice (some ⟨L, 0, none⟩) 1 1]).run Try.prog W = .ok (.slice A' n' c') W' ∧ (n' = i + 1 ∧ Kd.R fk 5 W' wo.heap.size (fun _ => True) (.slice A' (i + 1) c') (valsL q fr i ++ [y1]) ∧ Fr (fun k => OB Ay k) W W' ∧ ∀ k, OB A' k → OB Ay k ∨ W.heap.size ≤ k)) := ⟨fun W L hW hL => by
                  obtain ⟨A', c', W', h1, h2, h3, h4⟩ := push_blk W wo.heap.size Ay i dy (valsL q fr i) (R_fr1 HT.out.2.1 hW (fun k hk hk2 => HT.out.2.2 k hk2 hk)) (Nat.le_trans HFI.out.size hW.size) L y1 hL (by omega)
                  exact ⟨A', _, c', W', h1, rfl, h2, h3, h4⟩⟩
                have HNX : Aside0 (∀ k, wr.heap.size ≤ k → ¬ OB Ax k) := ⟨fun k hk h => by have := (HAX.out k h).2; omega⟩
                have hlo : (h : Int) < (fr : Int) + (T : Int) + (K : Int) := by omega
                have hhN : (h : Int) < (N : Int) := by omega
                have S0 := HCEL.out wr (Fr.refl _ _)
                have S0d := HCEL.out wr.drew ((Fr.refl _ wr).drew)
                clear hps hvs hx1 hy1 hv hcx hcel hCx hdx hFW hW4s hhe
                go_wp2
                clear u0 u1 u2 u3 u4 hlo
                go_region_held_law (fun W => W.cell? ⟨x, h, none⟩ = some (.slice (some adx) nc dq) ∧ W.cell? (adx.add j) = some (.int .u8 y1.v))
                  (first | exact S7 | exact S5 | exact S5a | exact HCEL.out _ (by first | exact (Fr.refl _ wr).drew | exact ((Fr.refl _ wr).drew).alloc _ | exact (((Fr.refl _ wr).drew).alloc _).alloc _))
                  (first
                    | (refine step_append_cps rfl _ _ _ _ rfl rfl rfl (HA1.out _ _ (by first | exact ((Fr.refl _ wr).drew).alloc _ | exact (((Fr.refl _ wr).drew).alloc _).alloc _) (by first | exact blk_new _ _ | exact blk_alloc (blk_new _ _) _ | exact blk_new2 _ _ _)) ?_; rintro A1 n1 c1 W5 ⟨rfl, hR1, hfr1, hob1⟩; have HF15 := Aside0.mk hfr1; have hf5 : Fr (fun k => OB Ax k) wr W5 := Fr.trans' (by first | exact ((Fr.refl _ wr).drew).alloc _ | exact (((Fr.refl _ wr).drew).alloc _).alloc _) hfr1; have HF5 := Aside0.mk hf5; have HR1 := Aside0.mk hR1; have HO1 := Aside0.mk hob1; have S5 := HCEL.out W5 (hf5.mono (fun _ h => .inl h)); have S5a := HCEL.out (W5.alloc (.cells #[.int .u8 y1.v] 5)) ((hf5.mono (fun _ h => .inl h)).alloc _); clear hR1 hob1 hf5 hfr1 HA1)
                    | (refine step_append_cps rfl _ _ _ _ rfl rfl rfl (HA2.out _ _ (by first | exact HF5.out | exact HF5.out.alloc _) (by first | exact blk_new _ _ | exact HF15.out.blk (blk_new2 _ _ _) (HNX.out _ (Nat.le_succ _)) | exact HF15.out.blk (blk_alloc (blk_new _ _) _) (HNX.out _ (Nat.le_refl _)))) ?_; rintro B1 m1 e1 W7 ⟨rfl, hR2, hfr2, hob2⟩; have HR2 := Aside0.mk hR2; have HF57 := Aside0.mk hfr2; have HO2 := Aside0.mk hob2; have S7 := HCEL.out W7 (((HF5.out.mono (fun _ h => .inl h)).trans' (by first | exact Fr.refl _ _ | exact (Fr.refl _ _).alloc _)).trans' (hfr2.mono (fun _ h => .inr h))); clear hR2 hob2 hfr2 HA2))
                all_goals
                  have hTW : Two W7 wo.heap.size A1 (i + 1) c1 (ptsL fr i ++ [x1]) B1 (i + 1) e1 (valsL q fr i ++ [y1]) := two_push HT.out (by first | exact ((Fr.refl _ wr).drew).alloc _ | exact (((Fr.refl _ wr).drew).alloc _).alloc _) HR1.out HF15.out HO1.out (by first | exact Fr.refl _ _ | exact (Fr.refl _ _).alloc _) HR2.out HF57.out HO2.out
                  rw [← HPS.out, ← HVS.out] at hTW
                  have HTW := Aside0.mk hTW
                  have hfW : Fr (fun k => wo.heap.size ≤ k) wr W7 := ((HF5.out.mono (fun k hk => (HAX.out k hk).1)).trans' (by first | exact Fr.refl _ _ | exact (Fr.refl _ _).alloc _)).trans' (HF57.out.mono (fun k hk => (HAY.out k hk).1))
                  have HFN := Aside0.mk (HFI.out.trans hfW (fun k hk => .inr hk))
                  clear hTW hfW S0 S0d S5 S5a S7
                  go_wp2
                  go_roundw
                  case rel => exact ⟨h + 1, i + 1, c1, e1, A1, B1, by have := HHE.out; omega, by omega, by go_num, rfl, rfl, HTW, HFN⟩
                  case measure => have := HHE.out; simp [intOf]; omega
              · obtain rfl : i = T + K := by omega
                have hhi : (fr : Int) + (T : Int) + (K : Int) ≤ (h : Int) := by omega
                have HTH := Aside0.mk (RThrough_any wr Ax Ay (T + K) dx dy (ptsL fr (T + K)) (valsL q fr (T + K)) (R_C HT.out.1) (R_C HT.out.2.1) (R_cap HT.out.1) (by omega) (ptsL_unl fr (T + K) (by omega)))
                clear hhe
                go_wp2_with (go_at_call 55; with_reducible refine HTH.out.mono ?_; rintro e W5 ⟨D5, d5, s5, rfl, hd5, hC5, hth, hb5⟩; have HF5 := Aside0.mk (HFO.out.trans' (HFI.out.below_ hb5)); have HC5 := Aside0.mk hC5; have HS5 : Aside0 (s5 = q) := ⟨by rw [HQ.out] at hth ⊢; exact colP_thru N T K data rnd j fr (by omega) hth⟩; clear hC5 hb5 hth)
                clear HTH HT u0 u1 u2 u3 u4
                obtain ⟨ad, A0, c0, rfl, hcol, hcc, hCol⟩ := row_at (Kd.C_below HC4.out HF5.out.f_below) j hlt
                rw [HSG.out j hlt, bs_length, colF_length] at hcol hcc hCol
                have hCf := C_bs.1 hCol
                have hvl : ∀ i, i < K → ev s5 (ptF (N + i)) = (colF data K j).getD i 0 := fun i hi => by
                  rw [HS5.out, HQ.out]
                  exact colP_secret N T K data rnd j i hi hnk
                have HVL := Aside0.mk hvl
                obtain ⟨cf0, hcf⟩ : ∃ cf0, cf0 = colF data K j := ⟨_, rfl⟩
                rw [← hcf] at hCf HVL
                have HCF := Aside0.mk hCf
                have HCO := Aside0.mk hcol
                obtain ⟨u0, u1, u2, u3, u4⟩ := HG.out W5 (HF4.out.trans' HF5.out)
                have hsl : s5.length ≤ 1000 := by
                  rw [HS5.out, HQ.out]
                  have := colP_len N T K data rnd j
                  omega
                have HC5' := HC5
                obtain ⟨sl, hsle⟩ : ∃ sl, sl = s5.length := ⟨_, rfl⟩
                rw [← hsle] at HC5 hsl ⊢
                clear hvl hcf hCf hCol hcol hcc hsle
                go_wp2
                go_loopw [18] (fun v18 wr => ∃ i t : Nat, i ≤ K ∧ v18 = .int .i64 (i : Int) ∧ wr = W5.drewN t) (fun v18 _ => K - (intOf v18).toNat)
                case atStart => exact ⟨0, 0, by omega, rfl, rfl⟩
                case round =>
                  obtain ⟨i, t, hi, rfl, rfl⟩ := hrel
                  by_cases hik : i < K
                  · obtain ⟨ad0, rfl, hel⟩ := C_at HCF.out (Fr.refl (fun _ => False) W5) (fun _ h => h.elim) i hik
                    have hve := HVL.out i hik
                    obtain ⟨y, hy⟩ : ∃ y, y = cf0.getD i 0 := ⟨_, rfl⟩
                    rw [← hy] at hel hve
                    have hco := HCO.out
                    have hb1 : IntKind.i64.wrap ((N : Int) + 1) = (N : Int) + 1 := IntWalk.i64_in _ ⟨by omega, by omega⟩
                    have hb2 : IntKind.i64.wrap ((N : Int) + 1 + (i : Int)) = (N : Int) + 1 + (i : Int) := IntWalk.i64_in _ ⟨by omega, by omega⟩
                    have hb3 : IntKind.u8.wrap ((N : Int) + 1 + (i : Int)) = ((ptF (N + i)).v : Int) := by
                      rw [IntKind.wrap_u8, ptF_v]; omega
                    obtain ⟨x1, hx1⟩ : ∃ x1, x1 = ptF (N + i) := ⟨_, rfl⟩
                    rw [← hx1] at hb3 hve
                    have HE := Aside0.mk (fun t => REval_any (W5.drewN t) D5 sl d5 s5 x1 (C_drewN HC5.out t) (by omega))
                    rw [hve] at HE
                    have hikI : (i : Int) < (K : Int) := by omega
                    have hjI : (j : Int) < (nc : Int) := by omega
                    clear hve hy hx1
                    go_wp2
                    refine wp_region_drawn_tail 15 (by kernel_rfl) (by kernel_rfl) ?_
                    simp only [List.take_succ_cons, List.take_zero, List.drop_succ_cons, List.drop_zero]
                    repeat (first | go_big_quiet_skip | (go_big_quiet_want; go_big_quiet_op; first | go_big_quiet_on | (apply Exists.intro; refine ⟨fun t => ?_, ?_⟩; (go_at_call 56; with_reducible exact quiet_add_drawn (HE.out _)); go_big_quiet_on)))
                    refine wpQuiet_nil ?_
                    rintro _ ⟨t2, rfl⟩
                    go_wp2
                    go_roundw
                    case rel => exact ⟨i + 1, _, by omega, by go_num, by first | rfl | exact World.drewN_drewN _ _ _⟩
                    case measure => simp [intOf]; omega
                  · obtain rfl : i = K := by omega
                    have HFN := Aside0.mk (HF5.out.drewN t)
                    go_wp2
                    go_roundw
                    case rel => exact ⟨j + 1, by omega, by go_num, HFN⟩
                    case measure => simp [intOf]; omega
          · obtain rfl : j = nc := by omega
            go_wp2_with (go_at_call 42; with_reducible refine (HAN.out _).mono ?_; rintro e W12 ⟨rfl, hf12⟩)
            go_ret
            exact ⟨rfl, HB.out _ (HF4.out.trans' (HFO.out.trans' hf12))⟩
    · have HX : ((40 : Int) < (n : Int)) ∨ (¬ ((40 : Int) < (n : Int)) ∧ (30 : Int) < (N : Int)) := by
        by_cases h1 : n ≤ 40
        · exact .inr ⟨by omega, by omega⟩
        · exact .inl (by omega)
      clear a0 hb0 hz0 hw0 hs hd hr hg hsm hmx
      unfold parV at *
      rcases HX with h1 | ⟨h1, h2⟩
      all_goals
        go_enter Try.func16, Try.ntmps16
        go_wp2_with (first | (go_at_call 44; rw [← HW0.out, ← HS.out]; with_reducible refine (HGR.out _).mono ?_; rintro e W1 ⟨rfl, hb1⟩; have HF1 := Aside0.mk (Fr.of_below hb1 (fun _ => False)); obtain ⟨v0, v1, v2, v3, v4⟩ := HG.out W1 HF1.out; clear hb1) | (go_at_call 42; with_reducible refine (HAN.out _).mono ?_; rintro e W2 ⟨rfl, hf2⟩))
        go_ret
        exact ⟨rfl, HB.out _ (HF1.out.trans' hf2)⟩
  · have hg' : goodB N T K E Rm = false := by simpa using hg
    rw [hg'] at HGR
    unfold parV at *
    clear hg hg' hd hr hNb hmx
    go_enter Try.func16, Try.ntmps16
    go_wp2_with (first | (go_at_call 44; with_reducible refine (HGR.out _).mono ?_; rintro e W1 ⟨rfl, hb1⟩; have HF1 := Aside0.mk (Fr.of_below hb1 (fun _ => False)); clear hb1) | (go_at_call 42; with_reducible refine (HAN.out _).mono ?_; rintro e W2 ⟨rfl, hf2⟩))
    go_ret
    exact ⟨rfl, (((Fr.refl (fun _ => False) w).alloc _).trans' (HF1.out.trans' hf2)).f_below⟩
end Go.Proofs.Ytpeiejkcoadhfaa
