/- What the view's laws take, Vt36: VwAE, VwOp. -/
import Derived.Test.YtpeiejkcoadhfaaVt26
import Derived.Test.YtpeiejkcoadhfaaVt32
import Derived.Test.YtpeiejkcoadhfaaVt33
import Derived.Test.YtpeiejkcoadhfaaVt35
set_option linter.all false
namespace Go.Proofs.Ytpeiejkcoadhfaa
open Go.RowKit Go.Shelf Go.Proofs.YtpeiejkcoadhfaaW.PrintWords Go.Proofs.YtpeiejkcoadhfaaW.PrintMore Go.Proofs.Ytpeiejkcoadhfaa.PViewEmpty
open Go.BigFrame
theorem rdT (rs : List Ri) (i : Nat) (hi : i < rs.length) : rd_T90 (rs.map toS) (i : Int) = toS (rs.getD i ri0) := by
  unfold rd_T90
  rw [Int.toNat_natCast, List.getD_eq_getElem?_getD, List.getD_eq_getElem?_getD, List.getElem?_map, List.getElem?_eq_getElem hi]
  rfl
theorem VEach_f (N T K : Nat) (E Rm kind : Int) (hT : T ≤ 1000) (hK : K ≤ 1000) (hTK : 1 ≤ T + K) (q : Nat) : PViewEmpty.shamrockref10_Each.f (q + 1) N T K E Rm kind = some ((eachN T K kind : Nat) : Int) := by
  have h1 : wrap64 ((T : Int) + (K : Int)) = ((T + K : Nat) : Int) := wr_add T K (by omega)
  have h2 : wrap64 (((T + K : Nat) : Int) - 1) = ((T + K - 1 : Nat) : Int) := by rw [wr_pred _ (by omega)]; omega
  unfold PViewEmpty.shamrockref10_Each.f PViewEmpty.shamrockref10_Each.j0 eachN
  simp only []
  rw [h1, h2]
  by_cases c1 : kind = 1
  · subst c1; simp
  · by_cases c2 : kind = 2
    · subst c2; simp
    · by_cases c3 : kind = 3
      · subst c3; simp
      · by_cases c4 : kind = 4
        · subst c4; simp
        · simp [c1, c2, c3, c4]
theorem VCols_f (a b : Nat) (ha : a ≤ 1000000) (hb : b ≤ 1000000) (hb1 : 1 ≤ b) : PViewEmpty.shamrockref10_Columns.f a b = some ((ncol a b : Nat) : Int) := by
  unfold PViewEmpty.shamrockref10_Columns.f
  rw [if_neg (by omega), wr_add a b (by omega), wr_pred _ (by omega)]
  have e : (((a + b : Nat) : Int) - 1) = ((a + b - 1 : Nat) : Int) := by omega
  have h1 := ncol_le a b hb1
  rw [e, ← Int.ofNat_tdiv]
  have e2 : (a + b - 1) / b = ncol a b := rfl
  rw [e2, w64_in (by omega)]
theorem tapes_evt {nN nT nK : Nat} {E Rm : Int} {rs : List Ri} {cols : Nat} (hT : nT ≤ 255) (hK : nK ≤ 255) (hT1 : 1 ≤ nT) (hc : cols ≤ 1000) (hrs : rs.length ≤ 1024) (hds : ∀ r ∈ rs, r.ds.length ≤ 256) (d : Nat) :
    ∀ i, i + d = rs.length → Evt fun k => shamrockref24_Tapes.l0 k (rs.map toS) cols (tapesTo nT nK cols rs i) (i : Int) nN nT nK E Rm = some (tapesL nT nK cols rs) := by
  induction d with
  | zero =>
    intro i hi
    refine (Evt.all (P := fun _ => True) (fun _ => trivial)).succ (fun k _ => ?_)
    simp only [shamrockref24_Tapes.l0]
    rw [if_neg (by rw [List.length_map]; omega), tapesTo_all _ _ _ _ i (by omega)]
  | succ d ih =>
    intro i hi
    have hil : i < rs.length := by omega
    have hmem : rs.getD i ri0 ∈ rs := by rw [List.getD_eq_getElem?_getD, List.getElem?_eq_getElem hil]; exact List.getElem_mem hil
    have hts := tapesTo_succ nT nK cols rs i hil
    have htl := tapesTo_len nT nK cols rs 256 hds i (by omega)
    have hrd := rdT rs i hil
    obtain ⟨r, hr⟩ : ∃ r, r = rs.getD i ri0 := ⟨_, rfl⟩
    rw [← hr] at hmem hts hrd
    have hd := hds r hmem
    have hq : eachN nT nK r.kind * cols ≤ 2000 * 1000 := Nat.mul_le_mul (eachN_le nT nK r.kind (by omega) (by omega)) hc
    have h1024 : i * 256 ≤ 1024 * 256 := Nat.mul_le_mul_right 256 (by omega)
    have hin : ∀ dd j, j + dd = r.ds.length → Evt fun k => shamrockref24_Tapes.l1 k (rs.map toS) cols (tapesTo nT nK cols rs i ++ laidE nT nK cols r j) (i : Int) (j : Int) nN nT nK E Rm = some (tapesL nT nK cols rs) := by
      intro dd
      induction dd with
      | zero =>
        intro j hj
        refine (ih (i + 1) (by omega)).succ (fun k hk => ?_)
        simp only [shamrockref24_Tapes.l1]
        rw [if_pos (by omega), if_pos (by rw [List.length_map]; omega), hrd, if_neg (show ¬ ((j : Int) < (((toS r).f2).length : Int)) by show ¬ ((j : Int) < (r.ds.length : Int)); omega), wr_succ i (by omega)]
        rw [hts] at hk
        have e : j = r.ds.length := by omega
        rw [e]
        exact hk
      | succ dd ihj =>
        intro j hj
        refine ((ihj (j + 1) (by omega)).and (⟨1, fun k hk => by
          obtain ⟨k, rfl⟩ : ∃ m, k = m + 1 := ⟨k - 1, by omega⟩
          exact VEach_f nN nT nK E Rm r.kind (by omega) (by omega) (by omega) k⟩ : Evt fun k => PViewEmpty.shamrockref10_Each.f k nN nT nK E Rm r.kind = some ((eachN nT nK r.kind : Nat) : Int))).succ (fun k ⟨hk, hek⟩ => ?_)
        simp only [shamrockref24_Tapes.l1]
        have hek2 : PViewEmpty.shamrockref10_Each.f k nN nT nK E Rm (toS r).f0 = some ((eachN nT nK r.kind : Nat) : Int) := hek
        rw [if_pos (by omega), if_pos (by rw [List.length_map]; omega), hrd, if_pos (show (j : Int) < (((toS r).f2).length : Int) by show (j : Int) < (r.ds.length : Int); omega), hek2, Option.bind_some, if_pos (by rw [List.length_append]; unfold laidE; rw [List.length_replicate]; omega), wr_succ j (by omega)]
        have hw : wrap64 (((eachN nT nK r.kind : Nat) : Int) * (cols : Int)) = ((eachN nT nK r.kind * cols : Nat) : Int) := by
          rw [← Int.natCast_mul, w64_in (by omega)]
        rw [hw, List.append_assoc, ← laidE_succ]
        exact hk
    refine (hin r.ds.length 0 (by omega)).succ (fun k hk => ?_)
    simp only [shamrockref24_Tapes.l0]
    rw [if_pos (by rw [List.length_map]; omega)]
    have e : laidE nT nK cols r 0 = [] := rfl
    rw [e, List.append_nil] at hk
    exact hk
theorem RTapes_f (N T K E Rm size : Int) (rs : List Ri) (hrl : rs.length ≤ 9223372036854775807) (hsm : ∀ r ∈ rs, r.ds.length ≤ 9223372036854775807 ∧ r.sn.length ≤ 9223372036854775807) (hN : -9223372036854775808 ≤ N ∧ N ≤ 9223372036854775807) : Evt fun k => shamrockref24_Tapes.f k N T K E Rm size (rs.map toS) = some (wantL N T K E Rm size rs) := by
  by_cases hmay : MayP N T K E Rm size rs
  · have hw : wantL N T K E Rm size rs = tapesL T.toNat K.toNat (ncol size.toNat K.toNat) rs := by unfold wantL; rw [if_pos hmay]
    obtain ⟨nN, nT, nK, rfl, rfl, rfl, g1, g2, g3, g4, g5, g6, g7⟩ := gd_nat2 hmay.1
    obtain ⟨sz, rfl⟩ : ∃ sz : Nat, size = sz := ⟨size.toNat, by have := hmay.2.1; omega⟩
    have hsz : sz ≤ 256 := by have := hmay.2.2.1; omega
    have hcl := ncol_le sz nK g4
    have hq : nT * ncol sz nK ≤ 255 * 256 := Nat.mul_le_mul g3 (by omega)
    refine ((RMay_f nN nT nK E Rm sz rs hrl hsm hN).and (tapes_evt (nN := nN) (nT := nT) (nK := nK) (E := E) (Rm := Rm) (cols := ncol sz nK) (by omega) (by omega) g2 (by omega) hmay.2.2.2.1 (fun r hr => by
      have := ris_len (hmay.2.2.2.2.1 r hr).2.2.2.2.1; omega) rs.length 0 (by omega))).mono (fun k ⟨h1, h2⟩ => ?_)
    unfold shamrockref24_Tapes.f
    rw [h1, Option.bind_some, decide_eq_true hmay, if_pos rfl, VCols_f sz nK (by omega) (by omega) g4, Option.bind_some, hw]
    have e : wrap64 ((nT : Int) * ((ncol sz nK : Nat) : Int)) = ((nT * ncol sz nK : Nat) : Int) := by rw [← Int.natCast_mul, w64_in (by omega)]
    rw [e]
    exact h2
  · have hw : wantL N T K E Rm size rs = [] := by unfold wantL; rw [if_neg hmay]
    refine (RMay_f N T K E Rm size rs hrl hsm hN).mono (fun k h1 => ?_)
    unfold shamrockref24_Tapes.f
    rw [h1, Option.bind_some, decide_eq_false hmay, if_neg (by decide), hw]
theorem RTapes_any (w : World) (N T K E Rm size : Int) (A : Option Addr) (n c : Nat) (rs : List Ri) (hR : RL w A n rs) (hc : n ≤ c) (hn : n ≤ 9223372036854775807) (hsm : ∀ r ∈ rs, r.ds.length ≤ 9223372036854775807 ∧ r.sn.length ≤ 9223372036854775807) (hN : -9223372036854775808 ≤ N ∧ N ≤ 9223372036854775807) :
    Calls Try.prog 69 #[parV N T K E Rm, .int .i64 size, .slice A n c] w fun e w' => ∃ v : Value, e = .returned v ∧ Kd.R (Kd.int .i64) 3 w' w.heap.size (fun _ => True) v (wantL N T K E Rm size rs) ∧ Below w.heap.size w w' := by
  have hl := RL_len hR
  have hrl : rs.length ≤ 9223372036854775807 := by omega
  obtain ⟨k, hk⟩ := (RTapes_f N T K E Rm size rs hrl hsm hN).some
  have h := shamrockref24_Tapes.calls k N T K E Rm size A c (rs.map toS) _ w (by rw [List.length_map, hl]; exact hR) (by rw [List.length_map, hl]; exact hc) hk
  rw [List.length_map, hl] at h
  exact h
theorem right_evt (ts : List (List F)) (wl : List Int) (hl : ts.length = wl.length) (hm : ts.length ≤ 9223372036854775807) (d : Nat) : ∀ i, i + d = ts.length → ((ts.map List.length).map fun l : Nat => (l : Int)).take i = wl.take i →
    Evt fun k => shamrockref24_Right.l0 k (ts.map bs) wl (i : Int) = some (decide (((ts.map List.length).map fun l : Nat => (l : Int)) = wl)) := by
  induction d with
  | zero =>
    intro i hi hp
    refine (Evt.all (P := fun _ => True) (fun _ => trivial)).succ (fun k _ => ?_)
    simp only [shamrockref24_Right.l0]
    rw [List.take_of_length_le (by simp; omega), List.take_of_length_le (by omega)] at hp
    rw [if_neg (by omega), decide_eq_true hp]
  | succ d ih =>
    intro i hi hp
    have hls : ((ts.map List.length).map fun l : Nat => (l : Int)).length = ts.length := by simp
    have hgd : ((ts.map List.length).map fun l : Nat => (l : Int)).getD i 0 = ((ts.getD i []).length : Int) := by
      rw [List.getD_eq_getElem?_getD, List.getD_eq_getElem?_getD, List.getElem?_map, List.getElem?_map]
      cases ts[i]? <;> rfl
    by_cases c : ((ts.getD i []).length : Int) = wl.getD i 0
    · refine (ih (i + 1) (by omega) (by rw [take_snoc 0 _ i (by omega), take_snoc 0 wl i (by omega), hp, hgd, c])).succ (fun k hk => ?_)
      simp only [shamrockref24_Right.l0]
      rw [if_pos (by omega), if_pos (by omega), if_pos (by rw [List.length_map]; omega), rdL2 ts i (by omega), rd_nat, bs_length, if_pos c, wr_succ i (by omega)]
      exact hk
    · refine (Evt.all (P := fun _ => True) (fun _ => trivial)).succ (fun k _ => ?_)
      simp only [shamrockref24_Right.l0]
      rw [if_pos (by omega), if_pos (by omega), if_pos (by rw [List.length_map]; omega), rdL2 ts i (by omega), rd_nat, bs_length, if_neg c, decide_eq_false (fun h => c (by rw [← hgd, h]))]
theorem RRight_any (w : World) (N T K E Rm size : Int) (A : Option Addr) (n c : Nat) (rs : List Ri) (hR : RL w A n rs) (hc : n ≤ c) (hn : n ≤ 9223372036854775807) (hsm : ∀ r ∈ rs, r.ds.length ≤ 9223372036854775807 ∧ r.sn.length ≤ 9223372036854775807) (hN : -9223372036854775808 ≤ N ∧ N ≤ 9223372036854775807)
    (B : Option Addr) (m d : Nat) (ts : List (List F)) (hT : Kd.C krow w B m (ts.map bs)) (hd : m ≤ d) (hm : m ≤ 9223372036854775807) :
    Calls Try.prog 72 #[parV N T K E Rm, .int .i64 size, .slice A n c, .slice B m d] w fun e w' => e = .returned (.bool (decide (RightP N T K E Rm size rs (ts.map List.length)))) ∧ Below w.heap.size w w' := by
  have hl := RL_len hR
  have hrl : rs.length ≤ 9223372036854775807 := by omega
  have htl : ts.length = m := by have := Kd.C_len hT; rwa [List.length_map] at this
  obtain ⟨wl, hwl⟩ : ∃ wl, wl = wantL N T K E Rm size rs := ⟨_, rfl⟩
  have hr : decide (RightP N T K E Rm size rs (ts.map List.length)) = decide (wl.length ≠ 0 ∧ ((ts.map List.length).map fun l : Nat => (l : Int)) = wl) := by rw [decide_eq_decide, hwl]; exact right_want
  have hev : Evt fun k => shamrockref24_Right.f k N T K E Rm size (rs.map toS) (ts.map bs) = some (decide (RightP N T K E Rm size rs (ts.map List.length))) := by
    have ht := RTapes_f N T K E Rm size rs hrl hsm hN
    rw [← hwl] at ht
    have hf : Evt fun k => shamrockref24_Right.j0 k (ts.map bs) wl true = some false := (Evt.all (P := fun _ => True) (fun _ => trivial)).succ (fun k _ => by simp only [shamrockref24_Right.j0]; rw [if_pos trivial])
    by_cases c0 : wl.length = 0
    · refine (ht.and hf).mono (fun k ⟨h1, h2⟩ => ?_)
      unfold shamrockref24_Right.f
      rw [h1, Option.bind_some, if_pos (by omega), h2, hr, decide_eq_false (fun h => h.1 c0)]
    · by_cases c1 : ts.length = wl.length
      · have h3 := right_evt ts wl c1 (by omega) ts.length 0 (by omega) (by simp)
        have hj : Evt fun k => shamrockref24_Right.j0 k (ts.map bs) wl false = some (decide (((ts.map List.length).map fun l : Nat => (l : Int)) = wl)) := h3.succ (fun k hk => by
          simp only [shamrockref24_Right.j0]
          rw [if_neg (by decide)]
          exact hk)
        refine (ht.and hj).mono (fun k ⟨h1, h2⟩ => ?_)
        unfold shamrockref24_Right.f
        have e : (((ts.map bs).length : Int) != (wl.length : Int)) = false := by simp; omega
        rw [h1, Option.bind_some, if_neg (by omega), e, h2, hr]
        congr 1
        rw [decide_eq_decide]
        exact ⟨fun h => ⟨c0, h⟩, fun h => h.2⟩
      · refine (ht.and hf).mono (fun k ⟨h1, h2⟩ => ?_)
        unfold shamrockref24_Right.f
        have e : (((ts.map bs).length : Int) != (wl.length : Int)) = true := by simp; omega
        rw [h1, Option.bind_some, if_neg (by omega), e, h2, hr, decide_eq_false (fun h => c1 (by have := congrArg List.length h.2; simpa using this))]
  obtain ⟨k, hk⟩ := hev.some
  have h := shamrockref24_Right.calls k N T K E Rm size A c (rs.map toS) B d (ts.map bs) _ w (by rw [List.length_map, hl]; exact hR) (by rw [List.length_map, hl]; exact hc) (by rw [List.length_map, htl]; exact hT) (by rw [List.length_map, htl]; exact hd) hk
  rw [List.length_map, hl, List.length_map, htl] at h
  exact h
def SmallP (N n : Int) (rs : List Ri) (ts : List (List Int)) : Prop := rs.length ≤ 12 ∧ n ≤ 24 ∧ N ≤ 20 ∧ (∀ i, i < ts.length → i < 200 → (ts.getD i []).length ≤ 1000) ∧ ts.length ≤ 200
instance (N n : Int) (rs : List Ri) (ts : List (List Int)) : Decidable (SmallP N n rs ts) := by unfold SmallP; infer_instance
theorem small_j2f (k : Nat) (x N T K E Rm : Int) (rs : List S90) (ts : List (List Int)) : shamrocklaw24_small.j2 (k + 1) x false N T K E Rm rs ts = some (decide ((ts.length : Int) ≤ 200)) := by
  simp only [shamrocklaw24_small.j2]
  rw [if_neg (by decide)]
theorem small_j2t (k : Nat) (i : Nat) (N T K E Rm : Int) (rs : List S90) (ts : List (List Int)) (h : i < ts.length) (hl : 1000 < (ts.getD i []).length) : shamrocklaw24_small.j2 (k + 1) (i : Int) true N T K E Rm rs ts = some false := by
  have e : rd_L2 ts (i : Int) = ts.getD i [] := by unfold rd_L2; rw [Int.toNat_natCast]
  simp only [shamrocklaw24_small.j2]
  rw [if_pos trivial, if_pos (by omega), if_pos (by omega), e, if_pos (by omega)]
theorem small_evt (N T K E Rm n : Int) (rs : List Ri) (ts : List (List Int)) (h1 : rs.length ≤ 12) (h2 : n ≤ 24) (h3 : N ≤ 20) (hm : ts.length ≤ 9223372036854775807) (d : Nat) : ∀ i, i + d = ts.length + 1 → (∀ j, j < i → j < ts.length → j < 200 → (ts.getD j []).length ≤ 1000) →
    Evt fun k => shamrocklaw24_small.l0 k (i : Int) N T K E Rm (rs.map toS) ts = some (decide (SmallP N n rs ts)) := by
  induction d with
  | zero =>
    intro i hi hp
    refine ⟨2, fun k hk => ?_⟩
    obtain ⟨k, rfl⟩ : ∃ m, k = m + 2 := ⟨k - 2, by omega⟩
    simp only [shamrocklaw24_small.l0]
    rw [if_neg (by omega), small_j2f]
    congr 1
    rw [decide_eq_decide]
    exact ⟨fun h => ⟨h1, h2, h3, fun j hj hj2 => hp j (by omega) hj hj2, by omega⟩, fun h => by have := h.2.2.2.2; omega⟩
  | succ d ih =>
    intro i hi hp
    by_cases c0 : i < ts.length
    · by_cases c1 : i < 200
      · by_cases c2 : (ts.getD i []).length ≤ 1000
        · have hx := ih (i + 1) (by omega) (fun j hj hj1 hj2 => by
            rcases Nat.lt_or_ge j i with e | e
            · exact hp j e hj1 hj2
            · obtain rfl : j = i := by omega
              exact c2)
          refine (hx.succ (Q := fun k => shamrocklaw24_small.j2 k (i : Int) true N T K E Rm (rs.map toS) ts = some (decide (SmallP N n rs ts))) (fun k hk => ?_)).succ (fun k hk => ?_)
          · simp only [shamrocklaw24_small.j2]
            have e : rd_L2 ts (i : Int) = ts.getD i [] := by unfold rd_L2; rw [Int.toNat_natCast]
            rw [if_pos trivial, if_pos (by omega), if_pos (by omega), e, if_neg (by omega), wr_succ i (by omega)]
            exact hk
          · simp only [shamrocklaw24_small.l0]
            rw [if_pos (by omega), decide_eq_true (show (i : Int) < 200 by omega)]
            exact hk
        · refine ⟨2, fun k hk => ?_⟩
          obtain ⟨k, rfl⟩ : ∃ m, k = m + 2 := ⟨k - 2, by omega⟩
          simp only [shamrocklaw24_small.l0]
          rw [if_pos (by omega), decide_eq_true (show (i : Int) < 200 by omega), small_j2t k i _ _ _ _ _ _ _ c0 (by omega)]
          congr 1
          rw [eq_comm, decide_eq_false_iff_not]
          exact fun h => c2 (h.2.2.2.1 i c0 c1)
      · refine ⟨2, fun k hk => ?_⟩
        obtain ⟨k, rfl⟩ : ∃ m, k = m + 2 := ⟨k - 2, by omega⟩
        simp only [shamrocklaw24_small.l0]
        rw [if_pos (by omega), decide_eq_false (show ¬ (i : Int) < 200 by omega), small_j2f]
        congr 1
        rw [decide_eq_decide]
        exact ⟨fun h => by omega, fun h => by have := h.2.2.2.2; omega⟩
    · refine ⟨2, fun k hk => ?_⟩
      obtain ⟨k, rfl⟩ : ∃ m, k = m + 2 := ⟨k - 2, by omega⟩
      simp only [shamrocklaw24_small.l0]
      rw [if_neg (by omega), small_j2f]
      congr 1
      rw [decide_eq_decide]
      exact ⟨fun h => ⟨h1, h2, h3, fun j hj hj2 => hp j (by omega) hj hj2, by omega⟩, fun h => by have := h.2.2.2.2; omega⟩
def runV (N T K E Rm : Int) (A : Option Addr) (n c : Nat) (B : Option Addr) (m d : Nat) : Value := .agg #[.int .i64 N, .int .i64 T, .int .i64 K, .int .i64 E, .int .i64 Rm, .slice A n c, .slice B m d]
theorem small_any (w : World) (N T K E Rm k : Int) (A : Option Addr) (n c : Nat) (rs : List Ri) (hR : RL w A n rs) (hc : n ≤ c) (B : Option Addr) (m d : Nat) (ts : List (List Int)) (hT : Kd.C krow w B m ts) (hd : m ≤ d) (hm : m ≤ 9223372036854775807) :
    Calls Try.prog 70 #[runV N T K E Rm A n c B m d, .int .i64 k] w fun e w' => e = .returned (.bool (decide (SmallP N k rs ts))) ∧ Below w.heap.size w w' := by
  have hl := RL_len hR
  have htl : ts.length = m := Kd.C_len hT
  have hf : Evt fun q => shamrocklaw24_small.j0 q true N T K E Rm (rs.map toS) ts = some false := (Evt.all (P := fun _ => True) (fun _ => trivial)).succ (fun k _ => by simp only [shamrocklaw24_small.j0]; rw [if_pos trivial])
  have hev : Evt fun q => shamrocklaw24_small.f q N T K E Rm (rs.map toS) ts k = some (decide (SmallP N k rs ts)) := by
    by_cases c0 : ((rs.map toS).length : Int) > 12
    · refine hf.mono (fun q h => ?_)
      unfold shamrocklaw24_small.f
      rw [if_pos c0, h, decide_eq_false (fun h => by have := h.1; rw [List.length_map] at c0; omega)]
    · by_cases c1 : k > 24
      · refine hf.mono (fun q h => ?_)
        unfold shamrocklaw24_small.f
        rw [if_neg c0, if_pos c1, h, decide_eq_false (fun h => by have := h.2.1; omega)]
      · by_cases c2 : N > 20
        · refine hf.mono (fun q h => ?_)
          unfold shamrocklaw24_small.f
          rw [if_neg c0, if_neg c1, decide_eq_true c2, h, decide_eq_false (fun h => by have := h.2.2.1; omega)]
        · have h0 := small_evt N T K E Rm k rs ts (by rw [List.length_map] at c0; omega) (by omega) (by omega) (by omega) (ts.length + 1) 0 (by omega) (fun j hj => by omega)
          refine (h0.succ (Q := fun q => shamrocklaw24_small.j0 q false N T K E Rm (rs.map toS) ts = some (decide (SmallP N k rs ts))) (fun q hq => ?_)).mono (fun q h => ?_)
          · simp only [shamrocklaw24_small.j0]
            rw [if_neg (by decide)]
            exact hq
          · unfold shamrocklaw24_small.f
            rw [if_neg c0, if_neg c1, decide_eq_false c2, h]
  obtain ⟨q, hq⟩ := hev.some
  have h := shamrocklaw24_small.calls q N T K E Rm A c (rs.map toS) B d ts k _ w (by rw [List.length_map, hl]; exact hR) (by rw [List.length_map, hl]; exact hc) (by rw [htl]; exact hT) (by rw [htl]; exact hd) hq
  rw [List.length_map, hl, htl] at h
  exact h
end Go.Proofs.Ytpeiejkcoadhfaa
namespace Go.Proofs.Ytpeiejkcoadhfaa
open Go.RowKit Go.Shelf Go.Proofs.YtpeiejkcoadhfaaW.PrintWords Go.Proofs.YtpeiejkcoadhfaaW.PrintMore Go.Proofs.Ytpeiejkcoadhfaa.PViewEmpty
open Go.BigFrame
def f90 (x : S90) : Int × Int × List Int × List Int := (x.f0, x.f1, x.f2, x.f3)
def g90 (x : Int × Int × List Int × List Int) : S90 := ⟨x.1, x.2.1, x.2.2.1, x.2.2.2⟩
def wfR (x : Int × Int × List Int × List Int) : Prop := wfI x.1 ∧ wfI x.2.1 ∧ (∀ a ∈ x.2.2.1, wfI a) ∧ ∀ a ∈ x.2.2.2, wfI a
def muI (l : List Int) : Nat := (l.map fun _ => 1).sum + 1
def muR (x : Int × Int × List Int × List Int) : Nat := 1 + (1 + (muI x.2.2.1 + muI x.2.2.2))
theorem opens_round : Opens Try.prog k90 90 (fun b => wfR (f90 b)) (fun b => muR (f90 b) + 1) :=
  opens_struct 90 _ Try.underlying90 (by kernel_rfl) (opensF_cons _ _ 0 rfl opens_i64 (opensF_cons _ _ 1 rfl opens_i64 (opensF_cons _ _ 2 rfl opens_ints (opensF_one _ 3 rfl opens_ints)))) f90 g90 (fun _ => rfl)
theorem opens_rounds : Opens Try.prog (Kd.slice 90 k90) 75 (fun l => ∀ b ∈ l, wfR (f90 b)) (fun l => (l.map fun b => muR (f90 b) + 1).sum + 1) := opens_slice 75 Try.underlying75 (by kernel_rfl) opens_round
abbrev RunT : Type := Par × List S90 × List (List Int)
abbrev krun : Kd RunT := Kd.iso (Kd.pair kpar (Kd.pair (Kd.slice 90 k90) (Kd.slice 36 u8s))) id
def wfRun (r : RunT) : Prop := wfPar r.1 ∧ (∀ b ∈ r.2.1, wfR (f90 b)) ∧ ∀ l ∈ r.2.2, ∀ a ∈ l, (Lit.int .u8 a).wf = true
def muRun (r : RunT) : Nat := (1 + (1 + (1 + (1 + 1))) + 1) + (((r.2.1.map fun b => muR (f90 b) + 1).sum + 1) + ((r.2.2.map fun l => (l.map fun _ => 1).sum + 1).sum + 1))
theorem opens_run : Opens Try.prog krun 77 wfRun (fun b => muRun b + 1) :=
  opens_struct 77 _ Try.underlying77 (by kernel_rfl) (opensF_cons _ _ 0 rfl opens_params (opensF_cons _ _ 5 rfl opens_rounds (opensF_one _ 6 rfl opens_rows))) id id (fun _ => rfl)
theorem run_cs {w : World} {r : RunT} {cs : Array Value} (h : krun.K w r cs.toList) : ∃ A c B d, Value.agg cs = runV r.1.1 r.1.2.1 r.1.2.2.1 r.1.2.2.2.1 r.1.2.2.2.2 A r.2.1.length c B r.2.2.length d ∧ r.2.1.length ≤ c ∧ Kd.C k90 w A r.2.1.length r.2.1 ∧ r.2.2.length ≤ d ∧ Kd.C u8s w B r.2.2.length r.2.2 := by
  obtain ⟨⟨N, T, K, E, Rm⟩, rs, ts⟩ := r
  obtain ⟨l1, r1, e1, ⟨m1, n1, f1, g1, m2, n2, f2, g2, m3, n3, f3, g3, m4, n4, f4, g4, g5⟩, l2, r2, e2, ⟨A, c, rfl, hc, hC⟩, ⟨B, d, rfl, hd, hD⟩⟩ := h
  have e : cs.toList = [.int .i64 N, .int .i64 T, .int .i64 K, .int .i64 E, .int .i64 Rm, .slice A rs.length c, .slice B ts.length d] := by
    rw [e1, f1, f2, f3, f4, e2, show m1 = [.int .i64 N] from g1, show m2 = [.int .i64 T] from g2, show m3 = [.int .i64 K] from g3, show m4 = [.int .i64 E] from g4, show n4 = [.int .i64 Rm] from g5]
    rfl
  refine ⟨A, c, B, d, ?_, hc, hC, hd, hD⟩
  have : cs = #[.int .i64 N, .int .i64 T, .int .i64 K, .int .i64 E, .int .i64 Rm, .slice A rs.length c, .slice B ts.length d] := by rw [← Array.toArray_toList (xs := cs), e]
  rw [this]; rfl
theorem rows_F (l : List (List Int)) (h : ∀ r ∈ l, ∀ a ∈ r, (Lit.int .u8 a).wf = true) : ∃ p : List (List F), p.map bs = l := by
  induction l with
  | nil => exact ⟨[], rfl⟩
  | cons a l ih =>
    obtain ⟨p, hp⟩ := ih (fun b hb => h b (List.mem_cons_of_mem _ hb))
    obtain ⟨q, hq⟩ := bytes_F a (h a (List.mem_cons_self ..))
    exact ⟨q :: p, by rw [List.map_cons, hq, hp]⟩
theorem PL_u8s {w : World} {B : Option Addr} {m : Nat} {ts : List (List F)} (h : Kd.C u8s w B m (ts.map bs)) : PL w B m ts := by
  have hl : ts.length = m := by have := Kd.C_len h; rwa [List.length_map] at this
  have hg : ∀ i, i < m → (ts.map bs).getD i [] = bs (ts.getD i []) := fun i hi => by
    rw [List.getD_eq_getElem?_getD, List.getD_eq_getElem?_getD, List.getElem?_map, List.getElem?_eq_getElem (by omega)]
    rfl
  obtain ⟨hs, h1, h2⟩ := listOf m (fun i (x : Hd) => x.2.1 = (ts.getD i []).length ∧ x.2.1 ≤ x.2.2 ∧ Kd.C fk w x.1 (ts.getD i []).length (ts.getD i []) ∧ ∃ ad, B = some ad ∧ w.cell? (ad.add i) = some (encHd x)) (fun i hi => by
    obtain ⟨ad, A0, c0, e, k1, k2, k3⟩ := row_at h i hi
    rw [hg i hi, bs_length] at k1 k2 k3
    exact ⟨(A0, _, c0), rfl, k2, C_bs.1 k3, ad, e, k1⟩)
  have h3 : ∀ i, i < m → (hs.getD i hd0).2.1 = (ts.getD i []).length ∧ (hs.getD i hd0).2.1 ≤ (hs.getD i hd0).2.2 ∧ Kd.C fk w (hs.getD i hd0).1 (ts.getD i []).length (ts.getD i []) ∧ ∃ ad, B = some ad ∧ w.cell? (ad.add i) = some (encHd (hs.getD i hd0)) := fun i hi => h2 i _ (by rw [List.getD_eq_getElem?_getD, List.getElem?_eq_getElem (by omega)]; rfl)
  refine ⟨hs, ?_, hl, fun i hi => ⟨(h3 i hi).1, (h3 i hi).2.1, (h3 i hi).2.2.1⟩⟩
  refine Kd.C_of_reads (enc := encHd) (h1 := fun _ => rfl) (d := hd0) ⟨h1, h.2.1, fun hm => ?_⟩
  obtain ⟨_, _, _, ad, e, _⟩ := h3 0 hm
  refine ⟨ad, e, fun j hj => ?_⟩
  obtain ⟨_, _, _, ad', e', hc⟩ := h3 j hj
  rw [e] at e'
  injection e' with e'
  subst e'
  exact hc
theorem wf_i64 {x : Int} (h : wfI x) : -9223372036854775808 ≤ x ∧ x ≤ 9223372036854775807 := by
  unfold wfI at h
  simp [Lit.wf, IntKind.min, IntKind.max, IntKind.signed, IntKind.bits] at h
  omega
theorem run_open {w : World} {x : RunT} {cs : Array Value} (hK : krun.K w x cs.toList) (hw : wfRun x) : ∃ (N T K E Rm : Int) (A : Option Addr) (nr c : Nat) (B : Option Addr) (m d : Nat) (rs : List Ri) (ts : List (List F)), Value.agg cs = runV N T K E Rm A nr c B m d ∧ (-9223372036854775808 ≤ N ∧ N ≤ 9223372036854775807) ∧ RL w A nr rs ∧ nr ≤ c ∧ nr ≤ 9223372036854775807 ∧
    (∀ r ∈ rs, r.ds.length ≤ 9223372036854775807 ∧ r.sn.length ≤ 9223372036854775807) ∧ Kd.C krow w B m (ts.map bs) ∧ m ≤ d ∧ PL w B m ts ∧ m ≤ 9223372036854775807 := by
  obtain ⟨A, c, B, d, e, hc, hC, hd, hD⟩ := run_cs hK
  obtain ⟨ts, hts⟩ := rows_F x.2.2 hw.2.2
  rw [← hts] at hD hd e
  rw [List.length_map] at hD hd e
  have hR : RL w A x.2.1.length (x.2.1.map ofS) := by
    unfold RL
    rw [toS_ofS]
    exact hC
  refine ⟨_, _, _, _, _, A, _, c, B, _, d, x.2.1.map ofS, ts, e, wf_i64 hw.1.1, hR, hc, hC.2.1, fun r hr => ?_, hD, hd, PL_u8s hD, hD.2.1⟩
  obtain ⟨i, hi, rfl⟩ := List.getElem_of_mem hr
  obtain ⟨r, ad, D, S, nd, cd, ns, cs', hr', _, _, _, _, _, l1, _, k1, l2, _, k2⟩ := RL_at hR i (by rw [List.length_map] at hi; exact hi)
  rw [List.getD_eq_getElem?_getD, List.getElem?_eq_getElem hi] at hr'
  have hr2 : r = (x.2.1.map ofS)[i] := hr'
  rw [← hr2, l1, l2]
  exact ⟨k1.2.1, k2.2.1⟩
end Go.Proofs.Ytpeiejkcoadhfaa
