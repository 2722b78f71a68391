/- The law DealNothing: the plain part, and Through's row as one's own. -/
import Derived.Test.YtpeiejkcoadhfaaDlF
set_option linter.all false
namespace Go.Proofs.Ytpeiejkcoadhfaa
open Go.RowKit Go.Shelf Go.Proofs.YtpeiejkcoadhfaaW.PrintWords Go.Proofs.YtpeiejkcoadhfaaW.PrintMore
open Go.BigFrame
attribute [local go_sem] Oper.semAt_some

/-- Values of a function at holders' points. -/
def funL (f : F → F) (fr i : Nat) : List F := (List.range i).map fun t => f (ptF (fr + t))
theorem funL_length (f : F → F) (fr i : Nat) : (funL f fr i).length = i := by simp [funL]
theorem funL_snoc (f : F → F) (fr i : Nat) : funL f fr (i + 1) = funL f fr i ++ [f (ptF (fr + i))] := by simp [funL, List.range_succ]
/-- Rows, one behind the other. -/
def catL (g : Nat → List F) : Nat → List F
  | 0 => []
  | n + 1 => catL g n ++ g n
theorem catL_length (g : Nat → List F) (T : Nat) : ∀ n, (∀ j, j < n → (g j).length = T) → (catL g n).length = n * T
  | 0, _ => by simp [catL]
  | n + 1, h => by rw [catL, List.length_append, catL_length g T n (fun j hj => h j (by omega)), h n (by omega), Nat.succ_mul]
theorem catL_piece (g : Nat → List F) (T : Nat) : ∀ n, (∀ j, j < n → (g j).length = T) → ∀ j, j < n → pieceL (catL g n) T j = g j
  | 0, _, j, hj => absurd hj (by omega)
  | n + 1, h, j, hj => by
    have hl := catL_length g T n (fun j hj => h j (by omega))
    unfold pieceL
    rw [catL]
    by_cases e : j = n
    · subst e
      rw [List.drop_append_of_le_length (by omega), List.drop_of_length_le (by omega), List.nil_append, List.take_of_length_le (by rw [h j (by omega)]; exact Nat.le_refl _)]
    · have h1 : j * T + T ≤ n * T := by
        rw [← Nat.succ_mul]; exact Nat.mul_le_mul_right T (by omega)
      rw [List.drop_append_of_le_length (by omega), List.take_append_of_le_length (by rw [List.length_drop]; omega)]
      exact catL_piece g T n (fun j hj => h j (by omega)) j (by omega)
/-- A row padded with noughts. -/
def padL (q : List F) (T : Nat) : List F := q ++ List.replicate (T - q.length) 0
theorem padL_length (q : List F) (T : Nat) (h : q.length ≤ T) : (padL q T).length = T := by
  unfold padL; rw [List.length_append, List.length_replicate]; omega
theorem ev_pad (q : List F) (T : Nat) (x : F) : ev (padL q T) x = ev q x := by
  refine ev_eqv _ _ (fun i => ?_) x
  unfold padL cf
  rw [List.getD_eq_getElem?_getD, List.getD_eq_getElem?_getD]
  by_cases h : i < q.length
  · rw [List.getElem?_append_left h]
  · rw [List.getElem?_append_right (by omega), List.getElem?_replicate, List.getElem?_eq_none (show q.length ≤ i by omega)]
    split <;> rfl
theorem padL_snoc (q : List F) (k : Nat) : q ++ List.replicate (k + 1) 0 = (q ++ List.replicate k 0) ++ [(0 : F)] := by
  rw [List.replicate_succ', List.append_assoc]
/-- The random part that makes one column's share look like another's. -/
noncomputable def noF (N T K : Nat) (data rnd other : List F) (j : Nat) (x : F) : F := (ev (colP N T K data rnd j) x + ev (thruP (secL N K) (colF other K j)) x) * (ev (roots (secL N K)) x).inv
noncomputable def noQ (N T K fr : Nat) (data rnd other : List F) (j : Nat) : List F := thruP (ptsL fr T) (funL (noF N T K data rnd other j) fr T)
noncomputable def noL (N T K fr : Nat) (data rnd other : List F) (n : Nat) : List F := catL (fun j => padL (noQ N T K fr data rnd other j) T) n
theorem noQ_len (N T K fr : Nat) (data rnd other : List F) (j : Nat) : (noQ N T K fr data rnd other j).length ≤ T := by
  have h := thruP_len (ptsL fr T) (funL (noF N T K data rnd other j) fr T)
  rw [ptsL_length] at h
  exact h
theorem noL_length (N T K fr : Nat) (data rnd other : List F) (n : Nat) : (noL N T K fr data rnd other n).length = n * T := catL_length _ T n (fun j _ => padL_length _ _ (noQ_len N T K fr data rnd other j))
theorem noL_snoc (N T K fr : Nat) (data rnd other : List F) (n : Nat) : noL N T K fr data rnd other (n + 1) = noL N T K fr data rnd other n ++ padL (noQ N T K fr data rnd other n) T := rfl
theorem sec_ne (N K h : Nat) (hh : h < N) (hNK : N + K ≤ 255) : ev (roots (secL N K)) (ptF h) ≠ 0 := fun e => by
  have h1 := (ev_roots _ _).1 e
  unfold secL at h1
  obtain ⟨i, hi, e2⟩ := List.mem_map.1 h1
  have := ptF_inj (by have := List.mem_range.1 hi; omega) (by omega) e2
  omega
theorem no_col (N T K fr : Nat) (data rnd other : List F) (nc j i : Nat) (hj : j < nc) (hi : i < T) (hf : fr + T ≤ N) (hNK : N + K ≤ 255) :
    ev (colP N T K other (noL N T K fr data rnd other nc) j) (ptF (fr + i)) = ev (colP N T K data rnd j) (ptF (fr + i)) := by
  have hp : pieceL (noL N T K fr data rnd other nc) T j = padL (noQ N T K fr data rnd other j) T := catL_piece _ T nc (fun j _ => padL_length _ _ (noQ_len N T K fr data rnd other j)) j hj
  have hth := (thruP_spec (ys := funL (noF N T K data rnd other j) fr T) (ptsL_unl fr T (by omega))).2.2 i (by rw [ptsL_length]; exact hi)
  rw [show (ptsL fr T).getD i 0 = ptF (fr + i) from getD_range _ _ _ _ hi, show (funL (noF N T K data rnd other j) fr T).getD i 0 = noF N T K data rnd other j (ptF (fr + i)) from getD_range _ _ _ _ hi] at hth
  have hne := sec_ne N K (fr + i) (by omega) hNK
  rw [show ev (colP N T K other (noL N T K fr data rnd other nc) j) (ptF (fr + i)) = ev (thruP (secL N K) (colF other K j)) (ptF (fr + i)) + ev (roots (secL N K)) (ptF (fr + i)) * ev (pieceL (noL N T K fr data rnd other nc) T j) (ptF (fr + i)) from by
    unfold colP
    rw [ev_trim, ev_add, ev_trim, ev_mul]]
  rw [hp, ev_pad, show ev (noQ N T K fr data rnd other j) (ptF (fr + i)) = _ from hth]
  unfold noF
  obtain ⟨z, hz⟩ : ∃ z, z = ev (roots (secL N K)) (ptF (fr + i)) := ⟨_, rfl⟩
  obtain ⟨p, hp⟩ : ∃ p, p = ev (thruP (secL N K) (colF other K j)) (ptF (fr + i)) := ⟨_, rfl⟩
  obtain ⟨s, hs⟩ : ∃ s, s = ev (colP N T K data rnd j) (ptF (fr + i)) := ⟨_, rfl⟩
  rw [← hz, ← hp, ← hs]
  rw [← hz] at hne
  rw [F.mul_comm (s + p), ← F.mul_assoc, F.mul_inv z hne, F.one_mul, F.add_comm s p, ← F.add_assoc, F.add_self, F.zero_add]
theorem no_row (N T K fr : Nat) (data rnd other : List F) (hlen : other.length = data.length) (nc : Nat) (hnc : nc = ncol data.length K) (h : Nat) (h1 : fr ≤ h) (h2 : h < fr + T) (hf : fr + T ≤ N) (hNK : N + K ≤ 255) :
    (sharesL N (polysL N T K other (noL N T K fr data rnd other nc))).getD h [] = (sharesL N (polysL N T K data rnd)).getD h [] := by
  obtain ⟨i, rfl⟩ : ∃ i, h = fr + i := ⟨h - fr, by omega⟩
  rw [share_row _ _ _ (by omega), share_row _ _ _ (by omega)]
  unfold polysL
  rw [row_map, row_map, hlen, ← hnc]
  refine List.map_congr_left (fun j hj => ?_)
  exact no_col N T K fr data rnd other nc j i (List.mem_range.1 hj) (by omega) hf hNK

set_option maxRecDepth 100000 in
set_option maxHeartbeats 1600000 in
theorem RThrough_own (w : World) (A B : Option Addr) (n c d : Nat) (xs ys : List F) (hx : Kd.C fk w A n xs) (hy : Kd.C fk w B n ys) (hc : n ≤ c) (hl : n ≤ 1000) (hu : Unl xs) :
    Calls Try.prog 55 #[.slice A n c, .slice B n d] w fun e w' => ∃ D cd s, e = .returned (.slice D s.length cd) ∧ Kd.R fk 5 w' w.heap.size (fun _ => True) (.slice D s.length cd) s ∧ Thru xs ys s ∧ Below w.heap.size w w' := by
  obtain rfl : xs.length = n := Kd.C_len hx
  have HX := Aside0.mk hx
  have HY := Aside0.mk hy
  have HU := Aside0.mk hu
  clear hx hy hu
  go_enter Try.func55, Try.ntmps55
  go_wp2
  go_loopw [5, 6] (fun v5 v6 wr => ∃ (k dd : Nat) (D : Option Addr) (s : List F), k ≤ xs.length ∧ v6 = .int .i64 (k : Int) ∧ v5 = .slice D s.length dd ∧ s.length ≤ dd ∧ Aside0 (Kd.C fk wr D s.length s) ∧ Aside0 (ThruTo xs ys s k) ∧ Aside0 (Below w.heap.size w wr)) (fun _ v6 _ => xs.length - (intOf v6).toNat)
  case atStart => exact ⟨0, 0, none, [], by omega, rfl, rfl, by simp, ⟨Kd.C_nil _ _⟩, ⟨thru_start xs ys⟩, ⟨Below.refl _ _⟩⟩
  case round =>
    obtain ⟨k, dd, D, s, hk, rfl, rfl, hdd, HR, HT, HB⟩ := hrel
    by_cases hlt : k < xs.length
    · obtain ⟨i5, hi5, _, hs5, _⟩ := info_parts info5
      have kt := to_run (P := Try.prog) 36 5 Try.underlying36 hi5 A xs.length c k hk hc
      have kf := from_run (P := Try.prog) 36 5 Try.underlying36 hi5 hs5 A xs.length c (k + 1) (by omega)
      have hXr := Kd.C_below HX.out HB.out
      have hYr := Kd.C_below HY.out HB.out
      have hkl : k + (xs.length - (k + 1)) ≤ 1000000 := by omega
      obtain ⟨B1, d1, W1, hrun1, B2, d2, W2, hrun2, hO, hb2⟩ := R_two wr.drew wr (below_drew (Below.refl _ _)) A (cutA A c (k + 1)) k (xs.length - (k + 1)) c (c - (k + 1)) (xs.take k) (xs.drop (k + 1)) (Kd.C_below (to_C (0 : F) k hXr hk) (below_drew (Below.refl _ _))) (Kd.C_below (from_C (0 : F) c (k + 1) hXr (by omega) hc) (below_drew (Below.refl _ _))) hkl
      have HR1 := Aside0.mk hrun1
      have HR2 := Aside0.mk hrun2
      have HO := Aside0.mk hO
      have HB2 := Aside0.mk hb2
      have hwr : IntKind.i64.wrap ((k : Int) + 1) = (k : Int) + 1 := IntWalk.i64_in _ ⟨by omega, by omega⟩
      rw [show ((k + 1 : Nat) : Int) = (k : Int) + 1 from rfl] at kf
      clear hrun1 hrun2 hO hb2 hXr hYr hi5 hs5 hkl
      go_wp2
      go_region_law (first | refine step_append_run rfl _ _ _ _ rfl rfl rfl HR1.out ?_ | refine step_append_run rfl _ _ _ _ rfl rfl rfl HR2.out ?_)
      clear HR1 HR2 kt kf hwr
      have hbas := basis_others HU.out hlt
      have hlen : k + (xs.length - (k + 1)) + 1 = xs.length := by omega
      obtain ⟨os, hos⟩ : ∃ os, os = xs.take k ++ xs.drop (k + 1) := ⟨_, rfl⟩
      rw [← hos] at HO hbas
      obtain ⟨ol, hol⟩ : ∃ ol, ol = k + (xs.length - (k + 1)) := ⟨_, rfl⟩
      rw [← hol] at HO hlen ⊢
      have HRT := Aside0.mk (RRoots_any W2 B2 ol d2 os (R_C HO.out) (by omega))
      have HBA := Aside0.mk hbas
      have HLN := Aside0.mk hlen
      have holl : ol ≤ 1000 := by omega
      clear hos hol hbas hlen
      go_wp2_with (go_at_call 57; with_reducible refine HRT.out.mono ?_; rintro e W3 ⟨D3, d3, rfl, hd3, hC3, hb3⟩; replace hC3 := Aside0.mk hC3; replace hb3 := Aside0.mk hb3)
      have hbW3 : Below w.heap.size w W3 := HB.out.trans ((HB2.out.trans (hb3.out.mono HB2.out.size)).mono HB.out.size)
      obtain ⟨adA, rfl, hca⟩ := C_at HX.out (Fr.of_below hbW3 (fun _ => False)) (fun _ h => h.elim) k hlt
      obtain ⟨adB, rfl, hcb⟩ := C_at HY.out (Fr.of_below hbW3 (fun _ => False)) (fun _ h => h.elim) k hlt
      obtain ⟨x, hxe⟩ : ∃ x, x = xs.getD k 0 := ⟨_, rfl⟩
      obtain ⟨y, hye⟩ : ∃ y, y = ys.getD k 0 := ⟨_, rfl⟩
      have hne := HBA.out.2.2
      rw [← hxe] at hca hne
      rw [← hye] at hcb
      obtain ⟨v, hv⟩ : ∃ v, v = ev (roots os) x := ⟨_, rfl⟩
      have HE := Aside0.mk (fun t => REval_any (W3.drewN t) D3 (ol + 1) d3 (roots os) x (C_drewN hC3.out t) (by omega))
      rw [← hv] at HE hne
      have HI := Aside0.mk (fun t => RInvF (W3.drewN t) v hne)
      have HM := Aside0.mk (fun t => RMulF (W3.drewN t) y v.inv)
      obtain ⟨c1, hc1⟩ : ∃ c1, c1 = y * v.inv := ⟨_, rfl⟩
      rw [← hc1] at HM
      have HST : Aside0 (Eqv (mulP (roots os) [c1]) (mulP (roots os) [ys.getD k 0 * (ev (roots os) (xs.getD k 0)).inv])) := ⟨by rw [← hxe, ← hye, ← hv, ← hc1]; exact Eqv.refl _⟩
      have HBW3 := Aside0.mk hbW3
      clear hxe hye hv hc1 hbW3 hne HRT
      go_wp2
      refine wp_region_drawn_tail 12 (by kernel_rfl) (by kernel_rfl) ?_
      simp only [List.take_succ_cons, List.take_zero, List.drop_succ_cons, List.drop_zero]
      repeat (first | go_big_quiet_skip | (go_big_quiet_want; go_big_quiet_op; first | go_big_quiet_on | (apply Exists.intro; refine ⟨fun t => ?_, ?_⟩; (first | (go_at_call 56; with_reducible exact quiet_drawn (HE.out t)) | (go_at_call 35; with_reducible exact quiet_drawn (HI.out t)) | (go_at_call 34; with_reducible exact quiet_drawn (HM.out t))); go_big_quiet_on)))
      refine wpQuiet_nil ?_
      rintro _ ⟨t, rfl⟩
      clear HE HI HM
      obtain ⟨V, hV⟩ : ∃ V, V = W3.drewN t := ⟨_, rfl⟩
      have hb3V : Below W3.heap.size W3 V := by rw [hV]; exact pw_below_drewN (Below.refl _ _) t
      have hbV : Below w.heap.size w V := HBW3.out.trans (hb3V.mono HBW3.out.size)
      have hbl : Below V.heap.size V (V.alloc (.cells #[.int .u8 c1.v] 5)) := below_alloc (Below.refl _ _) _
      have hlit : Kd.C fk (V.alloc (.cells #[.int .u8 c1.v] 5)) (some ⟨V.heap.size, 0, none⟩) 1 [c1] := R_C (R_litF V V.heap.size (fun _ => True) [c1] (by simp) (Nat.le_refl _) trivial)
      have HT1 := Aside0.mk (RTimes_any (V.alloc (.cells #[.int .u8 c1.v] 5)) D3 (some ⟨V.heap.size, 0, none⟩) (ol + 1) 1 d3 1 (roots os) [c1] (Kd.C_below (Kd.C_below hC3.out hb3V) hbl) hlit (by omega))
      have hbrV : Below wr.heap.size wr V := (HB2.out.trans (hb3.out.mono HB2.out.size)).trans (hb3V.mono (Nat.le_trans HB2.out.size hb3.out.size))
      have hRV := Kd.C_below HR.out hbrV
      obtain ⟨q, hq⟩ : ∃ q, q = trimP (mulP (roots os) [c1]) := ⟨_, rfl⟩
      have hql : q.length ≤ 1000 + 2 := by
        have h1 := roots_length os
        have h2 := Kd.C_len (R_C HO.out)
        have h3 : (trimP (mulP (roots os) [c1])).length ≤ ol + 1 + 1 := trim_le (fun i hi => cf_mul_ge (roots os) [c1] (ol + 1) 1 (fun j hj => cf_ge _ _ (by omega)) (fun j hj => cf_ge _ _ (by simpa using hj)) i (by omega) (by omega))
        rw [hq]; omega
      have hsl : s.length ≤ 1000 := Nat.le_trans HT.out.2.1 hl
      have HNX := Aside0.mk (thru_step HT.out hlt HBA.out (show Eqv q _ from by rw [hq]; exact (cf_trim _).trans HST.out))
      rw [← hq] at HT1
      have HA1 : Aside0 (∀ D4 d4 W4, Kd.C fk W4 D4 q.length q → Below (V.alloc (.cells #[.int .u8 c1.v] 5)).heap.size (V.alloc (.cells #[.int .u8 c1.v] 5)) W4 → Calls Try.prog 90 #[.slice D s.length dd, .slice D4 q.length d4] W4 fun e w' => ∃ D5 cd, e = .returned (.slice D5 (trimP (addP s q)).length cd) ∧ Kd.R fk 5 w' W4.heap.size (fun _ => True) (.slice D5 (trimP (addP s q)).length cd) (trimP (addP s q)) ∧ Below w.heap.size w w') := ⟨fun D4 d4 W4 h4 hb4 => by
        have hbVW : Below V.heap.size V W4 := hbl.trans (hb4.mono hbl.size)
        refine (RAdd_any W4 D D4 s.length q.length dd d4 s q (Kd.C_below hRV hbVW) h4 (by omega) (by omega)).mono ?_
        rintro e W5 ⟨D5, cd, he, hR5, hb5⟩
        have hbw4 := hbV.trans (hbVW.mono hbV.size)
        exact ⟨D5, cd, he, hR5, hbw4.trans (hb5.mono hbw4.size)⟩⟩
      obtain ⟨r, hr⟩ : ∃ r, r = trimP (addP s q) := ⟨_, rfl⟩
      rw [← hr] at HA1 HNX
      rw [← hV]
      clear hr hq hV hb3V hbV hbl hlit hRV hbrV
      go_wp2_with (first | (go_at_call 91; with_reducible refine HT1.out.mono ?_; rintro e W4 ⟨D4, d4, rfl, hR4, hb4⟩; have HA2 := Aside0.mk (HA1.out D4 d4 W4 (R_C hR4) hb4); clear hR4 hb4) | (go_at_call 90; with_reducible refine HA2.out.mono ?_; rintro e W5 ⟨D5, d5, rfl, hR5, hb5⟩; replace hR5 := Aside0.mk hR5; replace hb5 := Aside0.mk hb5))
      go_roundw
      case rel => exact ⟨k + 1, d5, D5, r, by omega, by go_num, rfl, R_cap hR5.out, ⟨R_C hR5.out⟩, HNX, hb5⟩
      case measure => simp [intOf]; omega
    · obtain rfl : k = xs.length := by omega
      have HTT := Aside0.mk (RTrim_any wr D s.length dd s HR.out hdd (by have := HT.out.2.1; omega))
      rw [HT.out.1] at HTT
      go_wp2_with (go_at_call 92; with_reducible refine HTT.out.mono ?_; rintro e W1 ⟨D1, d1, rfl, hR1, hb1⟩)
      go_ret
      exact ⟨D1, d1, s, rfl, Kd.R_lower hR1 HB.out.size, thru_end HT.out rfl, HB.out.trans (hb1.mono HB.out.size)⟩
end Go.Proofs.Ytpeiejkcoadhfaa
