/- The reference's columns; the law's comparison. -/
import Derived.Test.YtpeiejkcoadhfaaSt5
import Derived.Test.YtpeiejkcoadhfaaPDealSecretx1
namespace Go.Proofs.Ytpeiejkcoadhfaa
open Go.RowKit Go.Shelf Go.Proofs.YtpeiejkcoadhfaaW.PrintWords Go.Proofs.YtpeiejkcoadhfaaW.PrintMore

theorem wr64 (x : Int) (h0 : 0 ≤ x) (h : x ≤ 9223372036854775807) : wrap64 x = x := by
  unfold wrap64
  omega
theorem wr_add (a b : Nat) (h : a + b ≤ 9223372036854775807) : wrap64 ((a : Int) + (b : Int)) = ((a + b : Nat) : Int) := by
  rw [wr64 _ (by omega) (by omega)]; omega
theorem wr_succ (a : Nat) (h : a + 1 ≤ 9223372036854775807) : wrap64 ((a : Int) + 1) = ((a + 1 : Nat) : Int) := by
  rw [wr64 _ (by omega) (by omega)]; omega
section
open PDealSecret
theorem rsplit_in (xs ys col : List Int) (k p p' n : Nat) (hk2 : k ≤ 255) (hn : xs.length = n) (hl : n ≤ 1099511627776) (out : List (List Int)) (ho : out.length < 5864062014805) (r : List (List Int)) (hp' : p' = p + k) (hpl : p < n)
    (hr : Ev (fun q => shamrockref06_Split.l0 q xs (k : Int) (out ++ [col]) (p' : Int)) r)
    (hcol : col = ys.take ys.length ++ List.replicate (k - ys.length) 0) (h1 : ys.length ≤ k) (h2 : ys.length < k → p + ys.length = n) (h3 : p + ys.length ≤ n)
    (hrd : ∀ i, i < ys.length → rd xs ((p + i : Nat) : Int) = ys.getD i 0) (d : Nat) :
    ∀ i, i ≤ ys.length → ys.length - i = d →
      Ev (fun q => shamrockref06_Split.l1 q xs (k : Int) out (p : Int) (ys.take i ++ List.replicate (k - i) 0) (i : Int)) r := by
  have hnext : Aside0 (wrap64 ((p : Int) + (k : Int)) = (p' : Int)) := ⟨by rw [hp']; exact wr_add p k (by omega)⟩
  induction d with
  | zero =>
    intro i hi hd
    obtain rfl : i = ys.length := by omega
    rw [← hcol]
    refine Ev.step (f := fun q => shamrockref06_Split.l0 q xs (k : Int) (out ++ [col]) (p' : Int)) (fun q => ?_) hr
    simp only [shamrockref06_Split.l1]
    generalize ys.length = m at *
    by_cases h : m < k
    · have h4 := h2 h
      rw [if_pos (by omega), wr_add p m (by omega), if_neg (by omega), if_pos ho, hnext.out]
    · rw [if_neg (by omega), if_pos ho, hnext.out]
  | succ d ih =>
    intro i hi hd
    have hset : (ys.take i ++ List.replicate (k - i) (0 : Int)).set i (ys.getD i 0) = ys.take (i + 1) ++ List.replicate (k - (i + 1)) 0 := by
      rw [List.set_append_right _ _ (by rw [List.length_take]; omega), List.length_take, Nat.min_eq_left hi, Nat.sub_self]
      obtain ⟨m, hm⟩ : ∃ m, k - i = m + 1 := ⟨k - i - 1, by omega⟩
      have hlt : i < ys.length := by omega
      rw [hm, List.replicate_succ, List.set_cons_zero, List.take_succ_eq_append_getElem hlt, show k - (i + 1) = m by omega, List.getD_eq_getElem?_getD, List.getElem?_eq_getElem hlt, List.append_assoc]
      rfl
    have hlen : (ys.take i ++ List.replicate (k - i) (0 : Int)).length = k := by rw [List.length_append, List.length_replicate, List.length_take]; omega
    refine Ev.step (f := fun q => shamrockref06_Split.l1 q xs (k : Int) out (p : Int) (ys.take (i + 1) ++ List.replicate (k - (i + 1)) 0) ((i + 1 : Nat) : Int)) (fun q => ?_) (ih (i + 1) (by omega) (by omega))
    have hilt : i < ys.length := by omega
    have hrd1 := hrd i hilt
    clear ih hr hrd hcol ho
    rw [← hset]
    generalize ys.take i ++ List.replicate (k - i) (0 : Int) = cur at *
    generalize ys.getD i 0 = y at *
    generalize ys.length = m at *
    clear hset
    have HRD := Aside0.mk hrd1
    clear hrd1
    simp only [shamrockref06_Split.l1]
    rw [if_pos (by omega), wr_add p i (by omega), if_pos (by omega), if_pos (by omega), if_pos (by omega), if_pos (by omega), wr_succ i (by omega), HRD.out, Int.toNat_natCast]
theorem rsplit_inner (xs : List Int) (k j : Nat) (hk : 0 < k) (hk2 : k ≤ 255) (hl : xs.length ≤ 1099511627776) (hj : j * k < xs.length) (out : List (List Int)) (ho : out.length = j) (r : List (List Int))
    (hr : Ev (fun q => shamrockref06_Split.l0 q xs (k : Int) (out ++ [colOf xs k j]) (((j + 1) * k : Nat) : Int)) r) :
      Ev (fun q => shamrockref06_Split.l1 q xs (k : Int) out ((j * k : Nat) : Int) (List.replicate k 0) (0 : Int)) r := by
  have hjl : j < 5864062014805 := by
    have := Nat.le_mul_of_pos_right j hk
    omega
  have hcol : colOf xs k j = ((xs.drop (j * k)).take k).take ((xs.drop (j * k)).take k).length ++ List.replicate (k - ((xs.drop (j * k)).take k).length) 0 := by
    rw [List.take_length]; rfl
  have hlen : ((xs.drop (j * k)).take k).length = min k (xs.length - j * k) := by rw [List.length_take, List.length_drop]
  have := rsplit_in xs ((xs.drop (j * k)).take k) _ k (j * k) ((j + 1) * k) xs.length hk2 rfl hl out (by rw [ho]; exact hjl) r (by rw [Nat.add_mul, Nat.one_mul]) hj hr hcol (by omega) (by omega) (by omega) (fun i hi => by
    unfold rd
    rw [Int.toNat_natCast, List.getD_eq_getElem?_getD, List.getD_eq_getElem?_getD, List.getElem?_take, if_pos (by omega), List.getElem?_drop]) _ 0 (by omega) rfl
  simpa using this
theorem rsplit_outer (xs : List Int) (k : Nat) (hk : 0 < k) (hk2 : k ≤ 255) (hl : xs.length ≤ 1099511627776) (d : Nat) :
    ∀ j, j ≤ ncol xs.length k → ncol xs.length k - j = d → Ev (fun q => shamrockref06_Split.l0 q xs (k : Int) ((List.range j).map (colOf xs k)) ((j * k : Nat) : Int)) (splitL xs k) := by
  induction d with
  | zero =>
    intro j hj hd
    obtain rfl : j = ncol xs.length k := by omega
    have hge : ¬ ncol xs.length k * k < xs.length := fun h => by have := (lt_ncol _ _ _ hk).2 h; omega
    refine Ev.step (f := fun _ => some (splitL xs k)) (fun q => ?_) (Ev.now _)
    simp only [shamrockref06_Split.l0]
    rw [if_neg (by omega)]
    rfl
  | succ d ih =>
    intro j hj hd
    have hlt := (lt_ncol j _ _ hk).1 (show j < ncol xs.length k by omega)
    have h1 := ih (j + 1) (by omega) (by omega)
    rw [List.range_succ, List.map_append, List.map_singleton] at h1
    have h2 := rsplit_inner xs k j hk hk2 hl hlt ((List.range j).map (colOf xs k)) (by simp) _ h1
    refine Ev.step (fun q => ?_) h2
    simp only [shamrockref06_Split.l0]
    rw [if_pos (by omega), if_pos (by omega), if_pos (by omega)]
    simp
theorem rsplit_f (xs : List Int) (k : Nat) (hk : 0 < k) (hk2 : k ≤ 255) (hl : xs.length ≤ 1099511627776) : ∃ q, shamrockref06_Split.f q xs (k : Int) = some (splitL xs k) := by
  have h := rsplit_outer xs k hk hk2 hl _ 0 (by omega) rfl
  obtain ⟨q, hq⟩ := h.rounds
  refine ⟨q, ?_⟩
  unfold shamrockref06_Split.f
  simpa using hq
end

set_option maxRecDepth 100000 in
set_option maxHeartbeats 800000 in
theorem same_yes (w : World) (A0 A1 : Option Addr) (n c0 c1 : Nat) (l : List (List Int)) (h0 : Kd.C u8s w A0 n l) (h1 : Kd.C u8s w A1 n l) :
    Calls Try.prog 40 #[.slice A0 n c0, .slice A1 n c1] w fun e w' => e = .returned (.bool true) ∧ Drawn0 w w' := by
  have hnm := Kd.C_max h0
  have H0 := Aside0.mk h0
  have H1 := Aside0.mk h1
  clear h0 h1
  go_enter Try.func40, Try.ntmps40
  go_wp2
  go_loopw [5] (fun v5 wr => ∃ (j : Nat), j ≤ n ∧ v5 = .int .i64 j ∧ Drawn0 w wr) (fun v5 _ => n - (intOf v5).toNat)
  case atStart => exact ⟨0, by omega, rfl, Drawn0.refl _⟩
  case round =>
    obtain ⟨j, hj, rfl, ⟨m1, rfl⟩⟩ := hrel
    by_cases hlt : j < n
    · obtain ⟨ad, B0, d0, rfl, hx0, hl0, hC0⟩ := row_at H0.out j hlt
      obtain ⟨ad1, B1, d1, rfl, hx1, hl1, hC1⟩ := row_at H1.out j hlt
      generalize l.getD j [] = x at *
      have q0 := fun m => Kd.C_string (P := Try.prog) (c := d0) Try.underlying36 Try.underlying5 Try.underlying9 (C_drewN hC0 m)
      have q1 := fun m => Kd.C_string (P := Try.prog) (c := d1) Try.underlying36 Try.underlying5 Try.underlying9 (C_drewN hC1 m)
      clear hC0 hC1 hl0 hl1
      go_wp2
      go_quiet (fail)
      go_wp2
      go_roundw
      case rel => exact ⟨j + 1, by omega, by go_num, by repeat (first | exact Drawn0.refl _ | apply Drawn0.step)⟩
      case measure => simp [intOf]; omega
    · go_wp2
      go_ret
      exact ⟨rfl, by repeat (first | exact Drawn0.refl _ | apply Drawn0.step)⟩
end Go.Proofs.Ytpeiejkcoadhfaa
