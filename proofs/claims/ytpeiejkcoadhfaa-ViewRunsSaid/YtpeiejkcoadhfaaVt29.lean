/- What the view's laws take, Vt29: PzAA. -/
import Derived.Test.YtpeiejkcoadhfaaVt16
import Derived.Test.YtpeiejkcoadhfaaVt28
set_option linter.all false
namespace Go.Proofs.Ytpeiejkcoadhfaa
open Go.RowKit Go.Shelf Go.Proofs.YtpeiejkcoadhfaaW.PrintWords Go.Proofs.YtpeiejkcoadhfaaW.PrintMore
open Go.BigFrame
theorem str_inj {p q : List F} (h : strOfNums (bs p) = strOfNums (bs q)) : p = q := by
  have h1 := congrArg (fun s : ByteArray => s.data.toList) h
  simp only [strOfNums, bs, List.map_map] at h1
  have h2 := congrArg (List.map UInt8.toNat) h1
  rw [List.map_map, List.map_map] at h2
  have e : ∀ l : List F, l.map (UInt8.toNat ∘ ((fun x => UInt8.ofNat x.toNat) ∘ fun a : F => (a.v : Int))) = l.map F.v := fun l => by
    apply List.map_congr_left
    intro a _
    have := a.lt
    simp [UInt8.toNat_ofNat']
    omega
  rw [e, e] at h2
  have h3 : p.length = q.length := by have := congrArg List.length h2; simpa using this
  apply List.ext_getElem h3
  intro i h4 h5
  have h6 : (p.map F.v)[i]'(by simpa using h4) = (q.map F.v)[i]'(by simpa using h5) := by simp only [h2]
  simp only [List.getElem_map] at h6
  exact F.ext h6
theorem str_ne {p q : List F} (h : p ≠ q) : ((strOfNums (bs p)).toList == (strOfNums (bs q)).toList) = false := by
  refine beq_eq_false_iff_ne.mpr (fun e => h (str_inj ?_))
  rw [ByteArray.toList_eq, ByteArray.toList_eq] at e
  exact Go.WideShapes.bytes_inj e
theorem eq_take {qs rs : List (List F)} {j : Nat} (hl : qs.length = rs.length) (hj : j < qs.length) (h : qs.take j = rs.take j) (hjj : qs.getD j [] = rs.getD j []) : qs.take (j + 1) = rs.take (j + 1) := by
  rw [take_snoc [] qs j hj, take_snoc [] rs j (by omega), h, hjj]
theorem ne_at {qs rs : List (List F)} {j : Nat} (h : qs.getD j [] ≠ rs.getD j []) : qs ≠ rs := fun e => h (by rw [e])
set_option maxRecDepth 100000 in
set_option maxHeartbeats 1600000 in
theorem RSame_any (w : World) (A B : Option Addr) (n m c d : Nat) (qs rs : List (List F)) (hq : PL w A n qs) (hr : PL w B m rs) (hn : n ≤ 1099511627776) (hm : m ≤ 1099511627776) :
    Calls Try.prog 52 #[.slice A n c, .slice B m d] w fun e w' => e = .returned (.bool (decide (qs = rs))) ∧ Drawn0 w w' := by
  have hqn : qs.length = n := by obtain ⟨_, _, h, _⟩ := hq; exact h
  have hrn : rs.length = m := by obtain ⟨_, _, h, _⟩ := hr; exact h
  have HQ := Aside0.mk hq
  have HR := Aside0.mk hr
  have HQN := Aside0.mk hqn
  have HRN := Aside0.mk hrn
  obtain ⟨r, hres⟩ : ∃ r, r = decide (qs = rs) := ⟨_, rfl⟩
  have HRES := Aside0.mk hres
  rw [← hres]
  clear hq hr hqn hrn hres
  by_cases hnm : n = m
  · subst hnm
    have hb : ((n : Int) != (n : Int)) = false := by simp
    go_enter Try.func52, Try.ntmps52
    go_wp2
    go_loopw [5] (fun v5 wr => ∃ (j t : Nat), j ≤ n ∧ v5 = .int .i64 j ∧ wr = w.drewN t ∧ Aside0 (qs.take j = rs.take j)) (fun v5 _ => n - (intOf v5).toNat)
    case atStart => exact ⟨0, 0, by omega, rfl, rfl, ⟨by simp⟩⟩
    case round =>
      obtain ⟨j, t, hj, rfl, rfl, HT⟩ := hrel
      by_cases hlt : j < n
      · obtain ⟨ad, B0, d0, rfl, hx0, hl0, hC0⟩ := PL_at HQ.out j hlt
        obtain ⟨ad1, B1, d1, rfl, hx1, hl1, hC1⟩ := PL_at HR.out j hlt
        obtain ⟨p, hp⟩ : ∃ p, p = qs.getD j [] := ⟨_, rfl⟩
        obtain ⟨q, hq⟩ : ∃ q, q = rs.getD j [] := ⟨_, rfl⟩
        rw [← hp] at hx0 hl0 hC0
        rw [← hq] at hx1 hl1 hC1
        have q0 := fun m => Kd.C_string (P := Try.prog) (c := d0) Try.underlying36 Try.underlying5 Try.underlying9 (C_drewN (C_bs.2 hC0) m)
        have q1 := fun m => Kd.C_string (P := Try.prog) (c := d1) Try.underlying36 Try.underlying5 Try.underlying9 (C_drewN (C_bs.2 hC1) m)
        obtain ⟨n0, hn0⟩ : ∃ n0, n0 = p.length := ⟨_, rfl⟩
        obtain ⟨n1, hn1⟩ : ∃ n1, n1 = q.length := ⟨_, rfl⟩
        rw [← hn0] at hx0 hl0 q0
        rw [← hn1] at hx1 hl1 q1
        have hjI : (j : Int) < (n : Int) := by omega
        by_cases e : p = q
        · have HN : Aside0 (qs.take (j + 1) = rs.take (j + 1)) := ⟨eq_take (by rw [HQN.out, HRN.out]) (by rw [HQN.out]; exact hlt) HT.out (by rw [← hp, ← hq, e])⟩
          have hse : strOfNums (bs p) = strOfNums (bs q) := by rw [e]
          rw [hse] at q0
          obtain ⟨st, hst⟩ : ∃ st, st = strOfNums (bs q) := ⟨_, rfl⟩
          rw [← hst] at q0 q1
          clear hC0 hC1 hp hq hn0 hn1 e hse hst
          go_wp2
          go_quiet (fail)
          go_wp2
          go_roundw
          case rel => exact ⟨j + 1, _, by omega, by go_num, rfl, HN⟩
          case measure => simp [intOf]; omega
        · have HNE : Aside0 (r = false) := ⟨by rw [HRES.out]; exact decide_eq_false (ne_at (j := j) (by rw [← hp, ← hq]; exact e))⟩
          have hbe := str_ne e
          obtain ⟨s0, hs0⟩ : ∃ s0, s0 = strOfNums (bs p) := ⟨_, rfl⟩
          obtain ⟨s1, hs1⟩ : ∃ s1, s1 = strOfNums (bs q) := ⟨_, rfl⟩
          rw [← hs0, ← hs1] at hbe
          rw [← hs0] at q0
          rw [← hs1] at q1
          clear hC0 hC1 hp hq hn0 hn1 e hs0 hs1
          go_wp2
          go_quiet (fail)
          go_wp2
          go_ret
          exact ⟨by rw [HNE.out]; rfl, ⟨_, World.drewN_drewN _ _ _⟩⟩
      · obtain rfl : j = n := by omega
        have HY : Aside0 (r = true) := ⟨by
          rw [HRES.out]
          have h := HT.out
          rw [List.take_of_length_le (by rw [HQN.out]; omega), List.take_of_length_le (by rw [HRN.out]; omega)] at h
          exact decide_eq_true h⟩
        go_wp2
        go_ret
        exact ⟨by rw [HY.out]; rfl, ⟨_, rfl⟩⟩
  · have hb : ((n : Int) != (m : Int)) = true := by simp; omega
    have HNE : Aside0 (r = false) := ⟨by rw [HRES.out]; exact decide_eq_false (fun e => hnm (by rw [← HQN.out, ← HRN.out, e]))⟩
    clear hnm
    go_enter Try.func52, Try.ntmps52
    go_wp2
    go_ret
    exact ⟨by rw [HNE.out]; rfl, Drawn0.refl _⟩
def xorL (a b : List F) : List F := (List.range a.length).map fun i => cf a i + cf b i
theorem xorL_length (a b : List F) : (xorL a b).length = a.length := by simp [xorL]
def xorTo (a b : List F) (k : Nat) : List F := (List.range a.length).map fun i => if i < k then cf a i + cf b i else cf a i
theorem xorTo_zero (a b : List F) : xorTo a b 0 = a := by
  apply List.ext_getElem
  · simp [xorTo]
  · intro i h1 h2
    simp [xorTo, cf, List.getD_eq_getElem?_getD, List.getElem?_eq_getElem h2]
theorem xorTo_get (a b : List F) (k i : Nat) (h : i < a.length) : (xorTo a b k).getD i 0 = if i < k then cf a i + cf b i else cf a i := getD_range _ _ _ _ h
theorem xorTo_step (a b : List F) (k : Nat) (h : k < a.length) : (xorTo a b k).set k (cf a k + cf b k) = xorTo a b (k + 1) := by
  apply List.ext_getElem
  · simp [xorTo]
  · intro i h1 h2
    have hi : i < a.length := by simpa [xorTo] using h2
    rw [List.getElem_set]
    simp only [xorTo, List.getElem_map, List.getElem_range]
    by_cases e : k = i
    · subst e
      rw [if_pos rfl, if_pos (by omega)]
    · rw [if_neg e]
      by_cases h3 : i < k
      · rw [if_pos h3, if_pos (by omega)]
      · rw [if_neg h3, if_neg (by omega)]
theorem xorTo_all (a b : List F) (k : Nat) (h : k = a.length ∨ k = b.length) : xorTo a b k = xorL a b := by
  apply List.ext_getElem
  · simp [xorTo, xorL]
  · intro i h1 h2
    have hi : i < a.length := by simpa [xorTo] using h1
    simp only [xorTo, xorL, List.getElem_map, List.getElem_range]
    by_cases e : i < k
    · rw [if_pos e]
    · rw [if_neg e, cf_ge b i (by omega), F.add_zero]
set_option maxRecDepth 100000 in
set_option maxHeartbeats 1600000 in
theorem Sum_yes (w : World) (A B : Option Addr) (n c d : Nat) (a b : List F) (ha : Kd.C fk w A n a) (hb : Kd.C fk w B n b) (hn : n ≤ 140737488355328) :
    Calls Try.prog 63 #[.slice A n c, .slice B n d] w fun e w' => ∃ D cd, e = .returned (.tuple #[.slice D n cd, .bool true]) ∧ Kd.R fk 5 w' w.heap.size (fun _ => True) (.slice D n cd) (xorL a b) ∧ Below w.heap.size w w' := by
  obtain rfl : a.length = n := Kd.C_len ha
  have HBL := Aside0.mk (Kd.C_len hb)
  have HCL := Aside0.mk (Clone_any w A a.length c a ha hn)
  have HB := Aside0.mk hb
  have hbn : ((a.length : Int) != (a.length : Int)) = false := by simp
  clear ha hb
  go_enter Try.func63, Try.ntmps63
  go_wp2_with (go_at_call 95; with_reducible refine HCL.out.mono ?_; rintro e W1 ⟨D, cd, rfl, hR1, hb1⟩; replace hR1 := Aside0.mk hR1; replace hb1 := Aside0.mk hb1)
  have H0 : Aside0 (Kd.R fk 5 W1 w.heap.size (fun _ => True) (.slice D a.length cd) (xorTo a b 0)) := ⟨by rw [xorTo_zero]; exact hR1.out⟩
  clear hR1 HCL
  go_loopw [18] (fun v18 wr => ∃ (k : Nat), k ≤ a.length ∧ v18 = .int .i64 k ∧ Aside0 (Kd.R fk 5 wr w.heap.size (fun _ => True) (.slice D a.length cd) (xorTo a b k)) ∧ Aside0 (Below w.heap.size w wr)) (fun v18 _ => a.length - (intOf v18).toNat)
  case atStart => exact ⟨0, by omega, rfl, H0, hb1⟩
  case round =>
    clear H0 hb1
    obtain ⟨k, hka, rfl, HR, HW⟩ := hrel
    by_cases h1 : k < a.length
    · obtain ⟨g, rfl, hbg, _, _, hx, hfz, hset⟩ := R_at (0 : F) HR.out k h1
      obtain ⟨adB, rfl, hcb⟩ := C_at HB.out (Fr.of_below HW.out (fun _ => False)) (fun _ h => h.elim) k h1
      have hst := xorTo_step a b k h1
      rw [xorTo_get a b k k h1, if_neg (by omega)] at hx
      obtain ⟨x, hxe⟩ : ∃ x, x = cf a k := ⟨_, rfl⟩
      obtain ⟨y, hye⟩ : ∃ y, y = cf b k := ⟨_, rfl⟩
      rw [← hxe] at hx
      have hye' : b.getD k 0 = y := hye.symm
      rw [hye'] at hcb
      have hs2 := hset (x + y)
      rw [hxe, hye, hst, ← hxe, ← hye] at hs2
      have HS := Aside0.mk hs2
      have hxr := xorF x y
      unfold encF at hx
      generalize x + y = xy at *
      clear hset hst hxe hye hye' hs2
      go_wp2
      go_roundw
      case rel => exact ⟨k + 1, by omega, by go_num, HS, ⟨HW.out.setCell (p := ⟨g, k, none⟩) hbg _⟩⟩
      case measure => simp [intOf]; omega
    · have hall := xorTo_all a b k (by omega)
      have h := HR.out
      rw [hall] at h
      have HF := Aside0.mk h
      clear hall h HR
      obtain rfl : k = a.length := by omega
      go_wp2
      go_ret2
      exact ⟨D, cd, rfl, HF.out, HW.out⟩
end Go.Proofs.Ytpeiejkcoadhfaa
