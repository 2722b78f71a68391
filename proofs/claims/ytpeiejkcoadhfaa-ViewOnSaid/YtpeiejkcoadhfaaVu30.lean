/- What the view's laws take, Vu30: PzAA. -/
import Derived.Test.YtpeiejkcoadhfaaVu15
import Derived.Test.YtpeiejkcoadhfaaVu29
set_option linter.all false
namespace Go.Proofs.Ytpeiejkcoadhfaa
open Go.RowKit Go.Shelf Go.Proofs.YtpeiejkcoadhfaaW.PrintWords Go.Proofs.YtpeiejkcoadhfaaW.PrintMore
open Go.BigFrame
theorem znc {p q : List F} (h : strOfNums (bs p) = strOfNums (bs q)) : p = q := by
 have h1 := congrArg (fun s : ByteArray => s.data.toList) h
 simp only [strOfNums, bs, List.map_map] at h1
 have h2 := congrArg (List.map UInt8.toNat) h1
 rw [List.map_map, List.map_map] at h2
 have e : ∀ l : List F, l.map (UInt8.toNat ∘ ((fun x => UInt8.ofNat x.toNat) ∘ fun a : F => (a.v : Int))) = l.map F.v := fun l => by
  apply List.map_congr_left
  intro a _
  have := a.lt
  simp [UInt8.toNat_ofNat']
  omega
 rw [e, e] at h2
 have h3 : p.length = q.length := by have := congrArg List.length h2; simpa using this
 apply List.ext_getElem h3
 intro i h4 h5
 have h6 : (p.map F.v)[i]'(by simpa using h4) = (q.map F.v)[i]'(by simpa using h5) := by simp only [h2]
 simp only [List.getElem_map] at h6
 exact F.ext h6
theorem zpe {p q : List F} (h : p ≠ q) : ((strOfNums (bs p)).toList == (strOfNums (bs q)).toList) = false := by
 refine beq_eq_false_iff_ne.mpr (fun e => h (znc ?_))
 rw [ByteArray.toList_eq, ByteArray.toList_eq] at e
 exact Go.WideShapes.bytes_inj e
theorem znh {qs rs : List (List F)} {j : Nat} (hl : qs.length = rs.length) (hj : j < qs.length) (h : qs.take j = rs.take j) (hjj : qs.getD j [] = rs.getD j []) : qs.take (j + 1) = rs.take (j + 1) := by
 rw [zK [] qs j hj, zK [] rs j (by omega), h, hjj]
theorem zpO {qs rs : List (List F)} {j : Nat} (h : qs.getD j [] ≠ rs.getD j []) : qs ≠ rs := fun e => h (by rw [e])
set_option maxRecDepth 100000 in
set_option maxHeartbeats 1600000 in
theorem zkv (w : World) (A B : Option Addr) (n m c d : Nat) (qs rs : List (List F)) (hq : PL w A n qs) (hr : PL w B m rs) (hn : n ≤ 1099511627776) (hm : m ≤ 1099511627776) :
 Calls Try.prog 52 #[.slice A n c, .slice B m d] w fun e w' => e = .returned (.bool (decide (qs = rs))) ∧ zq w w' := by
 have hqn : qs.length = n := by obtain ⟨_, _, h, _⟩ := hq; exact h
 have hrn : rs.length = m := by obtain ⟨_, _, h, _⟩ := hr; exact h
 have HQ := za.mk hq
 have HR := za.mk hr
 have HQN := za.mk hqn
 have HRN := za.mk hrn
 obtain ⟨r, hres⟩ : ∃ r, r = decide (qs = rs) := ⟨_, rfl⟩
 have HRES := za.mk hres
 rw [← hres]
 clear hq hr hqn hrn hres
 by_cases hnm : n = m
 ·subst hnm
  have hb : ((n : Int) != (n : Int)) = false := by simp
  go_enter Try.func52, Try.ntmps52
  go_wp2
  go_loopw [5] (fun v5 wr => ∃ (j t : Nat), j ≤ n ∧ v5 = .int .i64 j ∧ wr = w.drewN t ∧ za (qs.take j = rs.take j)) (fun v5 _ => n - (intOf v5).toNat)
  case atStart => exact ⟨0, 0, by omega, rfl, rfl, ⟨by simp⟩⟩
  obtain ⟨j, t, hj, rfl, rfl, HT⟩ := hrel
  by_cases hlt : j < n
  ·obtain ⟨ad, B0, d0, rfl, hx0, hl0, hC0⟩ := jV HQ.out j hlt
   obtain ⟨ad1, B1, d1, rfl, hx1, hl1, hC1⟩ := jV HR.out j hlt
   obtain ⟨p, hp⟩ : ∃ p, p = qs.getD j [] := ⟨_, rfl⟩
   obtain ⟨q, hq⟩ : ∃ q, q = rs.getD j [] := ⟨_, rfl⟩
   rw [← hp] at hx0 hl0 hC0
   rw [← hq] at hx1 hl1 hC1
   have q0 := fun m => Kd.C_string (P := Try.prog) (c := d0) Try.underlying36 Try.underlying5 Try.underlying9 (C_drewN (Jz.2 hC0) m)
   have q1 := fun m => Kd.C_string (P := Try.prog) (c := d1) Try.underlying36 Try.underlying5 Try.underlying9 (C_drewN (Jz.2 hC1) m)
   obtain ⟨n0, hn0⟩ : ∃ n0, n0 = p.length := ⟨_, rfl⟩
   obtain ⟨n1, hn1⟩ : ∃ n1, n1 = q.length := ⟨_, rfl⟩
   rw [← hn0] at hx0 hl0 q0
   rw [← hn1] at hx1 hl1 q1
   have hjI : (j : Int) < (n : Int) := by omega
   by_cases e : p = q
   ·have HN : za (qs.take (j + 1) = rs.take (j + 1)) := ⟨znh (by rw [HQN.out, HRN.out]) (by rw [HQN.out]; exact hlt) HT.out (by rw [← hp, ← hq, e])⟩
    have hse : strOfNums (bs p) = strOfNums (bs q) := by rw [e]
    rw [hse] at q0
    obtain ⟨st, hst⟩ : ∃ st, st = strOfNums (bs q) := ⟨_, rfl⟩
    rw [← hst] at q0 q1
    clear hC0 hC1 hp hq hn0 hn1 e hse hst
    go_wp2
    go_quiet (fail)
    go_wp2
    go_roundw
    case rel => exact ⟨j + 1, _, by omega, by go_num, rfl, HN⟩
    simp [intOf]; omega
   have HNE : za (r = false) := ⟨by rw [HRES.out]; exact decide_eq_false (zpO (j := j) (by rw [← hp, ← hq]; exact e))⟩
   have hbe := zpe e
   obtain ⟨s0, hs0⟩ : ∃ s0, s0 = strOfNums (bs p) := ⟨_, rfl⟩
   obtain ⟨s1, hs1⟩ : ∃ s1, s1 = strOfNums (bs q) := ⟨_, rfl⟩
   rw [← hs0, ← hs1] at hbe
   rw [← hs0] at q0
   rw [← hs1] at q1
   clear hC0 hC1 hp hq hn0 hn1 e hs0 hs1
   go_wp2
   go_quiet (fail)
   go_wp2
   go_ret
   exact ⟨by rw [HNE.out]; rfl, ⟨_, World.drewN_drewN _ _ _⟩⟩
  obtain rfl : j = n := by omega
  have HY : za (r = true) := ⟨by
   rw [HRES.out]
   have h := HT.out
   rw [List.take_of_length_le (by rw [HQN.out]; omega), List.take_of_length_le (by rw [HRN.out]; omega)] at h
   exact decide_eq_true h⟩
  go_wp2
  go_ret
  exact ⟨by rw [HY.out]; rfl, ⟨_, rfl⟩⟩
 have hb : ((n : Int) != (m : Int)) = true := by simp; omega
 have HNE : za (r = false) := ⟨by rw [HRES.out]; exact decide_eq_false (fun e => hnm (by rw [← HQN.out, ← HRN.out, e]))⟩
 clear hnm
 go_enter Try.func52, Try.ntmps52
 go_wp2
 go_ret
 exact ⟨by rw [HNE.out]; rfl, zq.refl _⟩
def zah (a b : List F) : List F := (List.range a.length).map fun i => cf a i + cf b i
theorem ZI (a b : List F) : (zah a b).length = a.length := by simp [zah]
def Zk (a b : List F) (k : Nat) : List F := (List.range a.length).map fun i => if i < k then cf a i + cf b i else cf a i
theorem zfK (a b : List F) (k : Nat) : (Zk a b k).length = a.length := by simp [Zk]
theorem zet (a b : List F) : Zk a b 0 = a := by
 apply List.ext_getElem
 ·simp [Zk]
 intro i h1 h2
 simp [Zk, cf, List.getD_eq_getElem?_getD, List.getElem?_eq_getElem h2]
theorem zfr (a b : List F) (k i : Nat) (h : i < a.length) : (Zk a b k).getD i 0 = if i < k then cf a i + cf b i else cf a i := zy _ _ _ _ h
theorem zdK (a b : List F) (k : Nat) (h : k < a.length) : (Zk a b k).set k (cf a k + cf b k) = Zk a b (k + 1) := by
 apply List.ext_getElem
 ·simp [Zk]
 intro i h1 h2
 have hi : i < a.length := by simpa [Zk] using h2
 rw [List.getElem_set]
 simp only [Zk, List.getElem_map, List.getElem_range]
 by_cases e : k = i
 ·subst e
  rw [if_pos rfl, if_pos (by omega)]
 rw [if_neg e]
 by_cases h3 : i < k
 ·rw [if_pos h3, if_pos (by omega)]
 rw [if_neg h3, if_neg (by omega)]
theorem zfs (a b : List F) (k : Nat) (h : k = a.length ∨ k = b.length) : Zk a b k = zah a b := by
 apply List.ext_getElem
 ·simp [Zk, zah]
 intro i h1 h2
 have hi : i < a.length := by simpa [Zk] using h1
 simp only [Zk, zah, List.getElem_map, List.getElem_range]
 by_cases e : i < k
 ·rw [if_pos e]
 rw [if_neg e, zJ b i (by omega), F.add_zero]
set_option maxRecDepth 100000 in
set_option maxHeartbeats 1600000 in
theorem zmE (w : World) (A B : Option Addr) (n m c d : Nat) (a b : List F) (ha : Kd.C fk w A n a) (hb : Kd.C fk w B m b) (hn : n ≤ 140737488355328) (hm : m ≤ 140737488355328) :
 Calls Try.prog 62 #[.slice A n c, .slice B m d] w fun e w' => ∃ D cd, e = .returned (.slice D n cd) ∧ Kd.R fk 5 w' w.heap.size (fun _ => True) (.slice D n cd) (zah a b) ∧ Below w.heap.size w w' := by
 obtain rfl : a.length = n := Kd.C_len ha
 obtain rfl : b.length = m := Kd.C_len hb
 have HA := za.mk ha
 have HB := za.mk hb
 obtain ⟨v', w1, hrun, hq, hg, hat⟩ := zR (P := Try.prog) zZ (0 : F) (w.alloc (.cells #[] 5)) w.heap.size 36 36 5 _ 1 Try.underlying36 yJ rfl (ys := a) (c := c) (zdv fk 5 w w.heap.size (Nat.le_refl _)) (Kd.C_below ha (zc (Below.refl _ _) _)) (by simp; omega) (by omega) (by simp) (fun _ _ => trivial)
 obtain ⟨D, cd, rfl⟩ := Kd.R_slice hq
 rw [List.nil_append] at hrun hq
 have hb0 : Below w.heap.size w w1 := (zc (Below.refl _ _) _).grown hg (by simp) (fun k hk => by
                                                                                                        have : k = w.heap.size := by simpa [Value.ownBlock] using hk.symm
                                                                                                        omega)
 have HRUN := za.mk hrun
 rw [← zet a b] at hq
 rw [zfK] at hq
 have H0 := za.mk hq
 have HW := za.mk hb0
 clear ha hb hrun hq hg hat hb0
 go_enter Try.func62, Try.ntmps62
 go_wp2_with (at_builtin; refine zm rfl _ _ _ _ rfl rfl rfl HRUN.out ?_)
 go_loopw [6] (fun v6 wr => ∃ (k : Nat), k ≤ a.length ∧ k ≤ b.length ∧ v6 = .int .i64 k ∧ za (Kd.R fk 5 wr w.heap.size (fun _ => True) (.slice D a.length cd) (Zk a b k)) ∧ za (Below w.heap.size w wr)) (fun v6 _ => a.length - (intOf v6).toNat)
 case atStart => exact ⟨0, by omega, by omega, rfl, H0, HW⟩
 clear H0 HW HRUN
 obtain ⟨k, hka, hkb, rfl, HR, HW⟩ := hrel
 by_cases hlt : k < a.length ∧ k < b.length
 ·obtain ⟨h1, h2⟩ := hlt
  obtain ⟨g, rfl, hbg, _, _, hx, hfz, hset⟩ := jJ (0 : F) HR.out k h1
  obtain ⟨adB, rfl, hcb⟩ := Jc HB.out (Fr.of_below HW.out (fun _ => False)) (fun _ h => h.elim) k h2
  have hst := zdK a b k h1
  rw [zfr a b k k h1, if_neg (by omega)] at hx
  obtain ⟨x, hxe⟩ : ∃ x, x = cf a k := ⟨_, rfl⟩
  obtain ⟨y, hye⟩ : ∃ y, y = cf b k := ⟨_, rfl⟩
  rw [← hxe] at hx
  have hye' : b.getD k 0 = y := hye.symm
  rw [hye'] at hcb
  have hs2 := hset (x + y)
  rw [hxe, hye, hst, ← hxe, ← hye] at hs2
  have HS := za.mk hs2
  have hxr := zeB x y
  unfold zZ at hx
  generalize x + y = xy at *
  clear hset hst hxe hye hye' hs2
  go_wp2
  refine yC 12 (by kernel_rfl) (by kernel_rfl) ?_
  simp only [List.take_succ_cons, List.take_zero, List.drop_succ_cons, List.drop_zero]
  repeat (first | go_big_quiet_skip | (go_big_quiet_want; go_big_quiet_op; go_big_quiet_on))
  refine wpQuiet_nil ?_
  rintro _ ⟨t, rfl⟩
  go_wp2
  go_roundw
  case rel => exact ⟨k + 1, by omega, by omega, by go_num, ⟨Kd.R_drewN HS.out t⟩, ⟨yu (HW.out.setCell (p := ⟨g, k, none⟩) hbg _) t⟩⟩
  simp [intOf]; omega
 have hall := zfs a b k (by omega)
 have h := HR.out
 rw [hall] at h
 have HF := za.mk h
 clear hall h HR
 by_cases h1 : k < a.length
 ·have h2 : ¬ k < b.length := fun h => hlt ⟨h1, h⟩
  clear hlt
  go_wp2
  go_ret
  exact ⟨D, cd, rfl, HF.out, HW.out⟩
 clear hlt
 go_wp2
 go_ret
 exact ⟨D, cd, rfl, HF.out, HW.out⟩
set_option maxRecDepth 100000 in
set_option maxHeartbeats 1600000 in
theorem zgw (w : World) (A B : Option Addr) (n c d : Nat) (a b : List F) (ha : Kd.C fk w A n a) (hb : Kd.C fk w B n b) (hn : n ≤ 140737488355328) :
 Calls Try.prog 63 #[.slice A n c, .slice B n d] w fun e w' => ∃ D cd, e = .returned (.tuple #[.slice D n cd, .bool true]) ∧ Kd.R fk 5 w' w.heap.size (fun _ => True) (.slice D n cd) (zah a b) ∧ Below w.heap.size w w' := by
 obtain rfl : a.length = n := Kd.C_len ha
 have HBL := za.mk (Kd.C_len hb)
 have HCL := za.mk (ZV w A a.length c a ha hn)
 have HB := za.mk hb
 have hbn : ((a.length : Int) != (a.length : Int)) = false := by simp
 clear ha hb
 go_enter Try.func63, Try.ntmps63
 go_wp2_with (go_at_call 95; with_reducible refine HCL.out.mono ?_; rintro e W1 ⟨D, cd, rfl, hR1, hb1⟩; replace hR1 := za.mk hR1; replace hb1 := za.mk hb1)
 have H0 : za (Kd.R fk 5 W1 w.heap.size (fun _ => True) (.slice D a.length cd) (Zk a b 0)) := ⟨by rw [zet]; exact hR1.out⟩
 clear hR1 HCL
 go_loopw [18] (fun v18 wr => ∃ (k : Nat), k ≤ a.length ∧ v18 = .int .i64 k ∧ za (Kd.R fk 5 wr w.heap.size (fun _ => True) (.slice D a.length cd) (Zk a b k)) ∧ za (Below w.heap.size w wr)) (fun v18 _ => a.length - (intOf v18).toNat)
 case atStart => exact ⟨0, by omega, rfl, H0, hb1⟩
 clear H0 hb1
 obtain ⟨k, hka, rfl, HR, HW⟩ := hrel
 by_cases h1 : k < a.length
 ·obtain ⟨g, rfl, hbg, _, _, hx, hfz, hset⟩ := jJ (0 : F) HR.out k h1
  obtain ⟨adB, rfl, hcb⟩ := Jc HB.out (Fr.of_below HW.out (fun _ => False)) (fun _ h => h.elim) k h1
  have hst := zdK a b k h1
  rw [zfr a b k k h1, if_neg (by omega)] at hx
  obtain ⟨x, hxe⟩ : ∃ x, x = cf a k := ⟨_, rfl⟩
  obtain ⟨y, hye⟩ : ∃ y, y = cf b k := ⟨_, rfl⟩
  rw [← hxe] at hx
  have hye' : b.getD k 0 = y := hye.symm
  rw [hye'] at hcb
  have hs2 := hset (x + y)
  rw [hxe, hye, hst, ← hxe, ← hye] at hs2
  have HS := za.mk hs2
  have hxr := zeB x y
  unfold zZ at hx
  generalize x + y = xy at *
  clear hset hst hxe hye hye' hs2
  go_wp2
  go_roundw
  case rel => exact ⟨k + 1, by omega, by go_num, HS, ⟨HW.out.setCell (p := ⟨g, k, none⟩) hbg _⟩⟩
  simp [intOf]; omega
 have hall := zfs a b k (by omega)
 have h := HR.out
 rw [hall] at h
 have HF := za.mk h
 clear hall h HR
 obtain rfl : k = a.length := by omega
 go_wp2
 go_ret2
 exact ⟨D, cd, rfl, HF.out, HW.out⟩
end Go.Proofs.Ytpeiejkcoadhfaa
