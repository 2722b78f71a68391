/- The reference's polynomials and shares. -/
import Derived.Test.YtpeiejkcoadhfaaDkE
import Derived.Test.YtpeiejkcoadhfaaDkD
import Derived.Deep.RegionLaw
import Derived.Deep.RegionHeld3
import Derived.Deep.RegionHeldLaw
set_option linter.all false
/- The reference's polynomials: Trim, Eval, Add, Times, Roots. -/
namespace Go.Proofs.Ytpeiejkcoadhfaa
open Go.RowKit Go.Shelf Go.Proofs.YtpeiejkcoadhfaaW.PrintWords Go.Proofs.YtpeiejkcoadhfaaW.PrintMore
open Go.BigFrame

theorem RMulF (w : World) (a b : F) : Calls Try.prog 34 #[.int .u8 (a.v : Int), .int .u8 (b.v : Int)] w fun e w' => e = .returned (.int .u8 ((a * b).v : Int)) ∧ Drawn0 w w' :=
  PGfPows.shamrockref01_Mul.calls 17 a.v b.v _ w (refMul_f 17 a.v b.v (Nat.le_refl _) a.lt b.lt)
theorem RInvF (w : World) (a : F) (h : a ≠ 0) : Calls Try.prog 35 #[.int .u8 (a.v : Int)] w fun e w' => e = .returned (.int .u8 (a.inv.v : Int)) ∧ Drawn0 w w' :=
  PGfPows.shamrockref01_Inv.calls 400 a.v _ w (refInv_f 400 a.v (Nat.le_refl _) a.lt (fun e => h (F.ext e)))

set_option maxRecDepth 100000 in
set_option maxHeartbeats 800000 in
theorem RTrim_any (w : World) (A : Option Addr) (n c : Nat) (p : List F) (hC : Kd.C fk w A n p) (hc : n ≤ c) (hl : n ≤ 1099511627776) :
    Calls Try.prog 92 #[.slice A n c] w fun e w' => ∃ B d, e = .returned (.slice B (trimP p).length d) ∧ Kd.R fk 5 w' w.heap.size (fun _ => True) (.slice B (trimP p).length d) (trimP p) ∧ Below w.heap.size w w' := by
  obtain rfl : p.length = n := Kd.C_len hC
  have hle := trim_length p
  have hz : ∀ j, (trimP p).length ≤ j → cf p j = 0 := fun j hj => by rw [← cf_trim p]; exact cf_ge _ _ hj
  have hnz : 0 < (trimP p).length → cf p ((trimP p).length - 1) ≠ 0 := fun h => by
    rw [← cf_trim p]
    exact trim_last p (by intro e; rw [e] at h; simp at h)
  have ht := to_C (0 : F) (trimP p).length hC hle
  rw [trim_take] at ht
  obtain ⟨v', w1, hrun, hq, hg, hat⟩ := R_append_row (P := Try.prog) encF (0 : F) (w.alloc (.cells #[] 5)) w.heap.size 36 36 5 _ 1 Try.underlying36 info5 rfl (ys := trimP p) (c := c) (R_empty fk 5 w w.heap.size (Nat.le_refl _)) (Kd.C_below ht (below_alloc (Below.refl _ _) _)) (by simp; omega) (by omega) (by simp) (fun _ _ => trivial)
  obtain ⟨A', c', rfl⟩ := Kd.R_slice hq
  rw [List.nil_append] at hrun hq
  have hb : Below w.heap.size w w1 := (below_alloc (Below.refl _ _) _).grown hg (by simp) (fun k hk => by have : k = w.heap.size := by simpa [Value.ownBlock] using hk.symm
                                                                                                          omega)
  have HT := Aside0.mk (And.intro hq hb)
  have HR := Aside0.mk hrun
  obtain ⟨i5, hi5, _, _, _⟩ := info_parts info5
  have kt := to_run (P := Try.prog) 36 5 Try.underlying36 hi5 A p.length c (trimP p).length hle hc
  have HZ := Aside0.mk hz
  have HNZ := Aside0.mk hnz
  have HC := Aside0.mk hC
  obtain ⟨m, hm⟩ : ∃ m, m = (trimP p).length := ⟨_, rfl⟩
  rw [← hm] at HT HR kt HZ HNZ hle
  have HM := Aside0.mk hm
  clear hrun hq hg hat hb hz hnz hC hi5 hm ht
  rw [← HM.out]
  go_enter Try.func92, Try.ntmps92
  go_wp2
  go_loop [3] (fun v3 => ∃ k : Nat, m ≤ k ∧ k ≤ p.length ∧ v3 = .int .i64 (k : Int)) (fun v3 => (intOf v3).toNat)
  case atStart => exact ⟨p.length, hle, Nat.le_refl _, rfl⟩
  case round =>
    obtain ⟨k, hmk, hk, rfl⟩ := hrel
    rcases Nat.eq_zero_or_pos k with h0 | h0
    · subst h0
      obtain rfl : m = 0 := by omega
      go_wp2_with (at_builtin; refine wpList_append_run rfl _ _ _ _ rfl rfl rfl HR.out ?_)
      go_ret
      exact ⟨A', c', rfl, HT.out.1, HT.out.2⟩
    · obtain ⟨j, hj⟩ : ∃ j, k = j + 1 := ⟨k - 1, by omega⟩
      obtain ⟨ad, rfl, hcell⟩ := C_at HC.out (Fr.refl (fun _ => False) w) (fun _ h => h.elim) j (by omega)
      have hkI : (0 : Int) < (k : Int) := by omega
      have hsub : (k : Int) - 1 = (j : Int) := by omega
      have hkp : (j : Int) < (p.length : Int) := by omega
      obtain ⟨y, hy⟩ : ∃ y, y = p.getD j 0 := ⟨_, rfl⟩
      rw [← hy] at hcell
      by_cases e : m = k
      · have hne : ((y.v : Int) == 0) = false := by
          have := HNZ.out (by omega)
          rw [e, hj, Nat.add_sub_cancel] at this
          have h2 : y.v ≠ 0 := fun h => this (F.ext (by rw [hy] at h; exact h))
          exact beq_eq_false_iff_ne.mpr (by omega)
        clear hy
        subst e
        clear hj
        go_wp2_with (at_builtin; refine wpList_append_run rfl _ _ _ _ rfl rfl rfl HR.out ?_)
        go_ret
        exact ⟨A', c', rfl, HT.out.1, HT.out.2⟩
      · have hz : y.v = 0 := by rw [hy]; exact congrArg F.v (HZ.out j (by omega))
        rw [hz] at hcell
        clear hy hz
        have HJ := Aside0.mk hj
        clear hj
        go_wp2
        go_round
        case rel => exact ⟨j, by have := HJ.out; omega, by omega, by go_num⟩
        case measure => have := HJ.out; simp [intOf]; omega

def pw (x : F) : Nat → F
  | 0 => 1
  | k + 1 => pw x k * x
theorem ev_snoc : ∀ (p : List F) (c x : F), ev (p ++ [c]) x = ev p x + c * pw x p.length
  | [], c, x => by simp [ev, pw, F.zero_mul, F.add_zero, F.mul_one, F.zero_add]
  | a :: p, c, x => by
    rw [List.cons_append, ev, ev, ev_snoc p c x, List.length_cons, pw, F.add_mul, F.mul_assoc, F.add_assoc]
theorem ev_take (p : List F) (k : Nat) (x : F) (h : k < p.length) : ev (p.take (k + 1)) x = ev (p.take k) x + p.getD k 0 * pw x k := by
  rw [take_snoc 0 p k h, ev_snoc, List.length_take, Nat.min_eq_left (by omega)]
set_option maxRecDepth 100000 in
set_option maxHeartbeats 800000 in
theorem REval_any (w : World) (A : Option Addr) (n c : Nat) (p : List F) (x : F) (hC : Kd.C fk w A n p) (hl : n ≤ 1099511627776) :
    Calls Try.prog 56 #[.slice A n c, .int .u8 (x.v : Int)] w fun e w' => e = .returned (.int .u8 ((ev p x).v : Int)) ∧ Drawn0 w w' := by
  obtain rfl : p.length = n := Kd.C_len hC
  have HC := Aside0.mk hC
  clear hC
  go_enter Try.func56, Try.ntmps56
  go_wp2
  go_loopw [5, 6, 7] (fun v5 v6 v7 wr => ∃ k t : Nat, k ≤ p.length ∧ v5 = .int .u8 ((ev (p.take k) x).v : Int) ∧ v6 = .int .u8 ((pw x k).v : Int) ∧ v7 = .int .i64 (k : Int) ∧ wr = w.drewN t) (fun _ _ v7 _ => p.length - (intOf v7).toNat)
  case atStart => exact ⟨0, 0, Nat.zero_le _, rfl, rfl, rfl, rfl⟩
  case round =>
    obtain ⟨k, t, hk, rfl, rfl, rfl, rfl⟩ := hrel
    by_cases hlt : k < p.length
    · obtain ⟨ad, rfl, hcell⟩ := C_at HC.out (Fr.refl (fun _ => False) w) (fun _ h => h.elim) k hlt
      obtain ⟨a, ha⟩ : ∃ a, a = p.getD k 0 := ⟨_, rfl⟩
      have HE := Aside0.mk (ev_take p k x hlt)
      rw [← ha] at hcell HE
      obtain ⟨s, hs⟩ : ∃ s, s = ev (p.take k) x := ⟨_, rfl⟩
      obtain ⟨q, hq⟩ : ∃ q, q = pw x k := ⟨_, rfl⟩
      rw [← hs, ← hq] at HE
      rw [← hs, ← hq]
      have HM1 := Aside0.mk (fun W => RMulF W a q)
      have HM2 := Aside0.mk (fun W => RMulF W q x)
      have hxr := xorF s (a * q)
      have HP : Aside0 (pw x (k + 1) = q * x) := ⟨by rw [hq]; rfl⟩
      generalize a * q = aq at *
      generalize q * x = qx at *
      clear ha hs hq
      go_wp2_with (first | (go_at_call 34; with_reducible refine (HM1.out _).mono ?_; rintro e W1 ⟨rfl, ⟨t1, rfl⟩⟩) | (go_at_call 34; with_reducible refine (HM2.out _).mono ?_; rintro e W2 ⟨rfl, ⟨t2, rfl⟩⟩))
      go_roundw
      case rel => exact ⟨k + 1, _, by omega, by rw [HE.out], by rw [HP.out], by go_num, rfl⟩
      case measure => simp [intOf]; omega
    · obtain rfl : k = p.length := by omega
      go_wp2
      go_ret
      exact ⟨by rw [List.take_length]; rfl, ⟨_, rfl⟩⟩
end Go.Proofs.Ytpeiejkcoadhfaa
/- The reference's polynomials: Add, Times, Roots. -/
namespace Go.Proofs.Ytpeiejkcoadhfaa
open Go.RowKit Go.Shelf Go.Proofs.YtpeiejkcoadhfaaW.PrintWords Go.Proofs.YtpeiejkcoadhfaaW.PrintMore
open Go.BigFrame

theorem xor0F (a : F) : bits .xor .u8 0 (a.v : Int) = (a.v : Int) := by
  have h := xorF 0 a
  rw [F.zero_add] at h
  exact h
/-- The sum's first coefficients. -/
def addL (p q : List F) (k : Nat) : List F := (List.range k).map fun i => cf p i + cf q i
theorem addL_snoc (p q : List F) (k : Nat) : addL p q (k + 1) = addL p q k ++ [cf p k + cf q k] := by simp [addL, List.range_succ]
theorem addL_length (p q : List F) (k : Nat) : (addL p q k).length = k := by simp [addL]
theorem addL_all (p q : List F) (k : Nat) (hp : p.length ≤ k) (hq : q.length ≤ k) : trimP (addL p q k) = trimP (addP p q) := by
  refine trim_eqv _ _ (fun i => ?_)
  rw [cf_add]
  by_cases h : i < k
  · unfold cf
    rw [show (addL p q k).getD i 0 = cf p i + cf q i from getD_range _ _ _ _ h]
    rfl
  · rw [cf_ge _ _ (by rw [addL_length]; omega), cf_ge p i (by omega), cf_ge q i (by omega), F.add_zero]
theorem R_cap {α : Type} {enc : α → Value} {h1 : ∀ x, (enc x).oneCell' = true} {e : Nat} {w : World} {base : Nat} {ok : Nat → Prop} {B : Option Addr} {n c : Nat} {xs : List α} (h : (Kd.scalar enc h1).R e w base ok (.slice B n c) xs) : n ≤ c := (Kd.R_reads' h).2.1

set_option maxRecDepth 100000 in
set_option maxHeartbeats 1600000 in
theorem RAdd_any (w : World) (A B : Option Addr) (n m c d : Nat) (p q : List F) (hp : Kd.C fk w A n p) (hq : Kd.C fk w B m q) (hn : n ≤ 1000000) (hm : m ≤ 1000000) :
    Calls Try.prog 90 #[.slice A n c, .slice B m d] w fun e w' => ∃ D cd, e = .returned (.slice D (trimP (addP p q)).length cd) ∧ Kd.R fk 5 w' w.heap.size (fun _ => True) (.slice D (trimP (addP p q)).length cd) (trimP (addP p q)) ∧ Below w.heap.size w w' := by
  obtain rfl : p.length = n := Kd.C_len hp
  obtain rfl : q.length = m := Kd.C_len hq
  have HP := Aside0.mk hp
  have HQ := Aside0.mk hq
  obtain ⟨r, hr⟩ : ∃ r, r = trimP (addP p q) := ⟨_, rfl⟩
  have HRR := Aside0.mk hr
  rw [← hr]
  clear hp hq hr
  go_enter Try.func90, Try.ntmps90
  go_wp2
  go_loopw [5, 6] (fun v5 v6 wr => ∃ (k dd : Nat) (D : Option Addr), k ≤ p.length + q.length ∧ v6 = .int .i64 (k : Int) ∧ v5 = .slice D k dd ∧ Aside0 (k ≤ p.length ∨ k ≤ q.length) ∧ Aside0 (Kd.R fk 5 wr w.heap.size (fun _ => True) (.slice D k dd) (addL p q k)) ∧ Aside0 (Below w.heap.size w wr)) (fun _ v6 _ => p.length + q.length - (intOf v6).toNat)
  case atStart => exact ⟨0, 0, none, by omega, rfl, rfl, ⟨.inl (by omega)⟩, ⟨Kd.R_nil _ _ _ _ _⟩, ⟨Below.refl _ _⟩⟩
  case round =>
    obtain ⟨k, dd, D, hk, rfl, rfl, HK, HR, HB⟩ := hrel
    have hpush : ∀ x, x = cf p k + cf q k → ∃ B' d' W', (Builtin.append_ #[36, 36] 36 #[.slice D k dd, .slice (some ⟨wr.heap.size, 0, none⟩) 1 1]).run Try.prog (wr.alloc (.cells #[encF x] 5)) = .ok (.slice B' (k + 1) d') W' ∧ Kd.R fk 5 W' w.heap.size (fun _ => True) (.slice B' (k + 1) d') (addL p q (k + 1)) ∧ Below w.heap.size w W' := fun x hx => by
      obtain ⟨B', d', W', h1, h2, h3⟩ := R_push (P := Try.prog) encF 0 (h1 := fun _ => rfl) wr w 36 5 (.int .u8 0) 1 Try.underlying36 info5 rfl HR.out HB.out x (by rw [addL_length]; omega) (by omega)
      rw [addL_length] at h1 h2
      rw [hx, ← addL_snoc] at h2
      exact ⟨B', d', W', h1, h2, h3⟩
    by_cases hkp : k < p.length
    · obtain ⟨ad, rfl, hca⟩ := C_at HP.out (Fr.of_below HB.out (fun _ => False)) (fun _ h => h.elim) k hkp
      obtain ⟨a, ha⟩ : ∃ a, a = p.getD k 0 := ⟨_, rfl⟩
      rw [← ha] at hca
      have hx0 := xor0F a
      by_cases hkq : k < q.length
      · obtain ⟨adB, rfl, hcb⟩ := C_at HQ.out (Fr.of_below HB.out (fun _ => False)) (fun _ h => h.elim) k hkq
        obtain ⟨b, hb⟩ : ∃ b, b = q.getD k 0 := ⟨_, rfl⟩
        rw [← hb] at hcb
        have hx1 := xorF a b
        obtain ⟨B', d', W', hrun, hR', hb'⟩ := hpush (a + b) (by rw [ha, hb]; rfl)
        unfold encF at hrun
        generalize a + b = ab at *
        have HX := Aside0.mk hrun
        have HR' := Aside0.mk hR'
        have HB' := Aside0.mk hb'
        clear hrun hR' hb' hpush ha hb
        go_wp2_with (at_builtin; refine wpList_append_run rfl _ _ _ _ rfl rfl rfl HX.out ?_)
        go_roundw
        case rel => exact ⟨k + 1, d', B', by omega, by go_num, rfl, ⟨by omega⟩, HR', HB'⟩
        case measure => simp [intOf]; omega
      · obtain ⟨B', d', W', hrun, hR', hb'⟩ := hpush a (by rw [cf_ge q k (by omega), F.add_zero, ha]; rfl)
        unfold encF at hrun
        have HX := Aside0.mk hrun
        have HR' := Aside0.mk hR'
        have HB' := Aside0.mk hb'
        clear hrun hR' hb' hpush ha
        go_wp2_with (at_builtin; refine wpList_append_run rfl _ _ _ _ rfl rfl rfl HX.out ?_)
        go_roundw
        case rel => exact ⟨k + 1, d', B', by omega, by go_num, rfl, ⟨by omega⟩, HR', HB'⟩
        case measure => simp [intOf]; omega
    · by_cases hkq : k < q.length
      · obtain ⟨adB, rfl, hcb⟩ := C_at HQ.out (Fr.of_below HB.out (fun _ => False)) (fun _ h => h.elim) k hkq
        obtain ⟨b, hb⟩ : ∃ b, b = q.getD k 0 := ⟨_, rfl⟩
        rw [← hb] at hcb
        have hx0 := xor0F b
        obtain ⟨B', d', W', hrun, hR', hb'⟩ := hpush b (by rw [cf_ge p k (by omega), F.zero_add, hb]; rfl)
        unfold encF at hrun
        have HX := Aside0.mk hrun
        have HR' := Aside0.mk hR'
        have HB' := Aside0.mk hb'
        clear hrun hR' hb' hpush hb
        go_wp2_with (at_builtin; refine wpList_append_run rfl _ _ _ _ rfl rfl rfl HX.out ?_)
        go_roundw
        case rel => exact ⟨k + 1, d', B', by omega, by go_num, rfl, ⟨by omega⟩, HR', HB'⟩
        case measure => simp [intOf]; omega
      · have hall := addL_all p q k (by omega) (by omega)
        have HT := Aside0.mk (RTrim_any wr D k dd (addL p q k) (R_C HR.out) (R_cap HR.out) (by omega))
        rw [hall, ← HRR.out] at HT
        clear hall hpush
        go_wp2_with (go_at_call 92; with_reducible refine HT.out.mono ?_; rintro e W1 ⟨D1, d1, rfl, hR1, hb1⟩)
        go_ret
        exact ⟨D1, d1, rfl, Kd.R_lower hR1 HB.out.size, HB.out.trans (hb1.mono HB.out.size)⟩

set_option maxRecDepth 100000 in
set_option maxHeartbeats 1600000 in
theorem RTimes_any (w : World) (A B : Option Addr) (n m c d : Nat) (p q : List F) (hp : Kd.C fk w A n p) (hq : Kd.C fk w B m q) (hl : n + m ≤ 1099511627776) :
    Calls Try.prog 91 #[.slice A n c, .slice B m d] w fun e w' => ∃ D cd, e = .returned (.slice D (trimP (mulP p q)).length cd) ∧ Kd.R fk 5 w' w.heap.size (fun _ => True) (.slice D (trimP (mulP p q)).length cd) (trimP (mulP p q)) ∧ Below w.heap.size w w' := by
  have hpn := Kd.C_len hp
  have hqn := Kd.C_len hq
  have HP := Aside0.mk hp
  have HQ := Aside0.mk hq
  have HPN := Aside0.mk hpn
  have HQN := Aside0.mk hqn
  have hmk := fun W : World => make_u8 (P := Try.prog) 36 5 Try.underlying36 info5 (n + m) (by omega) W
  rw [Int.natCast_add] at hmk
  have hR0 := R_zerosF w w.heap.size (fun _ => True) (n + m) (by omega) (Nat.le_refl _) trivial
  have HR0 := Aside0.mk hR0
  have H0 : Aside0 (MulSt p q (List.replicate (n + m) 0) 0 0) := ⟨by rw [← hpn, ← hqn]; exact mulSt_start p q⟩
  obtain ⟨r, hr⟩ : ∃ r, r = trimP (mulP p q) := ⟨_, rfl⟩
  have HRR := Aside0.mk hr
  rw [← hr]
  clear hp hq hpn hqn hR0 hr
  go_enter Try.func91, Try.ntmps91
  go_wp2
  go_loopw [6] (fun v6 wr => ∃ (k : Nat) (zs : List F), k ≤ n ∧ v6 = .int .i64 k ∧ Aside0 (MulSt p q zs k 0) ∧ Aside0 (Kd.R fk 5 wr w.heap.size (fun _ => True) (.slice (some ⟨w.heap.size, 0, none⟩) (n + m) (n + m)) zs) ∧ Aside0 (Below w.heap.size w wr)) (fun v6 _ => n - (intOf v6).toNat)
  case atStart => exact ⟨0, _, by omega, rfl, H0, HR0, ⟨below_alloc (Below.refl _ _) _⟩⟩
  case round =>
    clear H0 HR0 hmk
    obtain ⟨k, zs, hk, rfl, HZ, HR, HB⟩ := hrel
    obtain ⟨wo, rfl⟩ : ∃ wo : World, wo = wr := ⟨_, rfl⟩
    by_cases hlt : k < n
    · go_wp2
      go_loopw [7] (fun v7 wr => ∃ (j : Nat) (ys : List F), j ≤ m ∧ v7 = .int .i64 j ∧ Aside0 (MulSt p q ys k j) ∧ Aside0 (Kd.R fk 5 wr w.heap.size (fun _ => True) (.slice (some ⟨w.heap.size, 0, none⟩) (n + m) (n + m)) ys) ∧ Aside0 (Below w.heap.size w wr)) (fun v7 _ => m - (intOf v7).toNat)
      case atStart => exact ⟨0, zs, by omega, rfl, HZ, HR, HB⟩
      case round =>
        clear HZ HR HB
        obtain ⟨j, ys, hj, rfl, HY, HR, HB⟩ := hrel
        by_cases hjm : j < m
        · obtain ⟨adA, rfl, hca⟩ := C_at HP.out (Fr.of_below HB.out (fun _ => False)) (fun _ h => h.elim) k hlt
          obtain ⟨a, ha⟩ : ∃ a, a = p.getD k 0 := ⟨_, rfl⟩
          rw [← ha] at hca
          obtain ⟨adB, rfl, hcb⟩ := C_at HQ.out (Fr.of_below HB.out (fun _ => False)) (fun _ h => h.elim) j hjm
          obtain ⟨b, hb⟩ : ∃ b, b = q.getD j 0 := ⟨_, rfl⟩
          rw [← hb] at hcb
          obtain ⟨gb, e, _, _, _, hx, hfz, hset⟩ := R_at (0 : F) HR.out (k + j) (by omega)
          injection e with e
          injection e with e _ _
          subst e
          obtain ⟨z, hz⟩ : ∃ z, z = ys.getD (k + j) 0 := ⟨_, rfl⟩
          rw [← hz] at hx
          have hst := mulSt_step HY.out (by rw [HPN.out]; exact hlt) (by rw [HQN.out]; exact hjm) (z + a * b) (by rw [hz, ha, hb]; rfl)
          have hxr := xorF z (a * b)
          have HS := Aside0.mk (And.intro hst (hset (z + a * b)))
          have HMU := Aside0.mk (fun t => RMulF (wr.drewN t) a b)
          unfold encF at hx
          have hkj : (k : Int) + (j : Int) < (n : Int) + (m : Int) := by omega
          have hkj0 : (0 : Int) ≤ (k : Int) + (j : Int) := by omega
          have hkjn : ((k : Int) + (j : Int)).toNat = k + j := by omega
          have hwr : IntKind.i64.wrap ((k : Int) + (j : Int)) = (k : Int) + (j : Int) := IntWalk.i64_in _ ⟨by omega, by omega⟩
          generalize a * b = ab at HS hxr HMU
          clear hset hst hz hb ha
          go_wp2
          refine wp_region_drawn_tail 21 (by kernel_rfl) (by kernel_rfl) ?_
          simp only [List.take_succ_cons, List.take_zero, List.drop_succ_cons, List.drop_zero]
          repeat (first | go_big_quiet_skip | (go_big_quiet_want; go_big_quiet_op; first | go_big_quiet_on | (apply Exists.intro; refine ⟨fun t => ?_, ?_⟩; (go_at_call 34; exact quiet_drawn (HMU.out t)); go_big_quiet_on)))
          refine wpQuiet_nil ?_
          rintro _ ⟨t, rfl⟩
          go_wp2
          go_roundw
          case rel => exact ⟨j + 1, _, by omega, by go_num, ⟨HS.out.1⟩, ⟨Kd.R_drewN HS.out.2 t⟩, ⟨below_drawN (HB.out.setCell (p := ⟨w.heap.size, k + j, none⟩) (Nat.le_refl _) _) t⟩⟩
          case measure => simp [intOf]; omega
        · obtain rfl : j = m := by omega
          have hst : Aside0 (MulSt p q ys (k + 1) 0) := ⟨mulSt_row (HQN.out.symm ▸ HY.out)⟩
          go_wp2
          go_roundw
          case rel => exact ⟨k + 1, ys, by omega, by go_num, hst, HR, HB⟩
          case measure => simp [intOf]; omega
    · obtain rfl : k = n := by omega
      have he := mulSt_end (HPN.out.symm ▸ HZ.out : MulSt p q zs p.length 0)
      have HT := Aside0.mk (RTrim_any wo (some ⟨w.heap.size, 0, none⟩) (k + m) (k + m) zs (R_C HR.out) (Nat.le_refl _) hl)
      rw [he, ← HRR.out] at HT
      clear he
      go_wp2_with (go_at_call 92; with_reducible refine HT.out.mono ?_; rintro e W1 ⟨D1, d1, rfl, hR1, hb1⟩)
      go_ret
      exact ⟨D1, d1, rfl, Kd.R_lower hR1 HB.out.size, HB.out.trans (hb1.mono HB.out.size)⟩
end Go.Proofs.Ytpeiejkcoadhfaa
/- The reference's polynomials: Roots, Through. -/
namespace Go.Proofs.Ytpeiejkcoadhfaa
open Go.RowKit Go.Shelf Go.Proofs.YtpeiejkcoadhfaaW.PrintWords Go.Proofs.YtpeiejkcoadhfaaW.PrintMore
open Go.BigFrame

set_option maxRecDepth 100000 in
set_option maxHeartbeats 1600000 in
theorem RRoots_any (w : World) (A : Option Addr) (n c : Nat) (xs : List F) (hx : Kd.C fk w A n xs) (hl : n ≤ 1000000) :
    Calls Try.prog 57 #[.slice A n c] w fun e w' => ∃ D cd, e = .returned (.slice D (n + 1) cd) ∧ n + 1 ≤ cd ∧ Kd.C fk w' D (n + 1) (roots xs) ∧ Below w.heap.size w w' := by
  obtain rfl : xs.length = n := Kd.C_len hx
  have HX := Aside0.mk hx
  clear hx
  have hl0 := R_C (R_litF w w.heap.size (fun _ => True) [1] (by decide) (Nat.le_refl _) trivial)
  have HL0 := Aside0.mk hl0
  clear hl0
  go_enter Try.func57, Try.ntmps57
  go_wp2
  go_loopw [3, 4] (fun v3 v4 wr => ∃ (k dd : Nat) (D : Option Addr), k ≤ xs.length ∧ v4 = .int .i64 (k : Int) ∧ v3 = .slice D (k + 1) dd ∧ k + 1 ≤ dd ∧ Aside0 (Kd.C fk wr D (k + 1) (roots (xs.take k))) ∧ Aside0 (Below w.heap.size w wr)) (fun _ v4 _ => xs.length - (intOf v4).toNat)
  case atStart => exact ⟨0, 1, _, by omega, rfl, rfl, by omega, HL0, ⟨below_alloc (Below.refl _ _) _⟩⟩
  case round =>
    clear HL0
    obtain ⟨k, dd, D, hk, rfl, rfl, hdd, HR, HB⟩ := hrel
    by_cases hlt : k < xs.length
    · obtain ⟨ad, rfl, hca⟩ := C_at HX.out (Fr.of_below HB.out (fun _ => False)) (fun _ h => h.elim) k hlt
      have hst := roots_snoc (xs.take k) (xs.getD k 0)
      rw [← take_snoc 0 xs k hlt] at hst
      obtain ⟨a, ha⟩ : ∃ a, a = xs.getD k 0 := ⟨_, rfl⟩
      rw [← ha] at hca hst
      have hbl : Below wr.heap.size wr (wr.alloc (.cells #[.int .u8 a.v, .int .u8 1] 5)) := below_alloc (Below.refl _ _) _
      have hlit : Kd.C fk (wr.alloc (.cells #[.int .u8 a.v, .int .u8 1] 5)) (some ⟨wr.heap.size, 0, none⟩) 2 (lin a) := R_C (R_litF wr wr.heap.size (fun _ => True) (lin a) (by simp [lin]) (Nat.le_refl _) trivial)
      have HT := Aside0.mk (RTimes_any (wr.alloc (.cells #[.int .u8 a.v, .int .u8 1] 5)) D (some ⟨wr.heap.size, 0, none⟩) (k + 1) 2 dd 2 (roots (xs.take k)) (lin a) (Kd.C_below HR.out hbl) hlit (by omega))
      have hrl := roots_length (xs.take (k + 1))
      rw [List.length_take, Nat.min_eq_left (by omega)] at hrl
      rw [← hst, hrl] at HT
      have HBL := Aside0.mk hbl
      clear hst ha hbl hlit hrl
      go_wp2_with (go_at_call 91; with_reducible refine HT.out.mono ?_; rintro e W1 ⟨D1, d1, rfl, hR1, hb1⟩; replace hR1 := Aside0.mk hR1; replace hb1 := Aside0.mk hb1)
      go_roundw
      case rel => exact ⟨k + 1, d1, D1, by omega, by go_num, rfl, R_cap hR1.out, ⟨R_C hR1.out⟩, ⟨(HB.out.trans (HBL.out.mono HB.out.size)).trans (hb1.out.mono (Nat.le_trans HB.out.size HBL.out.size))⟩⟩
      case measure => simp [intOf]; omega
    · obtain rfl : k = xs.length := by omega
      go_wp2
      go_ret
      refine ⟨D, dd, rfl, hdd, ?_, HB.out⟩
      have h := HR.out
      rwa [List.take_length] at h

/-- append, whose run is known, as one step of a region that draws. -/
theorem step_append_run {P : Program} {ops : Array Oper} {o : Oper} {a : Act} {w w' : World} {K : Act → World → Prop} {Q : Exit → Act → World → Prop} {E : Prop} {v y v' : Value}
    (hg : o.guard = none) (s x : Operand) (t t' : TypeId) (hop : o.op = Op.call { callee := Callee.builtin Builtin.append, args := #[s, x], argTypes := #[t, t'] })
    (hs : a.eval s = v) (hx : a.eval x = y) (hrun : (Builtin.append_ #[t, t'] o.type #[v, y]).run P w = .ok v' w') (hK : K (a.put o.dst v') w') :
    if Region.wanted o (yielded ops a.tmps) = true then Oper.wp P o a w K Q else E := by
  have hw : Region.wanted o (yielded ops a.tmps) = true := by simp [Region.wanted, hg]
  rw [if_pos hw]
  unfold Oper.wp
  simp only [execOp, hop, resolve, invoke, builtin, Sem.run_bind, Sem.run_pure, Result.andThen_ok, List.map_toArray, List.map_cons, List.map_nil, hs, hx, hrun]
  exact hK
/-- 'append(append([]T{}, xs[:k]...), xs[k+1:]...)'. -/
theorem R_two (W w : World) (hb : Below w.heap.size w W) (A A2 : Option Addr) (n1 n2 c1 c2 : Nat) (ys zs : List F) (h1 : Kd.C fk W A n1 ys) (h2 : Kd.C fk W A2 n2 zs) (hl : n1 + n2 ≤ 1000000) :
    ∃ B1 d1 W1, (Builtin.append_ #[36, 36] 36 #[.slice (some ⟨W.heap.size, 0, none⟩) 0 0, .slice A n1 c1]).run Try.prog (W.alloc (.cells #[] 5)) = .ok (.slice B1 n1 d1) W1 ∧
    ∃ B2 d2 W2, (Builtin.append_ #[36, 36] 36 #[.slice B1 n1 d1, .slice A2 n2 c2]).run Try.prog W1 = .ok (.slice B2 (n1 + n2) d2) W2 ∧ Kd.R fk 5 W2 w.heap.size (fun _ => True) (.slice B2 (n1 + n2) d2) (ys ++ zs) ∧ Below w.heap.size w W2 := by
  obtain rfl : ys.length = n1 := Kd.C_len h1
  obtain rfl : zs.length = n2 := Kd.C_len h2
  have hb0 : Below W.heap.size W (W.alloc (.cells #[] 5)) := below_alloc (Below.refl _ _) _
  obtain ⟨v1, W1, hrun1, hq1, hg1, hat1⟩ := R_append_row (P := Try.prog) encF (0 : F) (W.alloc (.cells #[] 5)) w.heap.size 36 36 5 _ 1 Try.underlying36 info5 rfl (ys := ys) (c := c1) (R_empty fk 5 W w.heap.size hb.size) (Kd.C_below h1 hb0) (by simp; omega) (by omega) (Nat.le_trans hb.size hb0.size) (fun _ _ => trivial)
  obtain ⟨B1, d1, rfl⟩ := Kd.R_slice hq1
  rw [List.nil_append] at hrun1 hq1
  have hb1 : Below W.heap.size W W1 := hb0.grown hg1 hb0.size (fun k hk => by have : k = W.heap.size := by simpa [Value.ownBlock] using hk.symm
                                                                              omega)
  have hbw1 : Below w.heap.size w W1 := hb.trans (hb1.mono hb.size)
  obtain ⟨v2, W2, hrun2, hq2, hg2, hat2⟩ := R_append_row (P := Try.prog) encF (0 : F) W1 w.heap.size 36 36 5 _ 1 Try.underlying36 info5 rfl (ys := zs) (c := c2) hq1 (Kd.C_below h2 hb1) (by omega) (by omega) hbw1.size (fun _ _ => trivial)
  obtain ⟨B2, d2, rfl⟩ := Kd.R_slice hq2
  rw [List.length_append] at hrun2 hq2
  exact ⟨B1, d1, W1, hrun1, B2, d2, W2, hrun2, hq2, hbw1.grown hg2 hbw1.size (fun k hk => Kd.R_base hq1 k hk)⟩
theorem thru_trim {xs ys s : List F} {n : Nat} (h : ThruTo xs ys s n) : trimP s = s := h.1

set_option maxRecDepth 100000 in
set_option maxHeartbeats 1600000 in
theorem RThrough_any (w : World) (A B : Option Addr) (n c d : Nat) (xs ys : List F) (hx : Kd.C fk w A n xs) (hy : Kd.C fk w B n ys) (hc : n ≤ c) (hl : n ≤ 1000) (hu : Unl xs) :
    Calls Try.prog 55 #[.slice A n c, .slice B n d] w fun e w' => ∃ D cd s, e = .returned (.slice D s.length cd) ∧ s.length ≤ cd ∧ Kd.C fk w' D s.length s ∧ Thru xs ys s ∧ Below w.heap.size w w' := by
  obtain rfl : xs.length = n := Kd.C_len hx
  have HX := Aside0.mk hx
  have HY := Aside0.mk hy
  have HU := Aside0.mk hu
  clear hx hy hu
  go_enter Try.func55, Try.ntmps55
  go_wp2
  go_loopw [5, 6] (fun v5 v6 wr => ∃ (k dd : Nat) (D : Option Addr) (s : List F), k ≤ xs.length ∧ v6 = .int .i64 (k : Int) ∧ v5 = .slice D s.length dd ∧ s.length ≤ dd ∧ Aside0 (Kd.C fk wr D s.length s) ∧ Aside0 (ThruTo xs ys s k) ∧ Aside0 (Below w.heap.size w wr)) (fun _ v6 _ => xs.length - (intOf v6).toNat)
  case atStart => exact ⟨0, 0, none, [], by omega, rfl, rfl, by simp, ⟨Kd.C_nil _ _⟩, ⟨thru_start xs ys⟩, ⟨Below.refl _ _⟩⟩
  case round =>
    obtain ⟨k, dd, D, s, hk, rfl, rfl, hdd, HR, HT, HB⟩ := hrel
    by_cases hlt : k < xs.length
    · obtain ⟨i5, hi5, _, hs5, _⟩ := info_parts info5
      have kt := to_run (P := Try.prog) 36 5 Try.underlying36 hi5 A xs.length c k hk hc
      have kf := from_run (P := Try.prog) 36 5 Try.underlying36 hi5 hs5 A xs.length c (k + 1) (by omega)
      have hXr := Kd.C_below HX.out HB.out
      have hYr := Kd.C_below HY.out HB.out
      have hkl : k + (xs.length - (k + 1)) ≤ 1000000 := by omega
      obtain ⟨B1, d1, W1, hrun1, B2, d2, W2, hrun2, hO, hb2⟩ := R_two wr.drew wr (below_drew (Below.refl _ _)) A (cutA A c (k + 1)) k (xs.length - (k + 1)) c (c - (k + 1)) (xs.take k) (xs.drop (k + 1)) (Kd.C_below (to_C (0 : F) k hXr hk) (below_drew (Below.refl _ _))) (Kd.C_below (from_C (0 : F) c (k + 1) hXr (by omega) hc) (below_drew (Below.refl _ _))) hkl
      have HR1 := Aside0.mk hrun1
      have HR2 := Aside0.mk hrun2
      have HO := Aside0.mk hO
      have HB2 := Aside0.mk hb2
      have hwr : IntKind.i64.wrap ((k : Int) + 1) = (k : Int) + 1 := IntWalk.i64_in _ ⟨by omega, by omega⟩
      rw [show ((k + 1 : Nat) : Int) = (k : Int) + 1 from rfl] at kf
      clear hrun1 hrun2 hO hb2 hXr hYr hi5 hs5 hkl
      go_wp2
      go_region_law (first | refine step_append_run rfl _ _ _ _ rfl rfl rfl HR1.out ?_ | refine step_append_run rfl _ _ _ _ rfl rfl rfl HR2.out ?_)
      clear HR1 HR2 kt kf hwr
      have hbas := basis_others HU.out hlt
      have hlen : k + (xs.length - (k + 1)) + 1 = xs.length := by omega
      obtain ⟨os, hos⟩ : ∃ os, os = xs.take k ++ xs.drop (k + 1) := ⟨_, rfl⟩
      rw [← hos] at HO hbas
      obtain ⟨ol, hol⟩ : ∃ ol, ol = k + (xs.length - (k + 1)) := ⟨_, rfl⟩
      rw [← hol] at HO hlen ⊢
      have HRT := Aside0.mk (RRoots_any W2 B2 ol d2 os (R_C HO.out) (by omega))
      have HBA := Aside0.mk hbas
      have HLN := Aside0.mk hlen
      have holl : ol ≤ 1000 := by omega
      clear hos hol hbas hlen
      go_wp2_with (go_at_call 57; with_reducible refine HRT.out.mono ?_; rintro e W3 ⟨D3, d3, rfl, hd3, hC3, hb3⟩; replace hC3 := Aside0.mk hC3; replace hb3 := Aside0.mk hb3)
      have hbW3 : Below w.heap.size w W3 := HB.out.trans ((HB2.out.trans (hb3.out.mono HB2.out.size)).mono HB.out.size)
      obtain ⟨adA, rfl, hca⟩ := C_at HX.out (Fr.of_below hbW3 (fun _ => False)) (fun _ h => h.elim) k hlt
      obtain ⟨adB, rfl, hcb⟩ := C_at HY.out (Fr.of_below hbW3 (fun _ => False)) (fun _ h => h.elim) k hlt
      obtain ⟨x, hxe⟩ : ∃ x, x = xs.getD k 0 := ⟨_, rfl⟩
      obtain ⟨y, hye⟩ : ∃ y, y = ys.getD k 0 := ⟨_, rfl⟩
      have hne := HBA.out.2.2
      rw [← hxe] at hca hne
      rw [← hye] at hcb
      obtain ⟨v, hv⟩ : ∃ v, v = ev (roots os) x := ⟨_, rfl⟩
      have HE := Aside0.mk (fun t => REval_any (W3.drewN t) D3 (ol + 1) d3 (roots os) x (C_drewN hC3.out t) (by omega))
      rw [← hv] at HE hne
      have HI := Aside0.mk (fun t => RInvF (W3.drewN t) v hne)
      have HM := Aside0.mk (fun t => RMulF (W3.drewN t) y v.inv)
      obtain ⟨c1, hc1⟩ : ∃ c1, c1 = y * v.inv := ⟨_, rfl⟩
      rw [← hc1] at HM
      have HST : Aside0 (Eqv (mulP (roots os) [c1]) (mulP (roots os) [ys.getD k 0 * (ev (roots os) (xs.getD k 0)).inv])) := ⟨by rw [← hxe, ← hye, ← hv, ← hc1]; exact Eqv.refl _⟩
      have HBW3 := Aside0.mk hbW3
      clear hxe hye hv hc1 hbW3 hne HRT
      go_wp2
      refine wp_region_drawn_tail 12 (by kernel_rfl) (by kernel_rfl) ?_
      simp only [List.take_succ_cons, List.take_zero, List.drop_succ_cons, List.drop_zero]
      repeat (first | go_big_quiet_skip | (go_big_quiet_want; go_big_quiet_op; first | go_big_quiet_on | (apply Exists.intro; refine ⟨fun t => ?_, ?_⟩; (first | (go_at_call 56; with_reducible exact quiet_drawn (HE.out t)) | (go_at_call 35; with_reducible exact quiet_drawn (HI.out t)) | (go_at_call 34; with_reducible exact quiet_drawn (HM.out t))); go_big_quiet_on)))
      refine wpQuiet_nil ?_
      rintro _ ⟨t, rfl⟩
      clear HE HI HM
      obtain ⟨V, hV⟩ : ∃ V, V = W3.drewN t := ⟨_, rfl⟩
      have hb3V : Below W3.heap.size W3 V := by rw [hV]; exact pw_below_drewN (Below.refl _ _) t
      have hbV : Below w.heap.size w V := HBW3.out.trans (hb3V.mono HBW3.out.size)
      have hbl : Below V.heap.size V (V.alloc (.cells #[.int .u8 c1.v] 5)) := below_alloc (Below.refl _ _) _
      have hlit : Kd.C fk (V.alloc (.cells #[.int .u8 c1.v] 5)) (some ⟨V.heap.size, 0, none⟩) 1 [c1] := R_C (R_litF V V.heap.size (fun _ => True) [c1] (by simp) (Nat.le_refl _) trivial)
      have HT1 := Aside0.mk (RTimes_any (V.alloc (.cells #[.int .u8 c1.v] 5)) D3 (some ⟨V.heap.size, 0, none⟩) (ol + 1) 1 d3 1 (roots os) [c1] (Kd.C_below (Kd.C_below hC3.out hb3V) hbl) hlit (by omega))
      have hbrV : Below wr.heap.size wr V := (HB2.out.trans (hb3.out.mono HB2.out.size)).trans (hb3V.mono (Nat.le_trans HB2.out.size hb3.out.size))
      have hRV := Kd.C_below HR.out hbrV
      obtain ⟨q, hq⟩ : ∃ q, q = trimP (mulP (roots os) [c1]) := ⟨_, rfl⟩
      have hql : q.length ≤ 1000 + 2 := by
        have h1 := roots_length os
        have h2 := Kd.C_len (R_C HO.out)
        have h3 : (trimP (mulP (roots os) [c1])).length ≤ ol + 1 + 1 := trim_le (fun i hi => cf_mul_ge (roots os) [c1] (ol + 1) 1 (fun j hj => cf_ge _ _ (by omega)) (fun j hj => cf_ge _ _ (by simpa using hj)) i (by omega) (by omega))
        rw [hq]; omega
      have hsl : s.length ≤ 1000 := Nat.le_trans HT.out.2.1 hl
      have HNX := Aside0.mk (thru_step HT.out hlt HBA.out (show Eqv q _ from by rw [hq]; exact (cf_trim _).trans HST.out))
      rw [← hq] at HT1
      have HA1 : Aside0 (∀ D4 d4 W4, Kd.C fk W4 D4 q.length q → Below (V.alloc (.cells #[.int .u8 c1.v] 5)).heap.size (V.alloc (.cells #[.int .u8 c1.v] 5)) W4 → Calls Try.prog 90 #[.slice D s.length dd, .slice D4 q.length d4] W4 fun e w' => ∃ D5 cd, e = .returned (.slice D5 (trimP (addP s q)).length cd) ∧ Kd.R fk 5 w' W4.heap.size (fun _ => True) (.slice D5 (trimP (addP s q)).length cd) (trimP (addP s q)) ∧ Below w.heap.size w w') := ⟨fun D4 d4 W4 h4 hb4 => by
        have hbVW : Below V.heap.size V W4 := hbl.trans (hb4.mono hbl.size)
        refine (RAdd_any W4 D D4 s.length q.length dd d4 s q (Kd.C_below hRV hbVW) h4 (by omega) (by omega)).mono ?_
        rintro e W5 ⟨D5, cd, he, hR5, hb5⟩
        have hbw4 := hbV.trans (hbVW.mono hbV.size)
        exact ⟨D5, cd, he, hR5, hbw4.trans (hb5.mono hbw4.size)⟩⟩
      obtain ⟨r, hr⟩ : ∃ r, r = trimP (addP s q) := ⟨_, rfl⟩
      rw [← hr] at HA1 HNX
      rw [← hV]
      clear hr hq hV hb3V hbV hbl hlit hRV hbrV
      go_wp2_with (first | (go_at_call 91; with_reducible refine HT1.out.mono ?_; rintro e W4 ⟨D4, d4, rfl, hR4, hb4⟩; have HA2 := Aside0.mk (HA1.out D4 d4 W4 (R_C hR4) hb4); clear hR4 hb4) | (go_at_call 90; with_reducible refine HA2.out.mono ?_; rintro e W5 ⟨D5, d5, rfl, hR5, hb5⟩; replace hR5 := Aside0.mk hR5; replace hb5 := Aside0.mk hb5))
      go_roundw
      case rel => exact ⟨k + 1, d5, D5, r, by omega, by go_num, rfl, R_cap hR5.out, ⟨R_C hR5.out⟩, HNX, hb5⟩
      case measure => simp [intOf]; omega
    · obtain rfl : k = xs.length := by omega
      have HTT := Aside0.mk (RTrim_any wr D s.length dd s HR.out hdd (by have := HT.out.2.1; omega))
      rw [HT.out.1] at HTT
      go_wp2_with (go_at_call 92; with_reducible refine HTT.out.mono ?_; rintro e W1 ⟨D1, d1, rfl, hR1, hb1⟩)
      go_ret
      exact ⟨D1, d1, s, rfl, R_cap hR1, R_C hR1, thru_end HT.out rfl, HB.out.trans (hb1.mono HB.out.size)⟩
end Go.Proofs.Ytpeiejkcoadhfaa
/- Params that may be; the reference's Secrets, Each, Xs. -/
namespace Go.Proofs.Ytpeiejkcoadhfaa
open Go.RowKit Go.Shelf Go.Proofs.YtpeiejkcoadhfaaW.PrintWords Go.Proofs.YtpeiejkcoadhfaaW.PrintMore

/-- Params that may be. -/
def Gd (N T K E Rm : Int) : Prop := 0 ≤ N ∧ N ≤ 255 ∧ 1 ≤ T ∧ T ≤ 255 ∧ 1 ≤ K ∧ K ≤ 255 ∧ 0 ≤ E ∧ E ≤ 255 ∧ 1 ≤ Rm ∧ Rm ≤ 512 ∧ T + K + 2 * E ≤ N ∧ N + K ≤ 255
instance (N T K E Rm : Int) : Decidable (Gd N T K E Rm) := by unfold Gd; infer_instance
def goodB (N T K E Rm : Int) : Bool := decide (Gd N T K E Rm)
theorem good_true {N T K E Rm : Int} (h : goodB N T K E Rm = true) : Gd N T K E Rm := of_decide_eq_true h
theorem dgood_f (N T K E Rm : Int) (hN : -9223372036854775808 ≤ N ∧ N ≤ 9223372036854775807) : PDealPoints.deal_Good.f N T K E Rm = some (goodB N T K E Rm) := by
  unfold PDealPoints.deal_Good.f goodB
  simp only [wrap64]
  repeat' split
  all_goals (congr 1; rw [eq_comm]; first | (rw [decide_eq_false_iff_not]; unfold Gd; omega) | (rw [decide_eq_decide]; unfold Gd; omega))
theorem rgood_f (N T K E Rm : Int) (hN : -9223372036854775808 ≤ N ∧ N ≤ 9223372036854775807) : PDealPoints.shamrockref10_Good.f 5 N T K E Rm = some (goodB N T K E Rm) := by
  have e1 : wrap64 (0 + 1) = 1 := by unfold wrap64; omega
  have e2 : wrap64 (1 + 1) = 2 := by unfold wrap64; omega
  have e3 : wrap64 (2 + 1) = 3 := by unfold wrap64; omega
  have e4 : wrap64 (3 + 1) = 4 := by unfold wrap64; omega
  have r0 : rd [N, T, K, E] 0 = N := rfl
  have r1 : rd [N, T, K, E] 1 = T := rfl
  have r2 : rd [N, T, K, E] 2 = K := rfl
  have r3 : rd [N, T, K, E] 3 = E := rfl
  have l4 : (([N, T, K, E] : List Int).length : Int) = 4 := rfl
  unfold PDealPoints.shamrockref10_Good.f
  simp only [Option.bind_some, PDealPoints.shamrockref10_Good.l0, l4, e1, e2, e3, e4, r0, r1, r2, r3]
  unfold goodB
  simp only [wrap64, Int.reduceLT, Int.reduceLE, ↓reduceIte]
  by_cases c0 : N < 0
  · rw [if_pos c0]; congr 1; rw [eq_comm, decide_eq_false_iff_not]; unfold Gd; omega
  rw [if_neg c0]
  by_cases c1 : N > 255
  · rw [if_pos c1]; congr 1; rw [eq_comm, decide_eq_false_iff_not]; unfold Gd; omega
  rw [if_neg c1]
  by_cases c2 : T < 0
  · rw [if_pos c2]; congr 1; rw [eq_comm, decide_eq_false_iff_not]; unfold Gd; omega
  rw [if_neg c2]
  by_cases c3 : T > 255
  · rw [if_pos c3]; congr 1; rw [eq_comm, decide_eq_false_iff_not]; unfold Gd; omega
  rw [if_neg c3]
  by_cases c4 : K < 0
  · rw [if_pos c4]; congr 1; rw [eq_comm, decide_eq_false_iff_not]; unfold Gd; omega
  rw [if_neg c4]
  by_cases c5 : K > 255
  · rw [if_pos c5]; congr 1; rw [eq_comm, decide_eq_false_iff_not]; unfold Gd; omega
  rw [if_neg c5]
  by_cases c6 : E < 0
  · rw [if_pos c6]; congr 1; rw [eq_comm, decide_eq_false_iff_not]; unfold Gd; omega
  rw [if_neg c6]
  by_cases c7 : E > 255
  · rw [if_pos c7]; congr 1; rw [eq_comm, decide_eq_false_iff_not]; unfold Gd; omega
  rw [if_neg c7]
  clear e1 e2 e3 e4 r0 r1 r2 r3 l4
  repeat' split
  all_goals (congr 1; rw [eq_comm]; first | (rw [decide_eq_false_iff_not]; unfold Gd; omega) | (rw [decide_eq_decide]; unfold Gd; omega))
theorem Good_any (w : World) (N T K E Rm : Int) (hN : -9223372036854775808 ≤ N ∧ N ≤ 9223372036854775807) : Calls Try.prog 43 #[parV N T K E Rm] w fun e w' => e = .returned (.bool (goodB N T K E Rm)) ∧ Below w.heap.size w w' :=
  PDealPoints.deal_Good.calls _ _ _ _ _ _ w (dgood_f N T K E Rm hN)
theorem RGood_any (w : World) (N T K E Rm : Int) (hN : -9223372036854775808 ≤ N ∧ N ≤ 9223372036854775807) : Calls Try.prog 44 #[parV N T K E Rm] w fun e w' => e = .returned (.bool (goodB N T K E Rm)) ∧ Below w.heap.size w w' :=
  PDealPoints.shamrockref10_Good.calls 5 _ _ _ _ _ _ w (rgood_f N T K E Rm hN)

theorem REach_f (N T K : Nat) (E Rm kind : Int) (hT : T ≤ 1000) (hK : K ≤ 1000) (hTK : 1 ≤ T + K) (q : Nat) : PDealPoints.shamrockref10_Each.f (q + 1) N T K E Rm kind = some ((eachN T K kind : Nat) : Int) := by
  have h1 : wrap64 ((T : Int) + (K : Int)) = ((T + K : Nat) : Int) := wr_add T K (by omega)
  have h2 : wrap64 (((T + K : Nat) : Int) - 1) = ((T + K - 1 : Nat) : Int) := by rw [wr_pred _ (by omega)]; omega
  unfold PDealPoints.shamrockref10_Each.f PDealPoints.shamrockref10_Each.j0 eachN
  simp only []
  rw [h1, h2]
  by_cases c1 : kind = 1
  · subst c1; simp
  · by_cases c2 : kind = 2
    · subst c2; simp
    · by_cases c3 : kind = 3
      · subst c3; simp
      · by_cases c4 : kind = 4
        · subst c4; simp
        · simp [c1, c2, c3, c4]
theorem REach_any (w : World) (N T K : Nat) (E Rm kind : Int) (hT : T ≤ 1000) (hK : K ≤ 1000) (hTK : 1 ≤ T + K) : Calls Try.prog 50 #[parV N T K E Rm, .int .i64 kind] w fun e w' => e = .returned (.int .i64 ((eachN T K kind : Nat) : Int)) ∧ Below w.heap.size w w' :=
  PDealPoints.shamrockref10_Each.calls 1 _ _ _ _ _ _ _ w (REach_f N T K E Rm kind hT hK hTK 0)

theorem R_bs {w : World} {base : Nat} {ok : Nat → Prop} {v : Value} {p : List F} (h : Kd.R u8 5 w base ok v (bs p)) : ∃ B c, v = .slice B p.length c ∧ p.length ≤ c ∧ Kd.C fk w B p.length p := by
  obtain ⟨B, c, rfl⟩ := Kd.R_slice h
  have h1 := Kd.R_reads' h
  rw [bs_length] at h1 h ⊢
  exact ⟨B, c, rfl, h1.2.1, C_bs.1 h1.2.2⟩
theorem bs_append (p q : List F) : bs (p ++ q) = bs p ++ bs q := by simp [bs]
theorem RSecrets_l0 (N T K : Nat) (E Rm : Int) (hN : N ≤ 1000) (hK : K ≤ 1000) (d : Nat) : ∀ (q i : Nat), i + d = K → d < q → PDealPoints.shamrockref10_Secrets.l0 q (bs (secL N i)) (i : Int) N T K E Rm = some (bs (secL N K)) := by
  induction d with
  | zero =>
    intro q i hi hq
    obtain ⟨q, rfl⟩ : ∃ m, q = m + 1 := ⟨q - 1, by omega⟩
    obtain rfl : i = K := by omega
    simp only [PDealPoints.shamrockref10_Secrets.l0]
    rw [if_neg (by omega)]
  | succ d ih =>
    intro q i hi hq
    obtain ⟨q, rfl⟩ : ∃ m, q = m + 1 := ⟨q - 1, by omega⟩
    have h := ih q (i + 1) (by omega) (by omega)
    simp only [PDealPoints.shamrockref10_Secrets.l0]
    rw [if_pos (by omega), if_pos (by rw [bs_length, secL_length]; omega), wr_succ i (by omega)]
    rw [secL_snoc, bs_append] at h
    have e : wrap64 (wrap64 ((N : Int) + 1) + (i : Int)) % 256 = ((ptF (N + i)).v : Int) := by
      rw [wr_succ N (by omega), wr_add (N + 1) i (by omega), ptF_v]
      omega
    rw [e]
    exact h
theorem RSecrets_any (w : World) (N T K : Nat) (E Rm : Int) (hN : N ≤ 1000) (hK : K ≤ 1000) : Calls Try.prog 48 #[parV N T K E Rm] w fun e w' => ∃ B c, e = .returned (.slice B K c) ∧ K ≤ c ∧ Kd.C fk w' B K (secL N K) ∧ Below w.heap.size w w' := by
  have hf : PDealPoints.shamrockref10_Secrets.f (K + 1) N T K E Rm = some (bs (secL N K)) := RSecrets_l0 N T K E Rm hN hK K (K + 1) 0 (by omega) (by omega)
  refine (PDealPoints.shamrockref10_Secrets.calls _ _ _ _ _ _ _ w hf).mono ?_
  rintro e w' ⟨v, rfl, hR, hb⟩
  obtain ⟨B, c, rfl, hc, hC⟩ := R_bs hR
  rw [secL_length] at hc hC ⊢
  exact ⟨B, c, rfl, hc, hC, hb⟩
/-- Numbers that are read, as the print reads them. -/
theorem C_kn {w : World} {A : Option Addr} {n : Nat} {p : List Nat} : Kd.C (Kd.int .i64) w A n (p.map fun x : Nat => (x : Int)) ↔ Kd.C kn w A n p := by
  have e : ∀ j, (p.map fun x : Nat => (x : Int)).getD j 0 = ((p.getD j 0 : Nat) : Int) := fun j => by
    rw [List.getD_eq_getElem?_getD, List.getD_eq_getElem?_getD, List.getElem?_map]
    cases h : p[j]? <;> rfl
  constructor
  · intro h
    have hr := Kd.reads_of_C (enc := Value.int .i64) (d := (0 : Int)) (h1 := fun _ => rfl) h
    refine Kd.C_of_reads (d := (0 : Nat)) ⟨by have := hr.1; simpa using this, hr.2.1, fun hn => ?_⟩
    obtain ⟨ad, e', hc⟩ := hr.2.2 hn
    exact ⟨ad, e', fun j hj => by rw [hc j hj, e]; rfl⟩
  · intro h
    have hr := Kd.reads_of_C (enc := encN) (d := (0 : Nat)) (h1 := fun _ => rfl) h
    refine Kd.C_of_reads (d := (0 : Int)) ⟨by have := hr.1; simpa using this, hr.2.1, fun hn => ?_⟩
    obtain ⟨ad, e', hc⟩ := hr.2.2 hn
    exact ⟨ad, e', fun j hj => by rw [hc j hj, e]; rfl⟩
theorem RXs_l0 (hs : List Nat) (hl : hs.length ≤ 35184372088832) (hh : ∀ h ∈ hs, h ≤ 1000000) (d : Nat) : ∀ (q i : Nat), i + d = hs.length → d < q → PDealPoints.shamrockref10_Xs.l0 q (hs.map fun x : Nat => (x : Int)) (bs ((hs.take i).map ptF)) (i : Int) = some (bs (hs.map ptF)) := by
  induction d with
  | zero =>
    intro q i hi hq
    obtain ⟨q, rfl⟩ : ∃ m, q = m + 1 := ⟨q - 1, by omega⟩
    simp only [PDealPoints.shamrockref10_Xs.l0]
    rw [if_neg (by rw [List.length_map]; omega), List.take_of_length_le (by omega)]
  | succ d ih =>
    intro q i hi hq
    obtain ⟨q, rfl⟩ : ∃ m, q = m + 1 := ⟨q - 1, by omega⟩
    have h := ih q (i + 1) (by omega) (by omega)
    simp only [PDealPoints.shamrockref10_Xs.l0]
    rw [if_pos (by rw [List.length_map]; omega), if_pos (by omega), if_pos (by rw [bs_length, List.length_map, List.length_take]; omega), wr_succ i (by omega)]
    rw [map_take_snoc ptF 0 hs i (by omega), bs_append] at h
    have hm : hs.getD i 0 ≤ 1000000 := hh _ (by rw [List.getD_eq_getElem?_getD, List.getElem?_eq_getElem (by omega)]; exact List.getElem_mem _)
    have e : wrap64 (rd (hs.map fun x : Nat => (x : Int)) (i : Int) + 1) % 256 = ((ptF (hs.getD i 0)).v : Int) := by
      have : rd (hs.map fun x : Nat => (x : Int)) (i : Int) = ((hs.getD i 0 : Nat) : Int) := by
        unfold rd
        rw [Int.toNat_natCast, List.getD_eq_getElem?_getD, List.getD_eq_getElem?_getD, List.getElem?_map]
        cases h : hs[i]? <;> rfl
      rw [this, wr_succ _ (by omega), ptF_v]
      omega
    rw [e]
    exact h
theorem RXs_any (w : World) (A : Option Addr) (n c : Nat) (hs : List Nat) (hC : Kd.C kn w A n hs) (hc : n ≤ c) (hn : n ≤ 35184372088832) (hh : ∀ h ∈ hs, h ≤ 1000000) : Calls Try.prog 46 #[.slice A n c] w fun e w' => ∃ B d, e = .returned (.slice B n d) ∧ n ≤ d ∧ Kd.C fk w' B n (hs.map ptF) ∧ Below w.heap.size w w' := by
  have hl : hs.length = n := Kd.C_len hC
  have hf : PDealPoints.shamrockref10_Xs.f (n + 1) (hs.map fun x : Nat => (x : Int)) = some (bs (hs.map ptF)) := RXs_l0 hs (by omega) hh n (n + 1) 0 (by omega) (by omega)
  have h := PDealPoints.shamrockref10_Xs.calls _ A c _ _ w (by rw [List.length_map, hl]; exact C_kn.2 hC) (by rw [List.length_map, hl]; exact hc) hf
  rw [List.length_map, hl] at h
  refine h.mono ?_
  rintro e w' ⟨v, rfl, hR, hb⟩
  obtain ⟨B, d, rfl, hd, hC'⟩ := R_bs hR
  rw [List.length_map, hl] at hd hC' ⊢
  exact ⟨B, d, rfl, hd, hC', hb⟩
end Go.Proofs.Ytpeiejkcoadhfaa
/- The reference's polynomials in the making: Times of layer 10, Factor. -/
namespace Go.Proofs.Ytpeiejkcoadhfaa
open Go.RowKit Go.Shelf Go.Proofs.YtpeiejkcoadhfaaW.PrintWords Go.Proofs.YtpeiejkcoadhfaaW.PrintMore
open Go.BigFrame

/-- Polynomials in new memory, in a row of one's own; each may have more room than it needs. -/
def PolyW (W : World) (b : Nat) (v : Value) (qs : List (List F)) : Prop :=
  ∃ hs : List Hd, Kd.R kh 36 W b (fun _ => True) v hs ∧ hs.length = qs.length ∧ ∀ i, i < qs.length → ∃ B c, hs.getD i hd0 = (B, (qs.getD i []).length, c) ∧ (qs.getD i []).length ≤ c ∧ RF W b B (qs.getD i [])
theorem polyW_nil (W : World) (b : Nat) : PolyW W b (.slice none 0 0) [] := ⟨[], Kd.R_nil _ _ _ _ _, rfl, fun i hi => absurd hi (by simp)⟩
theorem polyW_fr {S : Nat → Prop} {W W1 : World} {b : Nat} {v : Value} {qs : List (List F)} (h : PolyW W b v qs) (hf : Fr S W W1) (hS : NoRow S b W) : PolyW W1 b v qs := by
  obtain ⟨hs, h1, h2, h3⟩ := h
  obtain ⟨A, c, rfl⟩ := Kd.R_slice h1
  refine ⟨hs, R_fr1 h1 hf (fun k hk hs' => ?_), h2, fun i hi => ?_⟩
  · obtain ⟨cells, hc⟩ := Kd.R_typed h1 k (ob_own hk)
    exact (hS k (ob_base (Kd.Q_of_R h1) k hk).1 hs' cells 36 hc).2 rfl
  · obtain ⟨B, c, e, hc, hr⟩ := h3 i hi
    exact ⟨B, c, e, hc, RF_noRow hr hf (fun k hk hs' cells t hc => (hS k hk hs' cells t hc).1)⟩
theorem polyW_below {W W1 : World} {b : Nat} {v : Value} {qs : List (List F)} (h : PolyW W b v qs) (hb : Below W.heap.size W W1) : PolyW W1 b v qs := polyW_fr h (Fr.of_below hb (fun _ => False)) (no_none _ _)
theorem polyW_lower {W : World} {b b' : Nat} {v : Value} {qs : List (List F)} (h : PolyW W b v qs) (hb : b' ≤ b) : PolyW W b' v qs := by
  obtain ⟨hs, h1, h2, h3⟩ := h
  exact ⟨hs, Kd.R_lower h1 hb, h2, fun i hi => by obtain ⟨B, c, e, hc, hr⟩ := h3 i hi; exact ⟨B, c, e, hc, RF_lower hr hb⟩⟩
theorem polyW_slice {W : World} {b : Nat} {v : Value} {qs : List (List F)} (h : PolyW W b v qs) : ∃ A c, v = .slice A qs.length c := by
  obtain ⟨hs, h1, h2, _⟩ := h
  obtain ⟨A, c, e⟩ := Kd.R_slice h1
  exact ⟨A, c, by rw [← h2]; exact e⟩
theorem polyW_PL {W : World} {b c : Nat} {A : Option Addr} {n : Nat} {qs : List (List F)} (h : PolyW W b (.slice A n c) qs) : PL W A n qs := by
  obtain ⟨hs, h1, h2, h3⟩ := h
  have h4 := Kd.R_reads' h1
  have hn : n = qs.length := by rw [← h2]; exact h4.1
  refine ⟨hs, R_C h1, hn.symm, fun i hi => ?_⟩
  obtain ⟨B, c, e, hc, hr⟩ := h3 i (by omega)
  rw [e]
  exact ⟨rfl, hc, hr.1⟩
/-- 'append(polys, q)'. -/
theorem polyW_push (wr : World) (b : Nat) (v : Value) (qs : List (List F)) (H : PolyW wr b v qs) (hb : b ≤ wr.heap.size) (B : Option Addr) (q : List F) (cq : Nat) (hcq : q.length ≤ cq) (hB : RF wr b B q) (m : Nat) (hm : qs.length = m) (hml : m ≤ 1099511627776) :
    ∃ B' d' W', (Builtin.append_ #[37, 37] 37 #[v, .slice (some ⟨wr.heap.size, 0, none⟩) 1 1]).run Try.prog (wr.alloc (.cells #[.slice B q.length cq] 36)) = .ok (.slice B' (m + 1) d') W' ∧ PolyW W' b (.slice B' (m + 1) d') (qs ++ [q]) ∧ Fr (fun k => b ≤ k ∧ v.ownBlock = some k) wr W' := by
  subst hm
  obtain ⟨hs, h1, h2, h3⟩ := H
  have hb1 : Below wr.heap.size wr (wr.alloc (.cells #[encHd (B, q.length, cq)] 36)) := below_alloc (Below.refl _ _) _
  have hlit : Kd.R kh 36 (wr.alloc (.cells #[encHd (B, q.length, cq)] 36)) wr.heap.size (fun _ => True) (.slice (some ⟨wr.heap.size, 0, none⟩) 1 1) [(B, q.length, cq)] :=
    Kd.R_of_own (own_lit_of wr wr.heap.size 36 [(B, q.length, cq)] (Nat.le_refl _) (by simp)) (fun _ _ => trivial)
  have hr := R_fr h1 (Fr.of_below hb1 (fun _ => False)) (fun _ _ _ _ h => h)
  obtain ⟨v', W', hrun, hR, hgr, hat⟩ := R_append_row (P := Try.prog) encHd hd0 (wr.alloc (.cells #[encHd (B, q.length, cq)] 36)) b 37 37 36 (.slice none 0 0) 24 Try.underlying37 info36' rfl (ys := [(B, q.length, cq)]) (c := 1) hr (R_C hlit) (by simp only [List.length_cons, List.length_nil]; omega) (by omega) (Nat.le_trans hb hb1.size) (fun _ _ => trivial)
  obtain ⟨B', d', rfl⟩ := Kd.R_slice hR
  rw [List.length_append, h2] at hrun hR
  have hf : Fr (fun k => b ≤ k ∧ v.ownBlock = some k) wr W' := (Fr.of_below hb1 _).trans (Fr.of_grown hgr (fun k hk => .inl ⟨Kd.R_base h1 k hk, hk⟩)) (fun k hk => .inl hk)
  have hno : ∀ k, b ≤ k → (b ≤ k ∧ v.ownBlock = some k) → ∀ cells t, wr.heap[k]? = some (.cells cells t (0, 0)) → t ≠ 5 := fun k _ hk cells t hc => by
    obtain ⟨c2, hc2⟩ := Kd.R_typed h1 k hk.2
    rw [hc] at hc2
    injection hc2 with hc2
    injection hc2 with _ hc2
    rw [hc2]
    decide
  refine ⟨B', d', W', hrun, ⟨hs ++ [(B, q.length, cq)], hR, by simp [h2], fun i hi => ?_⟩, hf⟩
  rw [List.length_append, List.length_cons, List.length_nil] at hi
  rw [getD_app, getD_app, h2]
  by_cases e : i < qs.length
  · rw [if_pos e, if_pos e]
    obtain ⟨B0, c0, e0, hc0, hr0⟩ := h3 i e
    exact ⟨B0, c0, e0, hc0, RF_noRow hr0 hf hno⟩
  · rw [if_neg e, if_neg e, if_pos (by omega), if_pos (by omega)]
    exact ⟨B, cq, rfl, hcq, RF_noRow hB hf hno⟩
/-- Element k: it is read, and it may be set. -/
theorem polyW_at {W : World} {b c : Nat} {A : Option Addr} {n : Nat} {qs : List (List F)} (h : PolyW W b (.slice A n c) qs) (k : Nat) (hk : k < n) :
    ∃ g B d, A = some ⟨g, 0, none⟩ ∧ b ≤ g ∧ W.cell? ⟨g, k, none⟩ = some (.slice B (qs.getD k []).length d) ∧ (qs.getD k []).length ≤ d ∧ Kd.C fk W B (qs.getD k []).length (qs.getD k []) ∧ W.frozen? ⟨g, k, none⟩ = false ∧
      ∀ W1, Below W.heap.size W W1 → W1.cell? ⟨g, k, none⟩ = some (.slice B (qs.getD k []).length d) ∧ W1.frozen? ⟨g, k, none⟩ = false ∧
        ∀ D q cq, q.length ≤ cq → RF W1 b D q → PolyW (W1.setCell ⟨g, k, none⟩ (.slice D q.length cq)) b (.slice A n c) (qs.set k q) := by
  have hfr := fun W1 (hb : Below W.heap.size W W1) => polyW_below h hb
  obtain ⟨hs, h1, h2, h3⟩ := h
  have hn : n = hs.length := (Kd.Q_reads' (Kd.Q_of_R h1)).1
  obtain ⟨g, e, hbg, _, _, hx, hz, _⟩ := R_at hd0 h1 k hk
  obtain ⟨B, d, eh, hd, hr⟩ := h3 k (by omega)
  rw [eh] at hx
  refine ⟨g, B, d, e, hbg, hx, hd, hr.1, hz, fun W1 hb => ?_⟩
  obtain ⟨hs', h1', h2', h3'⟩ := hfr W1 hb
  obtain ⟨g', e', _, _, _, hx', hz', hset⟩ := R_at hd0 h1' k hk
  rw [e] at e'
  injection e' with e'
  injection e' with e' _ _
  subst e'
  have hcell : W1.cell? ⟨g, k, none⟩ = some (.slice B (qs.getD k []).length d) := (hb.cell (p := ⟨g, k, none⟩) (World.block_lt_of_cell? W _ hx)).trans hx
  refine ⟨hcell, hz', fun D q cq hcq hq => ?_⟩
  have hf : Fr (fun j => j = g) W1 (W1.setCell ⟨g, k, none⟩ (.slice D q.length cq)) := (Fr.refl (fun j => j = g) W1).set_ (p := ⟨g, k, none⟩) (.inl rfl) _
  have hgt : ∀ j, b ≤ j → j = g → ∀ cells t, W1.heap[j]? = some (.cells cells t (0, 0)) → t ≠ 5 := fun j _ hj cells t hc => by
    obtain ⟨c2, hc2⟩ := Kd.R_typed h1' j (by rw [e, hj]; simp [Value.ownBlock])
    rw [hc] at hc2
    injection hc2 with hc2
    injection hc2 with _ hc2
    rw [hc2]
    decide
  have hset' := hset (D, q.length, cq)
  refine ⟨hs'.set k (D, q.length, cq), hset', by rw [List.length_set, List.length_set]; exact h2', fun i hi => ?_⟩
  rw [List.length_set] at hi
  have hn' : n = hs'.length := (Kd.Q_reads' (Kd.Q_of_R h1')).1
  rw [getD_set _ _ _ _ _ (by omega), getD_set _ _ _ _ _ (by omega)]
  by_cases ei : i = k
  · rw [if_pos ei, if_pos ei]
    exact ⟨D, cq, rfl, hcq, RF_noRow hq hf hgt⟩
  · rw [if_neg ei, if_neg ei]
    obtain ⟨B0, c0, e0, hc0, hr0⟩ := h3' i hi
    exact ⟨B0, c0, e0, hc0, RF_noRow hr0 hf hgt⟩

theorem dealtL_snoc (cols en : Nat) (fs rnd : List F) : dealtL (cols + 1) en fs rnd = dealtL cols en fs rnd ++ [trimP (mulP fs (pieceL rnd en cols))] := by simp [dealtL, List.range_succ]
theorem dealtL_length (cols en : Nat) (fs rnd : List F) : (dealtL cols en fs rnd).length = cols := by simp [dealtL]
set_option maxRecDepth 100000 in
set_option maxHeartbeats 1600000 in
theorem RTimesL_any (w : World) (N T K : Nat) (E Rm kind : Int) (cols : Nat) (A X : Option Addr) (n c nf cf' : Nat) (rnd fs : List F) (hr : Kd.C fk w A n rnd) (hf : Kd.C fk w X nf fs) (hc : n ≤ c) (hT : T ≤ 1000) (hK : K ≤ 1000) (hTK : 1 ≤ T + K) (hcl : cols ≤ 100000) (hn : eachN T K kind * cols ≤ n) (hnl : n ≤ 1099511627775) (hnf : nf ≤ 1000000) :
    Calls Try.prog 89 #[parV N T K E Rm, .int .i64 kind, .int .i64 cols, .slice A n c, .slice X nf cf'] w fun e w' => ∃ B d, e = .returned (.slice B cols d) ∧ PolyW w' w.heap.size (.slice B cols d) (dealtL cols (eachN T K kind) fs rnd) ∧ Below w.heap.size w w' := by
  have HEA := Aside0.mk (fun W => REach_any W N T K E Rm kind hT hK hTK)
  obtain ⟨en, hen⟩ : ∃ en, en = eachN T K kind := ⟨_, rfl⟩
  have henl := eachN_le T K kind hT hK
  rw [← hen] at HEA hn henl ⊢
  have HR := Aside0.mk hr
  have HX := Aside0.mk hf
  have HHN := Aside0.mk hn
  have hu48 := Try.underlying48
  unfold parV at *
  clear hr hf hen hn
  go_enter Try.func89, Try.ntmps89
  go_wp2_with (go_at_call 50; with_reducible refine (HEA.out _).mono ?_; rintro e W1 ⟨rfl, hb1⟩; replace hb1 := Aside0.mk hb1)
  have HB1 : Aside0 (Below w.heap.size w W1) := ⟨below_then (below_alloc (Below.refl _ w) _) (by simp) hb1.out⟩
  clear hb1 HEA
  go_loopw [11, 13] (fun v11 v13 wr => ∃ (k dd : Nat) (D : Option Addr), k ≤ cols ∧ v13 = .int .i64 (k : Int) ∧ v11 = .slice D k dd ∧ Aside0 (PolyW wr w.heap.size (.slice D k dd) (dealtL k en fs rnd)) ∧ Aside0 (Below w.heap.size w wr)) (fun _ v13 _ => cols - (intOf v13).toNat)
  case atStart => exact ⟨0, 0, none, by omega, rfl, rfl, ⟨polyW_nil _ _⟩, HB1⟩
  case round =>
    clear HB1
    obtain ⟨k, dd, D, hk, rfl, rfl, HP, HB⟩ := hrel
    by_cases hlt : k < cols
    · have hm1 : k * en + en ≤ n := by
        have h1 := Nat.mul_le_mul_left en (show k + 1 ≤ cols from hlt)
        rw [Nat.mul_add, Nat.mul_one] at h1
        rw [Nat.mul_comm k en]
        have := HHN.out
        omega
      have w1 : IntKind.i64.wrap ((k : Int) * (en : Int)) = ((k * en : Nat) : Int) := by
        rw [← Int.natCast_mul, IntWalk.i64_in _ ⟨by omega, by omega⟩]
      have w2 : IntKind.i64.wrap (((k * en : Nat) : Int) + (en : Int)) = ((k * en + en : Nat) : Int) := by
        rw [← Int.natCast_add, IntWalk.i64_in _ ⟨by omega, by omega⟩]
      have hcut : ∀ W : World, (Instr.slice 36 (.slice A n c) (some (.int .i64 ((k * en : Nat) : Int))) (some (.int .i64 ((k * en + en : Nat) : Int))) none).run Try.prog W = .ok (pieceV A c en k) W := fun W => by
        obtain ⟨f, hi, _, hs, _⟩ := info_parts info5
        have := mid_run (P := Try.prog) 36 5 Try.underlying36 hi hs A n c (k * en) (k * en + en) (by omega) hm1 hc W
        rw [Nat.add_sub_cancel_left] at this
        exact this
      have HT := Aside0.mk (RTimes_any wr X (cutA A c (k * en)) nf en cf' (c - k * en) fs (pieceL rnd en k) (Kd.C_below HX.out HB.out) (piece_C (Kd.C_below HR.out HB.out) hm1 hc) (by omega))
      have hsn := dealtL_snoc k en fs rnd
      obtain ⟨q, hq⟩ : ∃ q, q = trimP (mulP fs (pieceL rnd en k)) := ⟨_, rfl⟩
      rw [← hq] at HT hsn
      have HSN := Aside0.mk hsn
      unfold pieceV at hcut
      obtain ⟨A1, hA1⟩ : ∃ A1, A1 = cutA A c (k * en) := ⟨_, rfl⟩
      obtain ⟨c1, hc1⟩ : ∃ c1, c1 = c - k * en := ⟨_, rfl⟩
      rw [← hA1, ← hc1] at hcut HT
      have HPU : Aside0 (∀ B d W, Kd.R fk 5 W wr.heap.size (fun _ => True) (.slice B q.length d) q → Below wr.heap.size wr W → ∃ B' d' W', (Builtin.append_ #[37, 37] 37 #[.slice D k dd, .slice (some ⟨W.heap.size, 0, none⟩) 1 1]).run Try.prog (W.alloc (.cells #[.slice B q.length d] 36)) = .ok (.slice B' (k + 1) d') W' ∧ Aside0 (PolyW W' w.heap.size (.slice B' (k + 1) d') (dealtL (k + 1) en fs rnd)) ∧ Aside0 (Below w.heap.size w W')) := ⟨fun B d W hR hb => by
        have hbw := HB.out.trans (hb.mono HB.out.size)
        obtain ⟨B', d', W', h1, h2, h3⟩ := polyW_push W w.heap.size (.slice D k dd) _ (polyW_below HP.out hb) hbw.size B q d (R_cap hR) (RF_lower (RF_of_R hR) HB.out.size) k (dealtL_length _ _ _ _) (by omega)
        rw [← HSN.out] at h2
        exact ⟨B', d', W', h1, ⟨h2⟩, ⟨(Fr.of_below hbw (fun _ => False)).trans h3 (fun j hj => .inr hj.1) |>.f_below⟩⟩⟩
      generalize k * en = lo at *
      generalize lo + en = hi at *
      clear hq hsn hA1 hc1
      go_wp2_with (first | (go_at_call 91; with_reducible refine HT.out.mono ?_; rintro e W3 ⟨B3, d3, rfl, hR3, hb3⟩; obtain ⟨B', d', W', hrun, hP', hB'⟩ := HPU.out B3 d3 W3 hR3 hb3; replace hrun := Aside0.mk hrun; clear hR3 hb3) | (at_builtin; refine wpList_append_run rfl _ _ _ _ rfl rfl rfl hrun.out ?_))
      go_roundw
      case rel => exact ⟨k + 1, d', B', by omega, by go_num, rfl, hP', hB'⟩
      case measure => simp [intOf]; omega
    · obtain rfl : k = cols := by omega
      go_wp2
      go_ret
      exact ⟨D, dd, rfl, HP.out, HB.out⟩

/-- What random polynomials of a kind are multiplied by. -/
def factorL (N K : Nat) (kind : Int) (t : F) : List F := if kind = 2 then roots (secL N K) else if kind = 3 then lin t else [1]
theorem factorL_len (N K : Nat) (kind : Int) (t : F) : (factorL N K kind t).length ≤ K + 2 := by
  unfold factorL
  split
  · rw [roots_length, secL_length]; omega
  · split
    · simp [lin]
    · simp
set_option maxRecDepth 100000 in
set_option maxHeartbeats 800000 in
theorem RFactor_any (w : World) (N T K : Nat) (E Rm kind target : Int) (t : F) (hN : N ≤ 1000) (hK : K ≤ 1000) (ht : kind = 3 → wrap64 (target + 1) % 256 = (t.v : Int)) :
    Calls Try.prog 94 #[parV N T K E Rm, .int .i64 kind, .int .i64 target] w fun e w' => ∃ D cd, e = .returned (.slice D (factorL N K kind t).length cd) ∧ (factorL N K kind t).length ≤ cd ∧ Kd.C fk w' D (factorL N K kind t).length (factorL N K kind t) ∧ Below w.heap.size w w' := by
  have HSE := Aside0.mk (fun W => RSecrets_any W N T K E Rm hN hK)
  have hu48 := Try.underlying48
  unfold parV at *
  by_cases h2 : kind = 2
  · subst h2
    have e : factorL N K 2 t = roots (secL N K) := by simp [factorL]
    have hl := roots_length (secL N K)
    rw [secL_length] at hl
    rw [e, hl]
    clear e hl ht
    go_enter Try.func94, Try.ntmps94
    go_wp2_with (first | (go_at_call 48; with_reducible refine (HSE.out _).mono ?_; rintro e W1 ⟨B1, c1, rfl, hc1, hC1, hb1⟩; have HRO := Aside0.mk (RRoots_any W1 B1 K c1 (secL N K) hC1 (by omega)); replace hb1 := Aside0.mk hb1; clear hC1) | (go_at_call 57; with_reducible refine HRO.out.mono ?_; rintro e W2 ⟨B2, c2, rfl, hc2, hC2, hb2⟩))
    go_ret
    exact ⟨B2, c2, rfl, hc2, hC2, (below_then (below_alloc (Below.refl _ w) _) (by simp) hb1.out).trans (hb2.mono (below_then (below_alloc (Below.refl _ w) _) (by simp) hb1.out).size)⟩
  · by_cases h3 : kind = 3
    · subst h3
      have e : factorL N K 3 t = lin t := by simp [factorL]
      have ht' := ht rfl
      have hl : (lin t).length = 2 := rfl
      have hL := R_C (R_litF (w.alloc (.cells #[.int .i64 N, .int .i64 T, .int .i64 K, .int .i64 E, .int .i64 Rm] 48)) _ (fun _ => True) (lin t) (by simp [lin]) (Nat.le_refl _) trivial)
      rw [World.size_alloc] at hL
      have HL := Aside0.mk hL
      rw [e, hl]
      clear e hl ht HSE hL
      go_enter Try.func94, Try.ntmps94
      go_wp2
      go_ret
      refine ⟨_, 2, rfl, Nat.le_refl _, HL.out, below_alloc (below_alloc (Below.refl _ w) _) _⟩
    · have e : factorL N K kind t = [1] := by simp [factorL, h2, h3]
      have hl : ([1] : List F).length = 1 := rfl
      have b2 : (kind == 2) = false := by simpa using h2
      have b3 : (kind == 3) = false := by simpa using h3
      have hL := R_C (R_litF (w.alloc (.cells #[.int .i64 N, .int .i64 T, .int .i64 K, .int .i64 E, .int .i64 Rm] 48)) _ (fun _ => True) [1] (by simp) (Nat.le_refl _) trivial)
      rw [World.size_alloc] at hL
      have HL := Aside0.mk hL
      rw [e, hl]
      clear e hl ht HSE h2 h3 hL
      go_enter Try.func94, Try.ntmps94
      go_wp2
      go_ret
      exact ⟨_, 1, rfl, Nat.le_refl _, HL.out, below_alloc (below_alloc (Below.refl _ w) _) _⟩
end Go.Proofs.Ytpeiejkcoadhfaa
/- The reference's shares; the same rows?; two rows together. -/
namespace Go.Proofs.Ytpeiejkcoadhfaa
open Go.RowKit Go.Shelf Go.Proofs.YtpeiejkcoadhfaaW.PrintWords Go.Proofs.YtpeiejkcoadhfaaW.PrintMore
open Go.BigFrame
attribute [local go_sem] Oper.semAt_some

/-- The values at all holders' points, row by row: h rows are whole, of the next one there are j. -/
def rowsH (N : Nat) (qs : List (List F)) (h j : Nat) : List (List F) := (List.range N).map fun i => (qs.take (if i < h then qs.length else if i = h then j else 0)).map fun q => ev q (ptF i)
theorem rowsH_get (N : Nat) (qs : List (List F)) (h j i : Nat) (hi : i < N) : (rowsH N qs h j).getD i [] = (qs.take (if i < h then qs.length else if i = h then j else 0)).map fun q => ev q (ptF i) := getD_range _ _ _ _ hi
theorem rowsH_start (N : Nat) (qs : List (List F)) : rowsH N qs 0 0 = List.replicate N [] := by
  apply List.ext_getElem
  · simp [rowsH]
  · intro i h1 h2
    simp only [rowsH, List.getElem_map, List.getElem_range, List.getElem_replicate]
    rw [if_neg (by omega)]
    split <;> simp
theorem rowsH_next (N : Nat) (qs : List (List F)) (h : Nat) : rowsH N qs h qs.length = rowsH N qs (h + 1) 0 := by
  apply List.ext_getElem
  · simp [rowsH]
  · intro i h1 h2
    simp only [rowsH, List.getElem_map, List.getElem_range]
    congr 2
    by_cases c1 : i < h
    · rw [if_pos c1, if_pos (by omega)]
    · rw [if_neg c1]
      by_cases c2 : i = h
      · rw [if_pos c2, if_pos (by omega)]
      · rw [if_neg c2, if_neg (by omega)]
        split <;> rfl
theorem rowsH_end (N : Nat) (qs : List (List F)) : rowsH N qs N 0 = sharesL N qs := by
  apply List.ext_getElem
  · simp [rowsH, sharesL]
  · intro i h1 h2
    have : i < N := by simpa [rowsH] using h1
    simp only [rowsH, sharesL, List.getElem_map, List.getElem_range]
    rw [if_pos this, List.take_length]
theorem rowsH_step (N : Nat) (qs : List (List F)) (h j : Nat) (hh : h < N) (hj : j < qs.length) : (rowsH N qs h j).set h ((rowsH N qs h j).getD h [] ++ [ev (qs.getD j []) (ptF h)]) = rowsH N qs h (j + 1) := by
  rw [rowsH_get _ _ _ _ _ hh, if_neg (by omega), if_pos rfl]
  apply List.ext_getElem
  · simp [rowsH]
  · intro i h1 h2
    have hi : i < N := by simpa [rowsH] using h2
    rw [List.getElem_set]
    by_cases e : h = i
    · subst e
      rw [if_pos rfl]
      simp only [rowsH, List.getElem_map, List.getElem_range]
      rw [if_neg (by omega), if_pos trivial]
      exact (map_take_snoc (fun q => ev q (ptF h)) [] qs j hj).symm
    · rw [if_neg e]
      simp only [rowsH, List.getElem_map, List.getElem_range]
      congr 2
      by_cases c1 : i < h
      · rw [if_pos c1, if_pos c1]
      · rw [if_neg c1, if_neg c1, if_neg (by omega), if_neg (by omega)]
theorem rowsH_len (N : Nat) (qs : List (List F)) (h j : Nat) (hh : h < N) (hj : j ≤ qs.length) : ((rowsH N qs h j).getD h []).length = j := by
  rw [rowsH_get _ _ _ _ _ hh, if_neg (by omega), if_pos rfl, List.length_map, List.length_take]
  omega
theorem ptF_u8 (h : Nat) (hh : h ≤ 1000000) : IntKind.u8.wrap (IntKind.i64.wrap ((h : Int) + 1)) = ((ptF h).v : Int) := by
  rw [IntWalk.i64_in _ ⟨by omega, by omega⟩, ptF_v, IntKind.wrap_u8]
  omega

set_option maxRecDepth 100000 in
set_option maxHeartbeats 3200000 in
theorem RShares_any (w : World) (N : Nat) (T K E Rm : Int) (A : Option Addr) (n c : Nat) (qs : List (List F)) (hP : PL w A n qs) (hN : N ≤ 1000) (hn : n ≤ 100000) (hq : ∀ q ∈ qs, q.length ≤ 1099511627776) :
    Calls Try.prog 53 #[parV N T K E Rm, .slice A n c] w fun e w' => ∃ b, e = .returned (.slice (some ⟨b, 0, none⟩) N N) ∧ w.heap.size ≤ b ∧ RowsO w' w.heap.size (fun _ => True) b N (sharesL N qs) ∧ Below w.heap.size w w' := by
  have hmk := fun W : World => makeN (P := Try.prog) 37 36 (.slice none 0 0) 24 Try.underlying37 info36' rfl (by omega) N (by omega) W
  have HP := Aside0.mk hP
  have HQ := Aside0.mk hq
  clear hP hq
  have hu48 := Try.underlying48
  unfold parV
  go_enter Try.func53, Try.ntmps53
  go_wp2
  obtain ⟨w1, hw1, hz1, a0, hb1⟩ := heap1 w (Obj.cells #[Value.int IntKind.i64 N, Value.int IntKind.i64 T, Value.int IntKind.i64 K, Value.int IntKind.i64 E, Value.int IntKind.i64 Rm] 48)
  obtain ⟨V, hV, hzV, a1, hbV⟩ := heap1 w1 (Obj.cells (Array.replicate N (Value.slice none 0 0)) 36)
  have hR0 : RowsO V w1.heap.size (fun _ => True) w1.heap.size N (List.replicate N []) := by rw [hV]; exact rows_start w1 _ _ N (by omega)
  rw [← hw1, ← hV]
  obtain ⟨s, hs⟩ : ∃ s, s = w.heap.size := ⟨_, rfl⟩
  rw [hz1] at hR0 hzV
  rw [← hs] at a0 hR0 hzV ⊢
  have a0' := blk_below a0 hbV
  rw [← rowsH_start N qs] at hR0
  have HR0 := Aside0.mk hR0
  have HS := Aside0.mk hs
  have HV : Aside0 (Below w.heap.size w V ∧ V.heap.size = s + 2) := ⟨hb1.trans (hbV.mono hb1.size), by omega⟩
  have HC0 : Aside0 (∀ W, Fr (fun j => s + 1 ≤ j) V W → W.cell? ⟨s, 0, none⟩ = some (.int .i64 N)) := ⟨fun W hW => cell_at (hW.blk a0' (by omega)) rfl⟩
  clear hw1 hV hR0 hs a0 a0' a1 hb1 hbV hz1 hzV hmk
  go_loopw [6] (fun v6 wr => ∃ (h : Nat), h ≤ N ∧ v6 = .int .i64 h ∧ Aside0 (RowsO wr (s + 1) (fun _ => True) (s + 1) N (rowsH N qs h 0)) ∧ Aside0 (Fr (fun j => s + 1 ≤ j) V wr)) (fun v6 _ => N - (intOf v6).toNat)
  case atStart => exact ⟨0, by omega, rfl, HR0, ⟨Fr.refl _ _⟩⟩
  case round =>
    clear HR0
    obtain ⟨h, hh, rfl, HR, HF⟩ := hrel
    obtain ⟨wo, rfl⟩ : ∃ wo : World, wo = wr := ⟨_, rfl⟩
    have c0 := HC0.out _ HF.out
    by_cases hlt : h < N
    · go_wp2
      clear c0
      go_loopw [7] (fun v7 wr => ∃ (j : Nat), j ≤ n ∧ v7 = .int .i64 j ∧ Aside0 (RowsO wr (s + 1) (fun _ => True) (s + 1) N (rowsH N qs h j)) ∧ Aside0 (Fr (fun j => s + 1 ≤ j) V wr)) (fun v7 _ => n - (intOf v7).toNat)
      case atStart => exact ⟨0, by omega, rfl, HR, HF⟩
      case round =>
        clear HR HF
        obtain ⟨j, hj, rfl, HR, HF⟩ := hrel
        have hbw : Below w.heap.size w wr := HV.out.1.trans (HF.out.below HV.out.1.size (fun j hj => by have := HS.out; omega))
        have hqn : qs.length = n := by obtain ⟨_, _, h, _⟩ := HP.out; exact h
        by_cases hjn : j < n
        · obtain ⟨ad, Bq, cq, rfl, hcell, hle, hCq⟩ := PL_at (PL_below HP.out hbw) j hjn
          have hst := rowsH_step N qs h j hlt (by omega)
          obtain ⟨q, hq⟩ : ∃ q, q = qs.getD j [] := ⟨_, rfl⟩
          have hql : q.length ≤ 1099511627776 := by
            refine HQ.out q ?_
            rw [hq, List.getD_eq_getElem?_getD, List.getElem?_eq_getElem (by omega)]
            exact List.getElem_mem _
          rw [← hq] at hcell hle hCq hst
          have hpt := ptF_u8 h (by omega)
          obtain ⟨x, hx⟩ : ∃ x, x = ptF h := ⟨_, rfl⟩
          rw [← hx] at hpt hst
          have HE := Aside0.mk (REval_any wr.drew Bq q.length cq q x (Kd.C_below hCq (below_drew (Below.refl _ _))) hql)
          obtain ⟨y, hy⟩ : ∃ y, y = ev q x := ⟨_, rfl⟩
          rw [← hy] at HE hst
          have hzs : s + 1 < wr.heap.size := by have := HF.out.size; have := HV.out.2; omega
          obtain ⟨A', c', hxx, _⟩ := rows_push wr (s + 1) (fun _ => True) (s + 1) N _ HR.out (by omega) (fun _ _ => trivial) h hlt y j (rowsH_len N qs h j hlt (by omega)) (by omega)
          have HPU : Aside0 (∀ W, Fr (fun _ => False) wr W → W.cell? ⟨s + 1, h, none⟩ = some (.slice A' j c') ∧ W.cell? (ad.add j) = some (.slice Bq q.length cq) ∧ (W.alloc (.cells #[.int .u8 y.v] 5)).cell? ⟨s + 1, h, none⟩ = some (.slice A' j c') ∧ (W.alloc (.cells #[.int .u8 y.v] 5)).cell? (ad.add j) = some (.slice Bq q.length cq) ∧
              ∃ B' d' W', (Builtin.append_ #[36, 36] 36 #[.slice A' j c', .slice (some ⟨W.heap.size, 0, none⟩) 1 1]).run Try.prog (W.alloc (.cells #[.int .u8 y.v] 5)) = .ok (.slice B' (j + 1) d') W' ∧ W'.cell? ⟨s + 1, h, none⟩ = some (.slice A' j c') ∧ W'.frozen? ⟨s + 1, h, none⟩ = false ∧
                ∀ v', v' = W'.setCell ⟨s + 1, h, none⟩ (.slice B' (j + 1) d') → Aside0 (RowsO v' (s + 1) (fun _ => True) (s + 1) N (rowsH N qs h (j + 1))) ∧ Aside0 (Fr (fun j => s + 1 ≤ j) V v')) := ⟨fun W hW => by
            have hcA : W.cell? ⟨s + 1, h, none⟩ = some (.slice A' j c') := hW.cell hxx (fun h => h)
            have hal : Fr (fun _ => False) W (W.alloc (.cells #[.int .u8 y.v] 5)) := (Fr.refl _ W).alloc _
            obtain ⟨A2, c2, hx2, B', d', W', hrun, hx', hz', hR', hF'⟩ := rows_push W (s + 1) (fun _ => True) (s + 1) N _ (rows_fr HR.out hW) (by have := hW.size; omega) (fun _ _ => trivial) h hlt y j (rowsH_len N qs h j hlt (by omega)) (by omega)
            rw [hcA] at hx2
            injection hx2 with hx2
            injection hx2 with e1 e2 e3
            subst e1; subst e3
            rw [hst] at hR'
            refine ⟨hcA, hW.cell hcell (fun h => h), hal.cell hcA (fun h => h), (hW.trans' hal).cell hcell (fun h => h), B', d', W', hrun, hx', hz', ?_⟩
            rintro v' rfl
            exact ⟨⟨hR'⟩, ⟨(HF.out.trans hW (fun _ h => h.elim)).trans hF' (fun i hi => by rcases hi with h1 | ⟨h1, _⟩ <;> exact .inl (by omega))⟩⟩⟩
          have hjI : (j : Int) < (n : Int) := by omega
          have hsI : (h : Int) < (N : Int) := by omega
          obtain ⟨p0, p1, _⟩ := HPU.out wr.drew ((Fr.refl _ wr).drew)
          obtain ⟨nq, hnq⟩ : ∃ nq, nq = q.length := ⟨_, rfl⟩
          rw [← hnq] at hcell hle HE HPU p1
          clear hst hq hx hy hCq hql hbw hqn hzs hxx hnq
          go_wp2
          go_region_law (first
            | (rw [if_pos (by rfl)]; go_simp; go_at_call 56; with_reducible refine HE.out.mono ?_; rintro e W1 ⟨rfl, hd⟩; obtain ⟨q0, q1, q2, q3, B', d', W', hrun, q4, q5, hfin⟩ := HPU.out W1 ((Fr.refl _ wr).drew.trans' (Fr.of_drawn0 hd)); replace hrun := Aside0.mk hrun; replace hfin := Aside0.mk hfin; clear hd; go_simp)
            | refine step_append_run rfl _ _ _ _ rfl rfl rfl hrun.out ?_)
          all_goals
            have hf2 := hfin.out _ rfl
            clear hfin hrun HPU
            go_wp2
            go_roundw
            case rel => exact ⟨j + 1, by omega, by go_num, hf2.1, hf2.2⟩
            case measure => simp [intOf]; omega
        · obtain rfl : j = n := by omega
          have hnx := HR.out
          rw [← hqn, rowsH_next] at hnx
          have HNX := Aside0.mk hnx
          clear hqn hnx hbw
          go_wp2
          go_roundw
          case rel => exact ⟨h + 1, by omega, by go_num, HNX, HF⟩
          case measure => simp [intOf]; omega
    · obtain rfl : h = N := by omega
      go_wp2
      go_ret
      have hs := HS.out
      refine ⟨s + 1, rfl, by omega, ?_, HV.out.1.trans (HF.out.below HV.out.1.size (fun j hj => by omega))⟩
      have h1 := HR.out
      rw [rowsH_end] at h1
      exact rows_lower h1 (by omega)
end Go.Proofs.Ytpeiejkcoadhfaa
/- The same rows?; two rows together: the reference's, and deal.Sum. -/
namespace Go.Proofs.Ytpeiejkcoadhfaa
open Go.RowKit Go.Shelf Go.Proofs.YtpeiejkcoadhfaaW.PrintWords Go.Proofs.YtpeiejkcoadhfaaW.PrintMore
open Go.BigFrame

theorem str_inj {p q : List F} (h : strOfNums (bs p) = strOfNums (bs q)) : p = q := by
  have h1 := congrArg (fun s : ByteArray => s.data.toList) h
  simp only [strOfNums, bs, List.map_map] at h1
  have h2 := congrArg (List.map UInt8.toNat) h1
  rw [List.map_map, List.map_map] at h2
  have e : ∀ l : List F, l.map (UInt8.toNat ∘ ((fun x => UInt8.ofNat x.toNat) ∘ fun a : F => (a.v : Int))) = l.map F.v := fun l => by
    apply List.map_congr_left
    intro a _
    have := a.lt
    simp [UInt8.toNat_ofNat']
    omega
  rw [e, e] at h2
  have h3 : p.length = q.length := by have := congrArg List.length h2; simpa using this
  apply List.ext_getElem h3
  intro i h4 h5
  have h6 : (p.map F.v)[i]'(by simpa using h4) = (q.map F.v)[i]'(by simpa using h5) := by simp only [h2]
  simp only [List.getElem_map] at h6
  exact F.ext h6
theorem str_ne {p q : List F} (h : p ≠ q) : ((strOfNums (bs p)).toList == (strOfNums (bs q)).toList) = false := by
  refine beq_eq_false_iff_ne.mpr (fun e => h (str_inj ?_))
  rw [ByteArray.toList_eq, ByteArray.toList_eq] at e
  exact Go.WideShapes.bytes_inj e
theorem eq_take {qs rs : List (List F)} {j : Nat} (hl : qs.length = rs.length) (hj : j < qs.length) (h : qs.take j = rs.take j) (hjj : qs.getD j [] = rs.getD j []) : qs.take (j + 1) = rs.take (j + 1) := by
  rw [take_snoc [] qs j hj, take_snoc [] rs j (by omega), h, hjj]
theorem ne_at {qs rs : List (List F)} {j : Nat} (h : qs.getD j [] ≠ rs.getD j []) : qs ≠ rs := fun e => h (by rw [e])

set_option maxRecDepth 100000 in
set_option maxHeartbeats 1600000 in
theorem RSame_any (w : World) (A B : Option Addr) (n m c d : Nat) (qs rs : List (List F)) (hq : PL w A n qs) (hr : PL w B m rs) (hn : n ≤ 1099511627776) (hm : m ≤ 1099511627776) :
    Calls Try.prog 52 #[.slice A n c, .slice B m d] w fun e w' => e = .returned (.bool (decide (qs = rs))) ∧ Drawn0 w w' := by
  have hqn : qs.length = n := by obtain ⟨_, _, h, _⟩ := hq; exact h
  have hrn : rs.length = m := by obtain ⟨_, _, h, _⟩ := hr; exact h
  have HQ := Aside0.mk hq
  have HR := Aside0.mk hr
  have HQN := Aside0.mk hqn
  have HRN := Aside0.mk hrn
  obtain ⟨r, hres⟩ : ∃ r, r = decide (qs = rs) := ⟨_, rfl⟩
  have HRES := Aside0.mk hres
  rw [← hres]
  clear hq hr hqn hrn hres
  by_cases hnm : n = m
  · subst hnm
    have hb : ((n : Int) != (n : Int)) = false := by simp
    go_enter Try.func52, Try.ntmps52
    go_wp2
    go_loopw [5] (fun v5 wr => ∃ (j t : Nat), j ≤ n ∧ v5 = .int .i64 j ∧ wr = w.drewN t ∧ Aside0 (qs.take j = rs.take j)) (fun v5 _ => n - (intOf v5).toNat)
    case atStart => exact ⟨0, 0, by omega, rfl, rfl, ⟨by simp⟩⟩
    case round =>
      obtain ⟨j, t, hj, rfl, rfl, HT⟩ := hrel
      by_cases hlt : j < n
      · obtain ⟨ad, B0, d0, rfl, hx0, hl0, hC0⟩ := PL_at HQ.out j hlt
        obtain ⟨ad1, B1, d1, rfl, hx1, hl1, hC1⟩ := PL_at HR.out j hlt
        obtain ⟨p, hp⟩ : ∃ p, p = qs.getD j [] := ⟨_, rfl⟩
        obtain ⟨q, hq⟩ : ∃ q, q = rs.getD j [] := ⟨_, rfl⟩
        rw [← hp] at hx0 hl0 hC0
        rw [← hq] at hx1 hl1 hC1
        have q0 := fun m => Kd.C_string (P := Try.prog) (c := d0) Try.underlying36 Try.underlying5 Try.underlying9 (C_drewN (C_bs.2 hC0) m)
        have q1 := fun m => Kd.C_string (P := Try.prog) (c := d1) Try.underlying36 Try.underlying5 Try.underlying9 (C_drewN (C_bs.2 hC1) m)
        obtain ⟨n0, hn0⟩ : ∃ n0, n0 = p.length := ⟨_, rfl⟩
        obtain ⟨n1, hn1⟩ : ∃ n1, n1 = q.length := ⟨_, rfl⟩
        rw [← hn0] at hx0 hl0 q0
        rw [← hn1] at hx1 hl1 q1
        have hjI : (j : Int) < (n : Int) := by omega
        by_cases e : p = q
        · have HN : Aside0 (qs.take (j + 1) = rs.take (j + 1)) := ⟨eq_take (by rw [HQN.out, HRN.out]) (by rw [HQN.out]; exact hlt) HT.out (by rw [← hp, ← hq, e])⟩
          have hse : strOfNums (bs p) = strOfNums (bs q) := by rw [e]
          rw [hse] at q0
          obtain ⟨st, hst⟩ : ∃ st, st = strOfNums (bs q) := ⟨_, rfl⟩
          rw [← hst] at q0 q1
          clear hC0 hC1 hp hq hn0 hn1 e hse hst
          go_wp2
          go_quiet (fail)
          go_wp2
          go_roundw
          case rel => exact ⟨j + 1, _, by omega, by go_num, rfl, HN⟩
          case measure => simp [intOf]; omega
        · have HNE : Aside0 (r = false) := ⟨by rw [HRES.out]; exact decide_eq_false (ne_at (j := j) (by rw [← hp, ← hq]; exact e))⟩
          have hbe := str_ne e
          obtain ⟨s0, hs0⟩ : ∃ s0, s0 = strOfNums (bs p) := ⟨_, rfl⟩
          obtain ⟨s1, hs1⟩ : ∃ s1, s1 = strOfNums (bs q) := ⟨_, rfl⟩
          rw [← hs0, ← hs1] at hbe
          rw [← hs0] at q0
          rw [← hs1] at q1
          clear hC0 hC1 hp hq hn0 hn1 e hs0 hs1
          go_wp2
          go_quiet (fail)
          go_wp2
          go_ret
          exact ⟨by rw [HNE.out]; rfl, ⟨_, World.drewN_drewN _ _ _⟩⟩
      · obtain rfl : j = n := by omega
        have HY : Aside0 (r = true) := ⟨by
          rw [HRES.out]
          have h := HT.out
          rw [List.take_of_length_le (by rw [HQN.out]; omega), List.take_of_length_le (by rw [HRN.out]; omega)] at h
          exact decide_eq_true h⟩
        go_wp2
        go_ret
        exact ⟨by rw [HY.out]; rfl, ⟨_, rfl⟩⟩
  · have hb : ((n : Int) != (m : Int)) = true := by simp; omega
    have HNE : Aside0 (r = false) := ⟨by rw [HRES.out]; exact decide_eq_false (fun e => hnm (by rw [← HQN.out, ← HRN.out, e]))⟩
    clear hnm
    go_enter Try.func52, Try.ntmps52
    go_wp2
    go_ret
    exact ⟨by rw [HNE.out]; rfl, Drawn0.refl _⟩

/-- Two rows together: the first one's length. -/
def xorL (a b : List F) : List F := (List.range a.length).map fun i => cf a i + cf b i
theorem xorL_length (a b : List F) : (xorL a b).length = a.length := by simp [xorL]
/-- .. so far. -/
def xorTo (a b : List F) (k : Nat) : List F := (List.range a.length).map fun i => if i < k then cf a i + cf b i else cf a i
theorem xorTo_length (a b : List F) (k : Nat) : (xorTo a b k).length = a.length := by simp [xorTo]
theorem xorTo_zero (a b : List F) : xorTo a b 0 = a := by
  apply List.ext_getElem
  · simp [xorTo]
  · intro i h1 h2
    simp [xorTo, cf, List.getD_eq_getElem?_getD, List.getElem?_eq_getElem h2]
theorem xorTo_get (a b : List F) (k i : Nat) (h : i < a.length) : (xorTo a b k).getD i 0 = if i < k then cf a i + cf b i else cf a i := getD_range _ _ _ _ h
theorem xorTo_step (a b : List F) (k : Nat) (h : k < a.length) : (xorTo a b k).set k (cf a k + cf b k) = xorTo a b (k + 1) := by
  apply List.ext_getElem
  · simp [xorTo]
  · intro i h1 h2
    have hi : i < a.length := by simpa [xorTo] using h2
    rw [List.getElem_set]
    simp only [xorTo, List.getElem_map, List.getElem_range]
    by_cases e : k = i
    · subst e
      rw [if_pos rfl, if_pos (by omega)]
    · rw [if_neg e]
      by_cases h3 : i < k
      · rw [if_pos h3, if_pos (by omega)]
      · rw [if_neg h3, if_neg (by omega)]
theorem xorTo_all (a b : List F) (k : Nat) (h : k = a.length ∨ k = b.length) : xorTo a b k = xorL a b := by
  apply List.ext_getElem
  · simp [xorTo, xorL]
  · intro i h1 h2
    have hi : i < a.length := by simpa [xorTo] using h1
    simp only [xorTo, xorL, List.getElem_map, List.getElem_range]
    by_cases e : i < k
    · rw [if_pos e]
    · rw [if_neg e, cf_ge b i (by omega), F.add_zero]

set_option maxRecDepth 100000 in
set_option maxHeartbeats 1600000 in
theorem RXor_any (w : World) (A B : Option Addr) (n m c d : Nat) (a b : List F) (ha : Kd.C fk w A n a) (hb : Kd.C fk w B m b) (hn : n ≤ 140737488355328) (hm : m ≤ 140737488355328) :
    Calls Try.prog 62 #[.slice A n c, .slice B m d] w fun e w' => ∃ D cd, e = .returned (.slice D n cd) ∧ Kd.R fk 5 w' w.heap.size (fun _ => True) (.slice D n cd) (xorL a b) ∧ Below w.heap.size w w' := by
  obtain rfl : a.length = n := Kd.C_len ha
  obtain rfl : b.length = m := Kd.C_len hb
  have HA := Aside0.mk ha
  have HB := Aside0.mk hb
  obtain ⟨v', w1, hrun, hq, hg, hat⟩ := R_append_row (P := Try.prog) encF (0 : F) (w.alloc (.cells #[] 5)) w.heap.size 36 36 5 _ 1 Try.underlying36 info5 rfl (ys := a) (c := c) (R_empty fk 5 w w.heap.size (Nat.le_refl _)) (Kd.C_below ha (below_alloc (Below.refl _ _) _)) (by simp; omega) (by omega) (by simp) (fun _ _ => trivial)
  obtain ⟨D, cd, rfl⟩ := Kd.R_slice hq
  rw [List.nil_append] at hrun hq
  have hb0 : Below w.heap.size w w1 := (below_alloc (Below.refl _ _) _).grown hg (by simp) (fun k hk => by have : k = w.heap.size := by simpa [Value.ownBlock] using hk.symm
                                                                                                           omega)
  have HRUN := Aside0.mk hrun
  rw [← xorTo_zero a b] at hq
  rw [xorTo_length] at hq
  have H0 := Aside0.mk hq
  have HW := Aside0.mk hb0
  clear ha hb hrun hq hg hat hb0
  go_enter Try.func62, Try.ntmps62
  go_wp2_with (at_builtin; refine wpList_append_run rfl _ _ _ _ rfl rfl rfl HRUN.out ?_)
  go_loopw [6] (fun v6 wr => ∃ (k : Nat), k ≤ a.length ∧ k ≤ b.length ∧ v6 = .int .i64 k ∧ Aside0 (Kd.R fk 5 wr w.heap.size (fun _ => True) (.slice D a.length cd) (xorTo a b k)) ∧ Aside0 (Below w.heap.size w wr)) (fun v6 _ => a.length - (intOf v6).toNat)
  case atStart => exact ⟨0, by omega, by omega, rfl, H0, HW⟩
  case round =>
    clear H0 HW HRUN
    obtain ⟨k, hka, hkb, rfl, HR, HW⟩ := hrel
    by_cases hlt : k < a.length ∧ k < b.length
    · obtain ⟨h1, h2⟩ := hlt
      obtain ⟨g, rfl, hbg, _, _, hx, hfz, hset⟩ := R_at (0 : F) HR.out k h1
      obtain ⟨adB, rfl, hcb⟩ := C_at HB.out (Fr.of_below HW.out (fun _ => False)) (fun _ h => h.elim) k h2
      have hst := xorTo_step a b k h1
      rw [xorTo_get a b k k h1, if_neg (by omega)] at hx
      obtain ⟨x, hxe⟩ : ∃ x, x = cf a k := ⟨_, rfl⟩
      obtain ⟨y, hye⟩ : ∃ y, y = cf b k := ⟨_, rfl⟩
      rw [← hxe] at hx
      have hye' : b.getD k 0 = y := hye.symm
      rw [hye'] at hcb
      have hs2 := hset (x + y)
      rw [hxe, hye, hst, ← hxe, ← hye] at hs2
      have HS := Aside0.mk hs2
      have hxr := xorF x y
      unfold encF at hx
      generalize x + y = xy at *
      clear hset hst hxe hye hye' hs2
      go_wp2
      refine wp_region_drawn_tail 12 (by kernel_rfl) (by kernel_rfl) ?_
      simp only [List.take_succ_cons, List.take_zero, List.drop_succ_cons, List.drop_zero]
      repeat (first | go_big_quiet_skip | (go_big_quiet_want; go_big_quiet_op; go_big_quiet_on))
      refine wpQuiet_nil ?_
      rintro _ ⟨t, rfl⟩
      go_wp2
      go_roundw
      case rel => exact ⟨k + 1, by omega, by omega, by go_num, ⟨Kd.R_drewN HS.out t⟩, ⟨below_drawN (HW.out.setCell (p := ⟨g, k, none⟩) hbg _) t⟩⟩
      case measure => simp [intOf]; omega
    · have hall := xorTo_all a b k (by omega)
      have h := HR.out
      rw [hall] at h
      have HF := Aside0.mk h
      clear hall h HR
      by_cases h1 : k < a.length
      · have h2 : ¬ k < b.length := fun h => hlt ⟨h1, h⟩
        clear hlt
        go_wp2
        go_ret
        exact ⟨D, cd, rfl, HF.out, HW.out⟩
      · clear hlt
        go_wp2
        go_ret
        exact ⟨D, cd, rfl, HF.out, HW.out⟩
theorem Sum_no (w : World) (A B : Option Addr) (n m c d : Nat) (hnm : n ≠ m) :
    Calls Try.prog 63 #[.slice A n c, .slice B m d] w fun e w' => e = .returned (.tuple #[.slice none 0 0, .bool false]) ∧ Below w.heap.size w w' := by
  have hb : ((n : Int) != (m : Int)) = true := by simp; omega
  clear hnm
  go_enter Try.func63, Try.ntmps63
  go_wp2
  go_ret2
  exact ⟨rfl, Below.refl _ _⟩
set_option maxRecDepth 100000 in
set_option maxHeartbeats 1600000 in
theorem Sum_yes (w : World) (A B : Option Addr) (n c d : Nat) (a b : List F) (ha : Kd.C fk w A n a) (hb : Kd.C fk w B n b) (hn : n ≤ 140737488355328) :
    Calls Try.prog 63 #[.slice A n c, .slice B n d] w fun e w' => ∃ D cd, e = .returned (.tuple #[.slice D n cd, .bool true]) ∧ Kd.R fk 5 w' w.heap.size (fun _ => True) (.slice D n cd) (xorL a b) ∧ Below w.heap.size w w' := by
  obtain rfl : a.length = n := Kd.C_len ha
  have HBL := Aside0.mk (Kd.C_len hb)
  have HCL := Aside0.mk (Clone_any w A a.length c a ha hn)
  have HB := Aside0.mk hb
  have hbn : ((a.length : Int) != (a.length : Int)) = false := by simp
  clear ha hb
  go_enter Try.func63, Try.ntmps63
  go_wp2_with (go_at_call 95; with_reducible refine HCL.out.mono ?_; rintro e W1 ⟨D, cd, rfl, hR1, hb1⟩; replace hR1 := Aside0.mk hR1; replace hb1 := Aside0.mk hb1)
  have H0 : Aside0 (Kd.R fk 5 W1 w.heap.size (fun _ => True) (.slice D a.length cd) (xorTo a b 0)) := ⟨by rw [xorTo_zero]; exact hR1.out⟩
  clear hR1 HCL
  go_loopw [18] (fun v18 wr => ∃ (k : Nat), k ≤ a.length ∧ v18 = .int .i64 k ∧ Aside0 (Kd.R fk 5 wr w.heap.size (fun _ => True) (.slice D a.length cd) (xorTo a b k)) ∧ Aside0 (Below w.heap.size w wr)) (fun v18 _ => a.length - (intOf v18).toNat)
  case atStart => exact ⟨0, by omega, rfl, H0, hb1⟩
  case round =>
    clear H0 hb1
    obtain ⟨k, hka, rfl, HR, HW⟩ := hrel
    by_cases h1 : k < a.length
    · obtain ⟨g, rfl, hbg, _, _, hx, hfz, hset⟩ := R_at (0 : F) HR.out k h1
      obtain ⟨adB, rfl, hcb⟩ := C_at HB.out (Fr.of_below HW.out (fun _ => False)) (fun _ h => h.elim) k h1
      have hst := xorTo_step a b k h1
      rw [xorTo_get a b k k h1, if_neg (by omega)] at hx
      obtain ⟨x, hxe⟩ : ∃ x, x = cf a k := ⟨_, rfl⟩
      obtain ⟨y, hye⟩ : ∃ y, y = cf b k := ⟨_, rfl⟩
      rw [← hxe] at hx
      have hye' : b.getD k 0 = y := hye.symm
      rw [hye'] at hcb
      have hs2 := hset (x + y)
      rw [hxe, hye, hst, ← hxe, ← hye] at hs2
      have HS := Aside0.mk hs2
      have hxr := xorF x y
      unfold encF at hx
      generalize x + y = xy at *
      clear hset hst hxe hye hye' hs2
      go_wp2
      go_roundw
      case rel => exact ⟨k + 1, by omega, by go_num, HS, ⟨HW.out.setCell (p := ⟨g, k, none⟩) hbg _⟩⟩
      case measure => simp [intOf]; omega
    · have hall := xorTo_all a b k (by omega)
      have h := HR.out
      rw [hall] at h
      have HF := Aside0.mk h
      clear hall h HR
      obtain rfl : k = a.length := by omega
      go_wp2
      go_ret2
      exact ⟨D, cd, rfl, HF.out, HW.out⟩
end Go.Proofs.Ytpeiejkcoadhfaa
/- The reference's polynomials of a document. -/
namespace Go.Proofs.Ytpeiejkcoadhfaa
open Go.RowKit Go.Shelf Go.Proofs.YtpeiejkcoadhfaaW.PrintWords Go.Proofs.YtpeiejkcoadhfaaW.PrintMore
open Go.BigFrame
attribute [local go_sem] Oper.semAt_some

theorem RSplitL_any (w : World) (A : Option Addr) (n c K : Nat) (data : List F) (hd : Kd.C fk w A n data) (hc : n ≤ c) (hK1 : 1 ≤ K) (hK : K ≤ 255) (hn : n ≤ 1000000) :
    Calls Try.prog 41 #[.slice A n c, .int .i64 (K : Int)] w fun e w' => ∃ B d, e = .returned (.slice B (ncol n K) d) ∧ ncol n K ≤ d ∧ Kd.C u8s w' B (ncol n K) (splitL (bs data) K) ∧ Below w.heap.size w w' := by
  obtain rfl : data.length = n := Kd.C_len hd
  obtain ⟨q, hq⟩ := rsplit_f (bs data) K hK1 hK (by rw [bs_length]; omega)
  have h := PDealSecret.shamrockref06_Split.calls q A c (bs data) K _ w (by rw [bs_length]; exact C_bs.2 hd) (by rw [bs_length]; exact hc) hq
  rw [bs_length] at h
  refine h.mono ?_
  rintro e w' ⟨v, rfl, hS, hb⟩
  obtain ⟨B, d, rfl⟩ := Kd.S_slice hS
  have h1 := Kd.S_reads' hS
  rw [splitL_length, bs_length] at h1 ⊢
  exact ⟨B, d, rfl, h1.2.1, h1.2.2, hb⟩

theorem thru_len {xs ys s : List F} (h : Thru xs ys s) : s.length ≤ xs.length := by
  unfold Thru at h
  exact h.2.1
/-- A document's polynomials: k of them are whole, the others lack the document's part. -/
noncomputable def polysTo (N T K : Nat) (data rnd : List F) (k : Nat) : List (List F) := (List.range (ncol data.length K)).map fun j => if j < k then trimP (addP (thruP (secL N K) (colF data K j)) (trimP (mulP (roots (secL N K)) (pieceL rnd T j)))) else trimP (mulP (roots (secL N K)) (pieceL rnd T j))
theorem polysTo_zero (N T K : Nat) (data rnd : List F) : polysTo N T K data rnd 0 = dealtL (ncol data.length K) T (roots (secL N K)) rnd := by
  unfold polysTo dealtL
  apply List.map_congr_left
  intro j _
  rw [if_neg (by omega)]
theorem polysTo_all (N T K : Nat) (data rnd : List F) : polysTo N T K data rnd (ncol data.length K) = polysL N T K data rnd := by
  unfold polysTo polysL
  apply List.map_congr_left
  intro j hj
  rw [if_pos (List.mem_range.1 hj)]
theorem polysTo_length (N T K : Nat) (data rnd : List F) (k : Nat) : (polysTo N T K data rnd k).length = ncol data.length K := by simp [polysTo]
theorem polysTo_get (N T K : Nat) (data rnd : List F) (k : Nat) (hk : k < ncol data.length K) : (polysTo N T K data rnd k).getD k [] = trimP (mulP (roots (secL N K)) (pieceL rnd T k)) := by
  unfold polysTo
  rw [getD_range _ _ _ _ hk, if_neg (by omega)]
theorem addP_comm (p q : List F) : trimP (addP p q) = trimP (addP q p) := trim_eqv _ _ (fun i => by rw [cf_add, cf_add, F.add_comm])
theorem polysTo_step (N T K : Nat) (data rnd : List F) (k : Nat) (hk : k < ncol data.length K) : (polysTo N T K data rnd k).set k (trimP (addP (trimP (mulP (roots (secL N K)) (pieceL rnd T k))) (thruP (secL N K) (colF data K k)))) = polysTo N T K data rnd (k + 1) := by
  rw [addP_comm]
  apply List.ext_getElem
  · simp [polysTo]
  · intro i h1 h2
    have hi : i < ncol data.length K := by simpa [polysTo] using h2
    rw [List.getElem_set]
    simp only [polysTo, List.getElem_map, List.getElem_range]
    by_cases e : k = i
    · subst e
      rw [if_pos rfl, if_pos (by omega)]
    · rw [if_neg e]
      by_cases h3 : i < k
      · rw [if_pos h3, if_pos (by omega)]
      · rw [if_neg h3, if_neg (by omega)]

set_option maxRecDepth 100000 in
set_option maxHeartbeats 3200000 in
theorem RPolys_any (w : World) (N T K : Nat) (E Rm : Int) (A R : Option Addr) (n c m mc : Nat) (data rnd : List F) (hd : Kd.C fk w A n data) (hr : Kd.C fk w R m rnd) (hc : n ≤ c) (hmc : m ≤ mc) (hn : n ≤ 100000) (hN : N ≤ 1000) (hT : T ≤ 1000) (hK : K ≤ 255) (hK1 : 1 ≤ K) (hNK : N + K ≤ 255) (hm : m = T * ncol n K) :
    Calls Try.prog 54 #[parV N T K E Rm, .slice A n c, .slice R m mc] w fun e w' => ∃ B d, e = .returned (.slice B (ncol n K) d) ∧ PolyW w' w.heap.size (.slice B (ncol n K) d) (polysL N T K data rnd) ∧ Below w.heap.size w w' := by
  have hnl := ncol_le n K hK1
  have hdl := Kd.C_len hd
  have hml : m ≤ 100000000 := by
    rw [hm]
    have := Nat.mul_le_mul hT (Nat.le_trans hnl hn)
    omega
  have HSP := Aside0.mk (fun W (h : Kd.C fk W A n data) => RSplitL_any W A n c K data h hc hK1 hK (by omega))
  have HSE := Aside0.mk (fun W => RSecrets_any W N T K E Rm hN (by omega))
  have he1 : eachN T K 1 = T := by simp [eachN]
  have HTL := Aside0.mk (fun W X cz hR (hX : Kd.C fk W X (K + 1) (roots (secL N K))) => RTimesL_any W N T K E Rm 1 (ncol n K) R X m mc (K + 1) cz rnd _ hR hX hmc hT (by omega) (by omega) (by omega) (by rw [he1, ← hm]; exact Nat.le_refl _) (by omega) (by omega))
  rw [he1] at HTL
  have hp0 := polysTo_zero N T K data rnd
  have hpa := polysTo_all N T K data rnd
  rw [hdl] at hp0 hpa
  rw [← hp0] at HTL
  rw [← hpa]
  have HD := Aside0.mk hd
  have HR := Aside0.mk hr
  have HDL := Aside0.mk hdl
  obtain ⟨nc, hnc⟩ : ∃ nc, nc = ncol n K := ⟨_, rfl⟩
  rw [← hnc] at HSP HTL hnl ⊢
  have HNC := Aside0.mk hnc
  clear hd hr hdl hm hnc he1 hp0 hpa
  have hu48 := Try.underlying48
  unfold parV at *
  obtain ⟨w0, hw0, hz0, a0, hb0⟩ := heap1 w (Obj.cells #[Value.int IntKind.i64 ↑N, Value.int IntKind.i64 ↑T, Value.int IntKind.i64 ↑K, Value.int IntKind.i64 E, Value.int IntKind.i64 Rm] 48)
  obtain ⟨s, hs⟩ : ∃ s, s = w.heap.size := ⟨_, rfl⟩
  rw [← hs] at a0
  have HG : Aside0 (∀ W, Fr (fun j => s + 1 ≤ j) w0 W → W.cell? ⟨s, 0, none⟩ = some (.int .i64 N) ∧ W.cell? ⟨s, 1, none⟩ = some (.int .i64 T) ∧ W.cell? ⟨s, 2, none⟩ = some (.int .i64 K) ∧ W.cell? ⟨s, 3, none⟩ = some (.int .i64 E) ∧ W.cell? ⟨s, 4, none⟩ = some (.int .i64 Rm)) :=
    ⟨fun W hW => by
      have h1 := hW.blk a0 (by omega)
      exact ⟨cell_at h1 rfl, cell_at h1 rfl, cell_at h1 rfl, cell_at h1 rfl, cell_at h1 rfl⟩⟩
  have HS := Aside0.mk hs
  have HB0 := Aside0.mk hb0
  have HZ0 : Aside0 (w0.heap.size = s + 1) := ⟨by omega⟩
  go_enter Try.func54, Try.ntmps54
  go_wp2_with (go_at_call 41; rw [← hw0]; with_reducible refine (HSP.out _ ?_).mono ?_; (exact Kd.C_below HD.out hb0); rintro e W1 ⟨B1, d1, rfl, hd1, hC1, hb1⟩; replace hb1 := Aside0.mk hb1; have HC1 := Aside0.mk hC1; clear hC1)
  clear a0 hz0 hb0 hs
  rw [← HS.out]
  have S1 := HG.out W1 (Fr.of_below hb1.out _)
  have HBB1 := Aside0.mk (HB0.out.trans (hb1.out.mono HB0.out.size))
  go_region_held3 (fun W => W.cell? ⟨s, 0, none⟩ = some (.int .i64 N) ∧ W.cell? ⟨s, 1, none⟩ = some (.int .i64 T) ∧ W.cell? ⟨s, 2, none⟩ = some (.int .i64 K) ∧ W.cell? ⟨s, 3, none⟩ = some (.int .i64 E) ∧ W.cell? ⟨s, 4, none⟩ = some (.int .i64 Rm))
    (first | exact S4 | exact S3 | exact S2 | exact HG.out _ (Fr.of_below (below_then hb1.out hb1.out.size (below_drew (Below.refl _ _))) _))
    (first
      | (go_at_call 48; with_reducible refine (HSE.out _).mono ?_; rintro e W2 ⟨B2, d2, rfl, hd2, hC2, hb2⟩; have HB2 := Aside0.mk (of_drew hb2); have HRO := Aside0.mk (RRoots_any W2 B2 K d2 (secL N K) hC2 (by omega)); have S2 := HG.out W2 (Fr.of_below (hb1.out.trans (HB2.out.mono hb1.out.size)) _); clear hC2 hb2)
      | (go_at_call 57; with_reducible refine HRO.out.mono ?_; rintro e W3 ⟨B3, d3, rfl, hd3, hC3, hb3⟩; have HB3 := Aside0.mk (HB2.out.trans (hb3.mono HB2.out.size)); have HT3 := Aside0.mk (HTL.out W3 B3 d3 (Kd.C_below HR.out (HBB1.out.trans (HB3.out.mono HBB1.out.size))) hC3); have S3 := HG.out W3 (Fr.of_below (hb1.out.trans (HB3.out.mono hb1.out.size)) _); clear hC3 hb3)
      | (go_at_call 89; with_reducible refine HT3.out.mono ?_; rintro e W4 ⟨B4, d4, rfl, hP4, hb4⟩; have HP4 := Aside0.mk hP4; have HZ34 := Aside0.mk hb4.size; have HB4 := Aside0.mk (HB3.out.trans (hb4.mono HB3.out.size)); have S4 := HG.out W4 (Fr.of_below (hb1.out.trans (HB4.out.mono hb1.out.size)) _); clear hP4 hb4))
  have hz34 : W1.heap.size ≤ W3.heap.size := HB3.out.size
  have hz44 : W3.heap.size ≤ W4.heap.size := by have := HB3.out.size; have := HP4.out; exact HZ34.out
  clear S1 S2 S3 S4 HT3 HRO HTL HSP
  obtain ⟨z3, hz3⟩ : ∃ z3, z3 = W3.heap.size := ⟨_, rfl⟩
  rw [← hz3] at HP4 hz34 hz44
  clear hz3
  have HZZ := Aside0.mk (And.intro hz34 hz44)
  have HS1 : Aside0 (s + 1 ≤ W1.heap.size ∧ w.heap.size = s) := ⟨by have := hb1.out.size; have := HZ0.out; omega, HS.out.symm⟩
  clear hz34 hz44
  go_wp2
  go_loopw [9] (fun v9 wr => ∃ (k : Nat), k ≤ nc ∧ v9 = .int .i64 k ∧ Aside0 (PolyW wr z3 (.slice B4 nc d4) (polysTo N T K data rnd k)) ∧ Aside0 (Fr (fun j => z3 ≤ j) W4 wr)) (fun v9 _ => nc - (intOf v9).toNat)
  case atStart => exact ⟨0, by omega, rfl, HP4, ⟨Fr.refl _ _⟩⟩
  case round =>
    clear HP4
    obtain ⟨k, hk, rfl, HP, HF⟩ := hrel
    have hbw : Below W1.heap.size W1 wr := HB4.out.trans ((HF.out.below HZZ.out.2 (fun j hj => hj)).mono HZZ.out.1)
    by_cases hlt : k < nc
    · obtain ⟨g, Bq, dq, rfl, hzg, hx, hqd, hCq, hfz, hpol⟩ := polyW_at HP.out k hlt
      obtain ⟨ad, A0, c0, rfl, hcol, hcc, hCol⟩ := row_at (Kd.C_below HC1.out hbw) k hlt
      have hrow : (splitL (bs data) K).getD k [] = bs (colF data K k) := by
        rw [List.getD_eq_getElem?_getD, splitL_get _ _ _ (by rw [bs_length, HDL.out, ← HNC.out]; exact hlt)]
        exact colF_bs data K k
      rw [hrow, bs_length, colF_length] at hcol hcc hCol
      have hCf := C_bs.1 hCol
      have hkd : k < ncol data.length K := by rw [HDL.out, ← HNC.out]; exact hlt
      have hst := polysTo_step N T K data rnd k hkd
      rw [polysTo_get N T K data rnd k hkd] at hx hqd hCq hpol
      obtain ⟨q0, hq0⟩ : ∃ q0, q0 = trimP (mulP (roots (secL N K)) (pieceL rnd T k)) := ⟨_, rfl⟩
      have hql : q0.length ≤ 3000 := by
        have hrl := roots_length (secL N K)
        rw [secL_length] at hrl
        rw [hq0]
        have : (trimP (mulP (roots (secL N K)) (pieceL rnd T k))).length ≤ K + 1 + T := trim_le (fun i hi => cf_mul_ge _ _ (K + 1) T (fun k hk => cf_ge _ _ (by omega)) (fun k hk => cf_ge _ _ (by simp [pieceL]; omega)) i (by omega) (by omega))
        omega
      rw [← hq0] at hx hqd hCq hpol hst
      have HST := Aside0.mk hst
      have HPO := Aside0.mk hpol
      have HCQ := Aside0.mk hCq
      have HCF := Aside0.mk hCf
      obtain ⟨lq, hlq⟩ : ∃ lq, lq = q0.length := ⟨_, rfl⟩
      rw [← hlq] at hx hqd HPO HCQ
      have HLQ := Aside0.mk hlq
      have hkI : (k : Int) < (nc : Int) := by omega
      have HBW := Aside0.mk hbw
      have hwr : Fr (fun j => s + 1 ≤ j) w0 wr := Fr.of_below (hb1.out.trans (hbw.mono hb1.out.size)) _
      have hadb : ad.block < W1.heap.size := by
        obtain ⟨ad1, A1, c1, e1, hcol1, _⟩ := row_at HC1.out k hlt
        injection e1 with e1
        subst e1
        have h1 := World.block_lt_of_cell? W1 _ hcol1
        rwa [show (ad.add k).block = ad.block from by unfold Addr.add; split <;> rfl] at h1
      have HSS : Aside0 (∀ W, Fr (fun j => z3 ≤ j) wr W → W.cell? ⟨s, 0, none⟩ = some (.int .i64 N) ∧ W.cell? ⟨s, 1, none⟩ = some (.int .i64 T) ∧ W.cell? ⟨s, 2, none⟩ = some (.int .i64 K) ∧ W.cell? ⟨s, 3, none⟩ = some (.int .i64 E) ∧ W.cell? ⟨s, 4, none⟩ = some (.int .i64 Rm) ∧ W.cell? (ad.add k) = some (.slice A0 K c0)) := ⟨fun W hW => by
        obtain ⟨h0, h1, h2, h3, h4⟩ := HG.out W (hwr.trans' (hW.mono (fun j hj => by have := HS1.out.1; have := HZZ.out.1; omega)))
        exact ⟨h0, h1, h2, h3, h4, hW.cell hcol (fun h => by rw [show (ad.add k).block = ad.block from by unfold Addr.add; split <;> rfl] at h; have := HZZ.out.1; omega)⟩⟩
      have S4 := HSS.out wr (Fr.refl _ _)
      have hzgI := Aside0.mk hzg
      clear hpol hst hq0 hCol hCf hrow hcc hCq hlq hwr hadb hbw hfz hkd hzg
      go_wp2
      obtain ⟨k0, k1, k2, k3, k4, k5⟩ := S4
      obtain ⟨j0, j1, j2, j3, j4, j5⟩ := HSS.out wr.drew ((Fr.refl _ wr).drew)
      obtain ⟨o4, _, _⟩ := HPO.out wr.drew (below_drew (Below.refl _ _))
      go_region_with (first
          | (go_at_call 48; with_reducible refine (HSE.out _).mono ?_; rintro e W5 ⟨B5, d5, rfl, hd5, hC5, hb5⟩; have HB5 := Aside0.mk (of_drew hb5); obtain ⟨i0, i1, i2, i3, i4, i5⟩ := HSS.out W5 (Fr.of_below HB5.out _); have HTH := Aside0.mk (RThrough_any W5 B5 A0 K d5 c0 (secL N K) (colF data K k) hC5 (Kd.C_below HCF.out HB5.out) hd5 (by omega) (secL_unl N K hNK)); obtain ⟨o5, _, _⟩ := HPO.out W5 HB5.out; clear hC5 hb5)
          | (go_at_call 55; with_reducible refine HTH.out.mono ?_; rintro e W6 ⟨D6, d6, s6, rfl, hd6, hC6, hth, hb6⟩; have HB6 := Aside0.mk (HB5.out.trans (hb6.mono HB5.out.size)); obtain ⟨h0, h1, h2, h3, h4, h5⟩ := HSS.out W6 (Fr.of_below HB6.out _); have HAD := Aside0.mk (RAdd_any W6 Bq D6 lq s6.length dq d6 q0 s6 (Kd.C_below HCQ.out HB6.out) hC6 (by have := HLQ.out; omega) (by have := thru_len hth; rw [secL_length] at this; omega)); have HTE := Aside0.mk (thruP_eq (secL_unl N K hNK) hth); obtain ⟨o6, _, _⟩ := HPO.out W6 HB6.out; clear hC6 hb6 hth)
          | (go_at_call 90; with_reducible refine HAD.out.mono ?_; rintro e W7 ⟨D7, d7, rfl, hR7, hb7⟩; have HB7 := Aside0.mk (HB6.out.trans (hb7.mono HB6.out.size)); obtain ⟨o7, z7, hset7⟩ := HPO.out W7 HB7.out; have HSET := Aside0.mk hset7; have HR7 := Aside0.mk (And.intro hR7 HB6.out.size); clear hR7 hb7 hset7))
      all_goals
        have hnp := HSET.out D7 (trimP (addP q0 s6)) d7 (R_cap HR7.out.1) (RF_lower (RF_of_R HR7.out.1) (by have := HZZ.out.2; have := HF.out.size; have := HR7.out.2; omega))
        have hst := HST.out
        rw [HTE.out] at hst
        rw [hst] at hnp
        have HNP := Aside0.mk hnp
        have HNF := Aside0.mk (HF.out.trans' ((Fr.of_below HB7.out _).set_ (p := ⟨g, k, none⟩) (.inl hzgI.out) (.slice D7 (trimP (addP q0 s6)).length d7)))
        clear hnp hst
        go_wp2
        go_roundw
        case rel => exact ⟨k + 1, by omega, by go_num, HNP, HNF⟩
        case measure => simp [intOf]; omega
    · obtain rfl : k = nc := by omega
      go_wp2
      go_ret
      have h1 := HZZ.out
      have h2 := HS1.out
      exact ⟨_, d4, rfl, polyW_lower HP.out (by omega), HBB1.out.trans (hbw.mono HBB1.out.size)⟩
end Go.Proofs.Ytpeiejkcoadhfaa
