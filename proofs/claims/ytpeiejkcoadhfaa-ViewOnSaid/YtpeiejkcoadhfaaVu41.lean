/- What the view's laws take, Vu41: VwCA, VwCD. -/
import Derived.Test.YtpeiejkcoadhfaaVu25
import Derived.Test.YtpeiejkcoadhfaaVu33
import Derived.Test.YtpeiejkcoadhfaaVu38
set_option linter.all false
namespace Go.Proofs.Ytpeiejkcoadhfaa
open Go.RowKit Go.Shelf
theorem zfg (k : Nat) (cur : List Int) : jQ (k + 1) cur = jQ k cur ++ (if (k : Int) ∈ cur then [k] else []) := by
 unfold jQ
 rw [List.range_succ, List.filter_append]
 congr 1
 by_cases h : (k : Int) ∈ cur <;> simp [h]
theorem zcF (k : Nat) (cur : List Int) : JI (k + 1) cur = JI k cur ++ (if (k : Int) ∈ cur then [] else [k]) := by
 unfold JI
 rw [List.range_succ, List.filter_append]
 congr 1
 by_cases h : (k : Int) ∈ cur <;> simp [h]
theorem zjg (k : Nat) (cur : List Int) : (jQ k cur).length ≤ k := by
 have := List.length_filter_le (fun h : Nat => decide ((h : Int) ∈ cur)) (List.range k)
 rw [List.length_range] at this
 exact this
theorem zgU (cur : List Int) (k : Nat) : ∀ d, ∃ t, JI (k + d) cur = JI k cur ++ t
 | 0 => ⟨[], by simp⟩
 | d + 1 => by
   obtain ⟨t, ht⟩ := zgU cur k d
   refine ⟨t ++ (if ((k + d : Nat) : Int) ∈ cur then [] else [k + d]), ?_⟩
   rw [← Nat.add_assoc, zcF, ht, List.append_assoc]
theorem zmD {N T k : Nat} {cur : List Int} (hk : k ≤ N) (hl : (JI k cur).length ≤ T - (jQ N cur).length) (h : k = N ∨ T ≤ (jQ N cur).length + (JI k cur).length) : jQ N cur ++ JI k cur = zbN N T cur := by
 unfold zbN
 congr 1
 rcases h with rfl | h
 ·rw [List.take_of_length_le hl]
 obtain ⟨t, ht⟩ := zgU cur k (N - k)
 rw [Nat.add_sub_cancel' hk] at ht
 rw [ht]
 have e : T - (jQ N cur).length = (JI k cur).length := by omega
 rw [e, List.take_left' rfl]
def Zh (t : List F) (n : Nat) (us : Nat → List F) (m : Nat) : List F := (List.range t.length).map fun i => cf t i + (if i < m then cf (us (i / n)) (i % n) else 0)
theorem yq (t : List F) (n : Nat) (us : Nat → List F) (m : Nat) : (Zh t n us m).length = t.length := by simp [Zh]
theorem Ja (t : List F) (n : Nat) (us : Nat → List F) (m i : Nat) (h : i < t.length) : cf (Zh t n us m) i = cf t i + (if i < m then cf (us (i / n)) (i % n) else 0) := by
 show (Zh t n us m).getD i 0 = _
 exact zy _ _ _ _ h
theorem ziI (t : List F) (n : Nat) (us : Nat → List F) : Zh t n us 0 = t :=
 ZC (yq ..) (fun i hi => by
  rw [yq] at hi
  rw [Ja _ _ _ _ _ hi, if_neg (by omega), F.add_zero])
theorem zkm {t : List F} {n : Nat} {us : Nat → List F} {m : Nat} (h : m < t.length) : (Zh t n us m).getD m 0 = t.getD m 0 := by
 show cf (Zh t n us m) m = cf t m
 rw [Ja _ _ _ _ _ h, if_neg (by omega), F.add_zero]
theorem zlB {n c k : Nat} (hk : k < n) : (c * n + k) / n = c ∧ (c * n + k) % n = k := by
 constructor
 ·rw [Nat.mul_comm, Nat.mul_add_div (by omega), Nat.div_eq_of_lt hk, Nat.add_zero]
 rw [Nat.mul_comm, Nat.mul_add_mod, Nat.mod_eq_of_lt hk]
theorem zir {t : List F} {n : Nat} {us : Nat → List F} {c k : Nat} (hk : k < n) (hm : c * n + k < t.length) : (Zh t n us (c * n + k)).set (c * n + k) (t.getD (c * n + k) 0 + (us c).getD k 0) = Zh t n us (c * n + k + 1) := by
 obtain ⟨d1, d2⟩ := zlB (c := c) hk
 obtain ⟨m, hmm⟩ : ∃ m, m = c * n + k := ⟨_, rfl⟩
 rw [← hmm] at hm d1 d2 ⊢
 refine ZC (by rw [List.length_set, yq, yq]) (fun i hi => ?_)
 rw [List.length_set, yq] at hi
 rw [zch _ _ _ (by rw [yq]; exact hm), Ja _ _ _ _ _ hi, Ja _ _ _ _ _ hi]
 by_cases e : i = m
 ·subst e
  rw [if_pos rfl, if_pos (by omega), d1, d2]
  rfl
 rw [if_neg e]
 by_cases e2 : i < m
 ·rw [if_pos e2, if_pos (by omega)]
 rw [if_neg e2, if_neg (by omega)]
theorem zlc {t : List F} {n : Nat} {us : Nat → List F} {c l : Nat} (hl : l ≤ n) (h : ∀ i, l ≤ i → cf (us c) i = 0) : Zh t n us (c * n + l) = Zh t n us ((c + 1) * n) := by
 refine ZC (by rw [yq, yq]) (fun i hi => ?_)
 rw [yq] at hi
 rw [Ja _ _ _ _ _ hi, Ja _ _ _ _ _ hi]
 congr 1
 have e0 : (c + 1) * n = c * n + n := by rw [Nat.add_mul, Nat.one_mul]
 by_cases e1 : i < c * n + l
 ·rw [if_pos e1, if_pos (by omega)]
 rw [if_neg e1]
 by_cases e2 : i < (c + 1) * n
 ·rw [if_pos e2]
  obtain ⟨k, rfl⟩ : ∃ k, i = c * n + k := ⟨i - c * n, by omega⟩
  obtain ⟨d1, d2⟩ := zlB (c := c) (k := k) (n := n) (by omega)
  rw [d1, d2, h k (by omega)]
 rw [if_neg e2]
theorem zkA {t : List F} {n : Nat} {us : Nat → List F} {m : Nat} (h : t.length ≤ m) : Zh t n us m = jx t n us :=
 ZC (by rw [yq, yK]) (fun i hi => by
  rw [yq] at hi
  rw [Ja _ _ _ _ _ hi, zdp _ _ _ _ hi, if_pos (by omega)])
theorem zmh (n : Nat) (us : Nat → List F) : jx [] n us = [] := rfl
theorem zkZ (t : List F) (n : Nat) (us : Nat → List F) : jx t n (fun c => zj (us c)) = jx t n us := by
 unfold jx
 congr 1
 funext k
 rw [zY]
theorem zem {q : List F} {n : Nat} (h : ∀ i, n ≤ i → cf q i = 0) : (zj q).length ≤ n := yR h
def zca (seen : List Nat) (n : Nat) (o : Option (Nat → List F)) (done : Bool) (ds : List Nat) (ts : List (List F)) : List (List F) :=
 match o with
 | none => ts
 | some u => if done = true then ts else yt seen n u ds ts
theorem zmB (seen : List Nat) (n : Nat) (o : Option (Nat → List F)) (done : Bool) (ds : List Nat) : zca seen n o done ds [] = [] := by
 unfold zca
 cases o with
 | none => rfl
 | some u =>
   simp only
   split
   ·rfl
   cases ds <;> rfl
theorem zkI {seen : List Nat} {n : Nat} {o : Option (Nat → List F)} {done : Bool} {d : Nat} {ds : List Nat} {t : List F} {ts : List (List F)} (h : o = none ∨ done = true ∨ d ∈ seen) : zca seen n o done (d :: ds) (t :: ts) = t :: zca seen n o done ds ts := by
 unfold zca
 cases o with
 | none => rfl
 | some u =>
   simp only
   by_cases hd : done = true
   ·rw [if_pos hd, if_pos hd]
   rw [if_neg hd, if_neg hd]
   have hs : d ∈ seen := by
    rcases h with h | h | h
    ·cases h
    ·exact absurd h hd
    exact h
   rw [yt, if_pos hs]
theorem zld {seen : List Nat} {n : Nat} {u : Nat → List F} {d : Nat} {ds : List Nat} {t : List F} {ts : List (List F)} (h : d ∉ seen) : zca seen n (some u) false (d :: ds) (t :: ts) = jx t n u :: zca seen n (some u) true ds ts := by
 show (if false = true then t :: ts else yt seen n u (d :: ds) (t :: ts)) = jx t n u :: (if true = true then ts else yt seen n u ds ts)
 rw [if_neg (by decide), if_pos rfl, yt, if_neg h]
theorem ziU {each : Rnd → Nat} {us : Nat → Rnd → Option (Nat → List F)} {r : Rnd} {rs : List Rnd} {e : Nat} {ts : List (List F)} : Ze each us (r :: rs) e ts = zca r.seen (each r) (us e r) false r.dealers (ts.take r.dealers.length) ++ Ze each us rs (if r.kind = 2 then e + 1 else e) (ts.drop r.dealers.length) := by
 rw [Ze]
 congr 1
end Go.Proofs.Ytpeiejkcoadhfaa
namespace Go.Proofs.Ytpeiejkcoadhfaa
open Go.RowKit Go.Shelf Go.Proofs.YtpeiejkcoadhfaaW.PrintWords Go.Proofs.YtpeiejkcoadhfaaW.PrintMore
open Go.BigFrame
theorem zfD {cur : List Int} {x : Int} (h : x ∈ cur) : 0 < cur.count x := List.count_pos_iff.2 h
theorem zhl {cur : List Int} {x : Int} (h : x ∉ cur) : cur.count x = 0 := List.count_eq_zero.2 h
set_option maxRecDepth 100000 in
set_option maxHeartbeats 3200000 in
theorem ziM (w : World) (N T : Nat) (K E Rm : Int) (b : Nat) (cur : List Int) (hM : jp w b cur) (hN : N ≤ 255) (hT : T ≤ 255) :
 Calls Try.prog 110 #[zv N T K E Rm, .map (some b)] w fun e w' => ∃ B d, e = .returned (.slice B (zbN N T cur).length d) ∧ Kd.R kn 3 w' w.heap.size (fun _ => True) (.slice B (zbN N T cur).length d) (zbN N T cur) ∧ Below w.heap.size w w' := by
 obtain ⟨V, hV, hzV, a0, hbV⟩ := zU w (Obj.cells #[.int .i64 N, .int .i64 T, .int .i64 K, .int .i64 E, .int .i64 Rm] 48)
 have HV := za.mk hV
 have HBV := za.mk hbV
 have HSZ := za.mk hzV
 have HM : za (jp V b cur) := ⟨Jx hM (Fr.of_below hbV (fun _ => False)) (fun h => h)⟩
 obtain ⟨s, hs⟩ : ∃ s, s = w.heap.size := ⟨_, rfl⟩
 have HS := za.mk hs
 have HG : za (∀ W, Below V.heap.size V W → W.cell? ⟨s, 0, none⟩ = some (.int .i64 N) ∧ W.cell? ⟨s, 1, none⟩ = some (.int .i64 T)) := ⟨fun W hW => by
  rw [hs]
  have h1 := zl a0 hW
  exact ⟨zh h1 rfl, zh h1 rfl⟩⟩
 obtain ⟨res, hres⟩ : ∃ res, res = zbN N T cur := ⟨_, rfl⟩
 have HRES := za.mk hres
 rw [← hres]
 have HHA := za.mk (zjg N cur)
 obtain ⟨la, hla⟩ : ∃ la, la = (jQ N cur).length := ⟨_, rfl⟩
 rw [← hla] at HHA
 have HLA := za.mk hla
 have HSTEP : za (∀ k : Nat, (∀ (h : (k : Int) ∈ cur), jQ (k + 1) cur = jQ k cur ++ [k] ∧ JI (k + 1) cur = JI k cur) ∧ (∀ (h : (k : Int) ∉ cur), jQ (k + 1) cur = jQ k cur ∧ JI (k + 1) cur = JI k cur ++ [k])) := ⟨fun k =>
  ⟨fun h => ⟨by rw [zfg, if_pos h], by rw [zcF, if_pos h, List.append_nil]⟩, fun h => ⟨by rw [zfg, if_neg h, List.append_nil], by rw [zcF, if_neg h]⟩⟩⟩
 have HSTOP : za (∀ k : Nat, k ≤ N → (JI k cur).length ≤ T - la → (k = N ∨ T ≤ la + (JI k cur).length) → jQ N cur ++ JI k cur = res) := ⟨fun k h1 h2 h3 => by
  rw [hres]
  rw [hla] at h2 h3
  exact zmD h1 h2 h3⟩
 have HAL : za (∀ k : Nat, (jQ k cur).length ≤ k) := ⟨fun k => zjg k cur⟩
 obtain ⟨fA, hfA⟩ : ∃ fA : Nat → List Nat, fA = fun k => jQ k cur := ⟨_, rfl⟩
 obtain ⟨fB, hfB⟩ : ∃ fB : Nat → List Nat, fB = fun k => JI k cur := ⟨_, rfl⟩
 have eA : ∀ k, jQ k cur = fA k := fun k => by rw [hfA]
 have eB : ∀ k, JI k cur = fB k := fun k => by rw [hfB]
 have e0 : fA 0 = [] := by rw [← eA]; rfl
 have e1 : fB 0 = [] := by rw [← eB]; rfl
 simp only [eA, eB] at HSTEP HSTOP HLA HAL
 have HE0 := za.mk e0
 have HE1 := za.mk e1
 have HLOOK : za (∀ (W : World) (k : Nat), Below V.heap.size V W → k < N → (Instr.lookup 122 (.map (some b)) (.int .i64 (k : Int)) false).run Try.prog W = .ok (.int .i64 (cur.count (k : Int) : Nat)) W) := ⟨fun W k hW hk => zms (Jx HM.out (Fr.of_below hW (fun _ => False)) (fun h => h)) (k : Int) (by omega)⟩
 have hu48 := Try.underlying48
 unfold zv
 clear hM hzV a0 hbV hs hres hla hfA hfB eA eB e0 e1
 go_enter Try.func110, Try.ntmps110
 clear hV
 go_wp2
 rw [← HV.out, ← HS.out]
 go_loopw [5, 10] (fun v5 v10 wr => ∃ (k m c : Nat) (B : Option Addr), k ≤ N ∧ v10 = .int .i64 k ∧ v5 = .slice B m c ∧ za (m = (fA k).length) ∧ za (Kd.R kn 3 wr V.heap.size (fun _ => True) (.slice B m c) (fA k)) ∧ za (Below V.heap.size V wr)) (fun _ v10 _ => N - (intOf v10).toNat)
 case atStart => exact ⟨0, 0, 0, none, by omega, rfl, rfl, ⟨by rw [HE0.out]; rfl⟩, ⟨by rw [HE0.out]; exact Kd.R_nil _ _ _ _ _⟩, ⟨Below.refl _ _⟩⟩
 obtain ⟨k, m, c, B, hk, rfl, rfl, HMM, HR, HB⟩ := hrel
 by_cases hlt : k < N
 ·have hkI : (k : Int) < (N : Int) := by omega
  have hlk := HLOOK.out wr k HB.out hlt
  by_cases hin : (k : Int) ∈ cur
  ·have hcp := zfD hin
   obtain ⟨cn, hcn⟩ : ∃ cn, cn = cur.count (k : Int) := ⟨_, rfl⟩
   rw [← hcn] at hlk hcp
   have hcI : (0 : Int) < (cn : Int) := by omega
   obtain ⟨s1, _⟩ := (HSTEP.out k).1 hin
   have hm255 : m ≤ 255 := by have := HAL.out k; have := HMM.out; omega
   obtain ⟨B2, c2, W2, run2, R2, hb2, _, _⟩ := zbK (P := Try.prog) zks 0 (h1 := fun _ => rfl) wr V 50 3 (.int .i64 0) 8 Try.underlying50 zeJ rfl HR.out HB.out k (by have := HMM.out; omega) (by omega)
   rw [← HMM.out] at run2 R2
   have HR2 : za (Kd.R kn 3 W2 V.heap.size (fun _ => True) (.slice B2 (m + 1) c2) (fA (k + 1))) := ⟨by rw [s1]; exact R2⟩
   have HB2 := za.mk hb2
   have HM2 : za (m + 1 = (fA (k + 1)).length) := ⟨by rw [s1, List.length_append, ← HMM.out]; rfl⟩
   clear R2 hb2 hcn hcp hin s1 hm255
   go_wp2_with (at_builtin; refine zm rfl _ _ _ _ rfl rfl rfl run2 ?_)
   clear run2
   go_roundw
   case rel => exact ⟨k + 1, _, c2, B2, by omega, by go_num, rfl, HM2, HR2, HB2⟩
   simp [intOf]; omega
  have hcp := zhl hin
  rw [hcp] at hlk
  obtain ⟨s1, _⟩ := (HSTEP.out k).2 hin
  have HR2 : za (Kd.R kn 3 wr V.heap.size (fun _ => True) (.slice B m c) (fA (k + 1))) := ⟨by rw [s1]; exact HR.out⟩
  have HM2 : za (m = (fA (k + 1)).length) := ⟨by rw [s1]; exact HMM.out⟩
  clear hcp hin s1
  go_wp2
  go_roundw
  case rel => exact ⟨k + 1, m, c, B, by omega, by go_num, rfl, HM2, HR2, HB⟩
  simp [intOf]; omega
 obtain rfl : N = k := by omega
 have hml : m = la := by rw [HMM.out, HLA.out]
 subst hml
 have HR0 : za (Kd.R kn 3 wr V.heap.size (fun _ => True) (.slice B m c) (fA N ++ fB 0)) := ⟨by rw [HE1.out, List.append_nil]; exact HR.out⟩
 have hn255 : m ≤ 255 := by have := HHA.out; omega
 go_wp2
 clear HR
 go_loopw [5, 7] (fun v5 v7 wq => ∃ (k n2 c2 : Nat) (B2 : Option Addr), k ≤ N ∧ v7 = .int .i64 k ∧ v5 = .slice B2 n2 c2 ∧ za (n2 = m + (fB k).length) ∧ za ((fB k).length ≤ T - m) ∧ za (Kd.R kn 3 wq V.heap.size (fun _ => True) (.slice B2 n2 c2) (fA N ++ fB k)) ∧ za (Below V.heap.size V wq)) (fun _ v7 _ => N - (intOf v7).toNat)
 case atStart => exact ⟨0, m, c, B, by omega, rfl, rfl, ⟨by rw [HE1.out]; rfl⟩, ⟨by rw [HE1.out]; simp⟩, HR0, HB⟩
 clear HR0 HB
 obtain ⟨k, n2, c2, B2, hk2, rfl, rfl, HN2, HL2, HR2, HB2⟩ := hrel
 obtain ⟨p0, p1⟩ := HG.out wr HB2.out
 by_cases hlt2 : k < N
 ·have hkI : (k : Int) < (N : Int) := by omega
  by_cases hfull : n2 < T
  ·have hfI : (n2 : Int) < (T : Int) := by omega
   have hlk := HLOOK.out wr k HB2.out hlt2
   by_cases hin : (k : Int) ∈ cur
   ·have hcp := zfD hin
    obtain ⟨cn, hcn⟩ : ∃ cn, cn = cur.count (k : Int) := ⟨_, rfl⟩
    rw [← hcn] at hlk hcp
    have hcI : ((cn : Int) == 0) = false := by simp; omega
    obtain ⟨_, s1⟩ := (HSTEP.out k).1 hin
    have HR3 : za (Kd.R kn 3 wr V.heap.size (fun _ => True) (.slice B2 n2 c2) (fA N ++ fB (k + 1))) := ⟨by rw [s1]; exact HR2.out⟩
    have HN3 : za (n2 = m + (fB (k + 1)).length) := ⟨by rw [s1]; exact HN2.out⟩
    have HL3 : za ((fB (k + 1)).length ≤ T - m) := ⟨by rw [s1]; exact HL2.out⟩
    clear hcn hcp hin s1
    go_wp2
    go_roundw
    case rel => exact ⟨k + 1, n2, c2, B2, by omega, by go_num, rfl, HN3, HL3, HR3, HB2⟩
    simp [intOf]; omega
   have hcp := zhl hin
   rw [hcp] at hlk
   obtain ⟨_, s1⟩ := (HSTEP.out k).2 hin
   have hln : (fA N ++ fB k).length = n2 := by rw [List.length_append, ← HLA.out]; exact HN2.out.symm
   obtain ⟨B3, c3, W3, run3, R3, hb3, _, _⟩ := zbK (P := Try.prog) zks 0 (h1 := fun _ => rfl) wr V 50 3 (.int .i64 0) 8 Try.underlying50 zeJ rfl HR2.out HB2.out k (by omega) (by omega)
   rw [hln] at run3 R3
   have HR3 : za (Kd.R kn 3 W3 V.heap.size (fun _ => True) (.slice B3 (n2 + 1) c3) (fA N ++ fB (k + 1))) := ⟨by rw [s1, ← List.append_assoc]; exact R3⟩
   have HB3 := za.mk hb3
   have HN3 : za (n2 + 1 = m + (fB (k + 1)).length) := ⟨by rw [s1, List.length_append, HN2.out]; rfl⟩
   have HL3 : za ((fB (k + 1)).length ≤ T - m) := ⟨by
    have h1 := HN2.out
    rw [s1, List.length_append, List.length_singleton]
    omega⟩
   clear R3 hb3 hcp hin s1 hln
   go_wp2_with (at_builtin; refine zm rfl _ _ _ _ rfl rfl rfl run3 ?_)
   clear run3
   go_roundw
   case rel => exact ⟨k + 1, _, c3, B3, by omega, by go_num, rfl, HN3, HL3, HR3, HB3⟩
   simp [intOf]; omega
  have hfI : ¬ (n2 : Int) < (T : Int) := by omega
  have hst := HSTOP.out k (by omega) HL2.out (.inr (by have := HN2.out; omega))
  have HR3 := HR2.out
  rw [hst] at HR3
  have hl3 : n2 = res.length := (Kd.Q_reads' (Kd.Q_of_R HR3)).1
  have HR4 := za.mk HR3
  have HL4 := za.mk hl3
  clear HR3 hl3 hst
  go_wp2
  go_ret
  have h5 := HL4.out
  subst h5
  have h6 := HBV.out.size
  exact ⟨B2, c2, rfl, Kd.R_lower HR4.out h6, HBV.out.trans (HB2.out.mono h6)⟩
 obtain rfl : N = k := by omega
 have hst := HSTOP.out N (by omega) HL2.out (.inl rfl)
 have HR3 := HR2.out
 rw [hst] at HR3
 have hl3 : n2 = res.length := (Kd.Q_reads' (Kd.Q_of_R HR3)).1
 have HR4 := za.mk HR3
 have HL4 := za.mk hl3
 clear HR3 hl3 hst
 go_wp2
 go_ret
 have h5 := HL4.out
 subst h5
 have h6 := HBV.out.size
 exact ⟨B2, c2, rfl, Kd.R_lower HR4.out h6, HBV.out.trans (HB2.out.mono h6)⟩
end Go.Proofs.Ytpeiejkcoadhfaa
