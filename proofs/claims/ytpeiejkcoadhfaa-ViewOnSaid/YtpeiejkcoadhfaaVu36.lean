/- What the view's laws take, Vu36: VwSM, VwAE, VwOp. -/
import Derived.Test.YtpeiejkcoadhfaaVu12
import Derived.Test.YtpeiejkcoadhfaaVu22
import Derived.Test.YtpeiejkcoadhfaaVu23
import Derived.Test.YtpeiejkcoadhfaaVu26
import Derived.Test.YtpeiejkcoadhfaaVu33
import Derived.Test.YtpeiejkcoadhfaaVu35
set_option linter.all false
namespace Go.Proofs.Ytpeiejkcoadhfaa
open Go.RowKit Go.Shelf Go.Proofs.YtpeiejkcoadhfaaW.PrintWords Go.Proofs.YtpeiejkcoadhfaaW.PrintMore
open Go.BigFrame
def zaz (N n : Int) (rs : List Ri) (ts : List (List Int)) : Prop := rs.length ≤ 12 ∧ n ≤ 24 ∧ N ≤ 20 ∧ (∀ i, i < ts.length → i < 200 → (ts.getD i []).length ≤ 1000) ∧ ts.length ≤ 200
instance (N n : Int) (rs : List Ri) (ts : List (List Int)) : Decidable (zaz N n rs ts) := by unfold zaz; infer_instance
def zbe (N T K E Rm : Int) (A : Option Addr) (n c : Nat) (B : Option Addr) (m d : Nat) : Value := .agg #[.int .i64 N, .int .i64 T, .int .i64 K, .int .i64 E, .int .i64 Rm, .slice A n c, .slice B m d]
set_option maxRecDepth 100000 in
set_option maxHeartbeats 1600000 in
theorem zcC (w : World) (N T K E Rm k : Int) (A : Option Addr) (n c : Nat) (rs : List Ri) (hR : RL w A n rs) (hc : n ≤ c) (B : Option Addr) (m d : Nat) (ts : List (List Int)) (hT : Kd.C zkY w B m ts) (hd : m ≤ d) (hm : m ≤ 9223372036854775807) :
 Calls Try.prog 70 #[zbe N T K E Rm A n c B m d, .int .i64 k] w fun e w' => e = .returned (.bool (decide (zaz N k rs ts))) ∧ Below w.heap.size w w' := by
 have hl := Zi hR
 have htl : ts.length = m := Kd.C_len hT
 obtain ⟨W0, hW0, hz0, a0, hb0⟩ := zU w (.cells #[.int .i64 N, .int .i64 T, .int .i64 K, .int .i64 E, .int .i64 Rm, .slice A n c, .slice B m d] 77)
 have HB0 := za.mk hb0
 obtain ⟨s, hs⟩ : ∃ s, s = w.heap.size := ⟨_, rfl⟩
 rw [← hs] at a0
 have HS := za.mk hs
 have HW0 := za.mk hW0
 have HSK : za (∀ W, Below W0.heap.size W0 W → W.cell? ⟨s, 0, none⟩ = some (.int .i64 N) ∧ W.cell? ⟨s, 5, none⟩ = some (.slice A n c) ∧ W.cell? ⟨s, 6, none⟩ = some (.slice B m d)) := ⟨fun W hW => by
  have h := zl a0 hW
  exact ⟨zh h rfl, zh h rfl, zh h rfl⟩⟩
 have HT : za (∀ W, Below W0.heap.size W0 W → Kd.C zkY W B m ts) := ⟨fun W h => Kd.C_below hT (hb0.trans (h.mono hb0.size))⟩
 obtain ⟨res, hres⟩ : ∃ res, res = decide (zaz N k rs ts) := ⟨_, rfl⟩
 have HRES := za.mk hres
 rw [← hres]
 have hu77 := Try.underlying77
 have hu48 := Try.underlying48
 unfold zbe
 have HL := za.mk (And.intro hl htl)
 clear hR hT hres a0 hz0 hW0 hs hl htl hb0
 by_cases c1 : (12 : Int) < (n : Int)
 ·have HX : za (res = false) := ⟨by rw [HRES.out]; exact decide_eq_false (fun h => by have := h.1; rw [HL.out.1] at this; omega)⟩
  rw [HW0.out] at HB0
  go_enter Try.func70, Try.ntmps70
  go_wp2
  go_ret
  exact ⟨by rw [HX.out]; rfl, HB0.out⟩
 by_cases c2 : 24 < k
 ·have c1' : (n : Int) ≤ 12 := by omega
  have HX : za (res = false) := ⟨by rw [HRES.out]; exact decide_eq_false (fun h => by have := h.2.1; omega)⟩
  rw [HW0.out] at HB0
  clear c1
  go_enter Try.func70, Try.ntmps70
  go_wp2
  go_ret
  exact ⟨by rw [HX.out]; rfl, HB0.out⟩
 have c1' : (n : Int) ≤ 12 := by omega
 have c2' : k ≤ 24 := by omega
 by_cases c3 : 20 < N
 ·have HX : za (res = false) := ⟨by rw [HRES.out]; exact decide_eq_false (fun h => by have := h.2.2.1; omega)⟩
  rw [HW0.out] at HB0
  clear c1 c2
  go_enter Try.func70, Try.ntmps70
  go_wp2
  go_ret
  exact ⟨by rw [HX.out]; rfl, HB0.out⟩
 have c3' : N ≤ 20 := by omega
 clear c1 c2 c3
 have HRE2 : za (res = decide ((∀ i, i < m → i < 200 → (ts.getD i []).length ≤ 1000) ∧ m ≤ 200)) := ⟨by
  rw [HRES.out, decide_eq_decide]
  unfold zaz
  rw [HL.out.1, HL.out.2]
  exact ⟨fun h => h.2.2.2, fun h => ⟨by omega, c2', c3', h⟩⟩⟩
 clear HRES
 go_enter Try.func70, Try.ntmps70
 go_wp2
 rw [← HW0.out, ← HS.out]
 clear c1' c2' c3'
 go_loopw [5] (fun v5 wr => ∃ (i : Nat), i ≤ m ∧ v5 = .int .i64 i ∧ za (Below W0.heap.size W0 wr) ∧ za (∀ j, j < i → j < 200 → (ts.getD j []).length ≤ 1000)) (fun v5 _ => m - (intOf v5).toNat)
 case atStart => exact ⟨0, by omega, rfl, ⟨Below.refl _ _⟩, ⟨fun j hj => by omega⟩⟩
 obtain ⟨i, hi, rfl, HB, HI⟩ := hrel
 obtain ⟨p0, p5, p6⟩ := HSK.out wr HB.out
 have HBE : za (Below w.heap.size w wr) := ⟨HB0.out.trans (HB.out.mono HB0.out.size)⟩
 by_cases him : i < m
 ·have hiI : (i : Int) < (m : Int) := by omega
  by_cases hi2 : i < 200
  ·have hi2I : (i : Int) < 200 := by omega
   obtain ⟨ad, A0, c0, rfl, hx, hl0, -⟩ := zci (HT.out wr HB.out) i him
   obtain ⟨rl, hrl⟩ : ∃ rl, rl = (ts.getD i []).length := ⟨_, rfl⟩
   rw [← hrl] at hx hl0
   by_cases hrl2 : (1000 : Int) < (rl : Int)
   ·have HX : za (res = false) := ⟨by rw [HRE2.out]; exact decide_eq_false (fun h => by have := h.1 i him hi2; omega)⟩
    clear hrl hl0
    go_wp2
    go_ret
    exact ⟨by rw [HX.out]; rfl, HBE.out⟩
   have HI2 : za (∀ j, j < i + 1 → j < 200 → (ts.getD j []).length ≤ 1000) := ⟨fun j hj h2 => by
    rcases Nat.lt_or_ge j i with h | h
    ·exact HI.out j h h2
    obtain rfl : j = i := by omega
    omega⟩
   clear hrl hl0
   go_wp2
   clear p0 p5 p6 hx
   go_roundw
   case rel => exact ⟨i + 1, by omega, by go_num, HB, HI2⟩
   simp [intOf]; omega
  have hi2I : ¬ (i : Int) < 200 := by omega
  have hm2 : ¬ (m : Int) ≤ 200 := by omega
  have HX : za (res = false) := ⟨by rw [HRE2.out]; exact decide_eq_false (fun h => by have := h.2; omega)⟩
  go_wp2
  go_ret
  exact ⟨by rw [HX.out]; simp, HBE.out⟩
 obtain rfl : i = m := by omega
 have HX : za (res = decide ((i : Int) ≤ 200)) := ⟨by
  rw [HRE2.out, decide_eq_decide]
  exact ⟨fun h => by omega, fun h => ⟨HI.out, by omega⟩⟩⟩
 go_wp2
 go_ret
 exact ⟨by rw [HX.out]; rfl, HBE.out⟩
end Go.Proofs.Ytpeiejkcoadhfaa
namespace Go.Proofs.Ytpeiejkcoadhfaa
open Go.RowKit Go.Shelf Go.Proofs.YtpeiejkcoadhfaaW.PrintWords Go.Proofs.YtpeiejkcoadhfaaW.PrintMore Go.Proofs.Ytpeiejkcoadhfaa.PViewEmpty
open Go.BigFrame
theorem rdT (rs : List Ri) (i : Nat) (hi : i < rs.length) : yG (rs.map toS) (i : Int) = toS (rs.getD i ri0) := by
 unfold yG
 rw [Int.toNat_natCast, List.getD_eq_getElem?_getD, List.getD_eq_getElem?_getD, List.getElem?_map, List.getElem?_eq_getElem hi]
 rfl
theorem znu (N T K : Nat) (E Rm kind : Int) (hT : T ≤ 1000) (hK : K ≤ 1000) (hTK : 1 ≤ T + K) (q : Nat) : PViewEmpty.shamrockref10_Each.f (q + 1) N T K E Rm kind = some ((zD T K kind : Nat) : Int) := by
 have h1 : wrap64 ((T : Int) + (K : Int)) = ((T + K : Nat) : Int) := Jh T K (by omega)
 have h2 : wrap64 (((T + K : Nat) : Int) - 1) = ((T + K - 1 : Nat) : Int) := by rw [ZQ _ (by omega)]; omega
 unfold PViewEmpty.shamrockref10_Each.f PViewEmpty.shamrockref10_Each.j0 zD
 simp only []
 rw [h1, h2]
 by_cases c1 : kind = 1
 ·subst c1; simp
 by_cases c2 : kind = 2
 ·subst c2; simp
 by_cases c3 : kind = 3
 ·subst c3; simp
 by_cases c4 : kind = 4
 ·subst c4; simp
 simp [c1, c2, c3, c4]
theorem zju (a b : Nat) (ha : a ≤ 1000000) (hb : b ≤ 1000000) (hb1 : 1 ≤ b) : PViewEmpty.shamrockref10_Columns.f a b = some ((ye a b : Nat) : Int) := by
 unfold PViewEmpty.shamrockref10_Columns.f
 rw [if_neg (by omega), Jh a b (by omega), ZQ _ (by omega)]
 have e : (((a + b : Nat) : Int) - 1) = ((a + b - 1 : Nat) : Int) := by omega
 have h1 := Zx a b hb1
 rw [e, ← Int.ofNat_tdiv]
 have e2 : (a + b - 1) / b = ye a b := rfl
 rw [e2, zcv (by omega)]
theorem zlh {nN nT nK : Nat} {E Rm : Int} {rs : List Ri} {cols : Nat} (hT : nT ≤ 255) (hK : nK ≤ 255) (hT1 : 1 ≤ nT) (hc : cols ≤ 1000) (hrs : rs.length ≤ 1024) (hds : ∀ r ∈ rs, r.ds.length ≤ 256) (d : Nat) :
 ∀ i, i + d = rs.length → Evt fun k => shamrockref24_Tapes.l0 k (rs.map toS) cols (jg nT nK cols rs i) (i : Int) nN nT nK E Rm = some (ZL nT nK cols rs) := by
 induction d with
 | zero =>
   intro i hi
   refine (Evt.all (P := fun _ => True) (fun _ => trivial)).succ (fun k _ => ?_)
   simp only [shamrockref24_Tapes.l0]
   rw [if_neg (by rw [List.length_map]; omega), zdi _ _ _ _ i (by omega)]
 | succ d ih =>
   intro i hi
   have hil : i < rs.length := by omega
   have hmem : rs.getD i ri0 ∈ rs := by rw [List.getD_eq_getElem?_getD, List.getElem?_eq_getElem hil]; exact List.getElem_mem hil
   have hts := JV nT nK cols rs i hil
   have htl := zam nT nK cols rs 256 hds i (by omega)
   have hrd := rdT rs i hil
   obtain ⟨r, hr⟩ : ∃ r, r = rs.getD i ri0 := ⟨_, rfl⟩
   rw [← hr] at hmem hts hrd
   have hd := hds r hmem
   have hq : zD nT nK r.kind * cols ≤ 2000 * 1000 := Nat.mul_le_mul (jH nT nK r.kind (by omega) (by omega)) hc
   have h1024 : i * 256 ≤ 1024 * 256 := Nat.mul_le_mul_right 256 (by omega)
   have hin : ∀ dd j, j + dd = r.ds.length → Evt fun k => shamrockref24_Tapes.l1 k (rs.map toS) cols (jg nT nK cols rs i ++ zat nT nK cols r j) (i : Int) (j : Int) nN nT nK E Rm = some (ZL nT nK cols rs) := by
    intro dd
    induction dd with
    | zero =>
      intro j hj
      refine (ih (i + 1) (by omega)).succ (fun k hk => ?_)
      simp only [shamrockref24_Tapes.l1]
      rw [if_pos (by omega), if_pos (by rw [List.length_map]; omega), hrd, if_neg (show ¬ ((j : Int) < (((toS r).f2).length : Int)) by show ¬ ((j : Int) < (r.ds.length : Int)); omega), yU i (by omega)]
      rw [hts] at hk
      have e : j = r.ds.length := by omega
      rw [e]
      exact hk
    | succ dd ihj =>
      intro j hj
      refine ((ihj (j + 1) (by omega)).and (⟨1, fun k hk => by
       obtain ⟨k, rfl⟩ : ∃ m, k = m + 1 := ⟨k - 1, by omega⟩
       exact znu nN nT nK E Rm r.kind (by omega) (by omega) (by omega) k⟩ : Evt fun k => PViewEmpty.shamrockref10_Each.f k nN nT nK E Rm r.kind = some ((zD nT nK r.kind : Nat) : Int))).succ (fun k ⟨hk, hek⟩ => ?_)
      simp only [shamrockref24_Tapes.l1]
      have hek2 : PViewEmpty.shamrockref10_Each.f k nN nT nK E Rm (toS r).f0 = some ((zD nT nK r.kind : Nat) : Int) := hek
      rw [if_pos (by omega), if_pos (by rw [List.length_map]; omega), hrd, if_pos (show (j : Int) < (((toS r).f2).length : Int) by show (j : Int) < (r.ds.length : Int); omega), hek2, Option.bind_some, if_pos (by rw [List.length_append]; unfold zat; rw [List.length_replicate]; omega), yU j (by omega)]
      have hw : wrap64 (((zD nT nK r.kind : Nat) : Int) * (cols : Int)) = ((zD nT nK r.kind * cols : Nat) : Int) := by
       rw [← Int.natCast_mul, zcv (by omega)]
      rw [hw, List.append_assoc, ← zdW]
      exact hk
   refine (hin r.ds.length 0 (by omega)).succ (fun k hk => ?_)
   simp only [shamrockref24_Tapes.l0]
   rw [if_pos (by rw [List.length_map]; omega)]
   have e : zat nT nK cols r 0 = [] := rfl
   rw [e, List.append_nil] at hk
   exact hk
theorem zmb (N T K E Rm size : Int) (rs : List Ri) (hrl : rs.length ≤ 9223372036854775807) (hsm : ∀ r ∈ rs, r.ds.length ≤ 9223372036854775807 ∧ r.sn.length ≤ 9223372036854775807) (hN : -9223372036854775808 ≤ N ∧ N ≤ 9223372036854775807) : Evt fun k => shamrockref24_Tapes.f k N T K E Rm size (rs.map toS) = some (jZ N T K E Rm size rs) := by
 by_cases hmay : zbR N T K E Rm size rs
 ·have hw : jZ N T K E Rm size rs = ZL T.toNat K.toNat (ye size.toNat K.toNat) rs := by unfold jZ; rw [if_pos hmay]
  obtain ⟨nN, nT, nK, rfl, rfl, rfl, g1, g2, g3, g4, g5, g6, g7⟩ := zaR hmay.1
  obtain ⟨sz, rfl⟩ : ∃ sz : Nat, size = sz := ⟨size.toNat, by have := hmay.2.1; omega⟩
  have hsz : sz ≤ 256 := by have := hmay.2.2.1; omega
  have hcl := Zx sz nK g4
  have hq : nT * ye sz nK ≤ 255 * 256 := Nat.mul_le_mul g3 (by omega)
  refine ((zlQ nN nT nK E Rm sz rs hrl hsm hN).and (zlh (nN := nN) (nT := nT) (nK := nK) (E := E) (Rm := Rm) (cols := ye sz nK) (by omega) (by omega) g2 (by omega) hmay.2.2.2.1 (fun r hr => by
   have := jO (hmay.2.2.2.2.1 r hr).2.2.2.2.1; omega) rs.length 0 (by omega))).mono (fun k ⟨h1, h2⟩ => ?_)
  unfold shamrockref24_Tapes.f
  rw [h1, Option.bind_some, decide_eq_true hmay, if_pos rfl, zju sz nK (by omega) (by omega) g4, Option.bind_some, hw]
  have e : wrap64 ((nT : Int) * ((ye sz nK : Nat) : Int)) = ((nT * ye sz nK : Nat) : Int) := by rw [← Int.natCast_mul, zcv (by omega)]
  rw [e]
  exact h2
 have hw : jZ N T K E Rm size rs = [] := by unfold jZ; rw [if_neg hmay]
 refine (zlQ N T K E Rm size rs hrl hsm hN).mono (fun k h1 => ?_)
 unfold shamrockref24_Tapes.f
 rw [h1, Option.bind_some, decide_eq_false hmay, if_neg (by decide), hw]
theorem zjX (ts : List (List F)) (wl : List Int) (hl : ts.length = wl.length) (hm : ts.length ≤ 9223372036854775807) (d : Nat) : ∀ i, i + d = ts.length → ((ts.map List.length).map fun l : Nat => (l : Int)).take i = wl.take i →
 Evt fun k => shamrockref24_Right.l0 k (ts.map bs) wl (i : Int) = some (decide (((ts.map List.length).map fun l : Nat => (l : Int)) = wl)) := by
 induction d with
 | zero =>
   intro i hi hp
   refine (Evt.all (P := fun _ => True) (fun _ => trivial)).succ (fun k _ => ?_)
   simp only [shamrockref24_Right.l0]
   rw [List.take_of_length_le (by simp; omega), List.take_of_length_le (by omega)] at hp
   rw [if_neg (by omega), decide_eq_true hp]
 | succ d ih =>
   intro i hi hp
   have hls : ((ts.map List.length).map fun l : Nat => (l : Int)).length = ts.length := by simp
   have hgd : ((ts.map List.length).map fun l : Nat => (l : Int)).getD i 0 = ((ts.getD i []).length : Int) := by
    rw [List.getD_eq_getElem?_getD, List.getD_eq_getElem?_getD, List.getElem?_map, List.getElem?_map]
    cases ts[i]? <;> rfl
   by_cases c : ((ts.getD i []).length : Int) = wl.getD i 0
   ·refine (ih (i + 1) (by omega) (by rw [zK 0 _ i (by omega), zK 0 wl i (by omega), hp, hgd, c])).succ (fun k hk => ?_)
    simp only [shamrockref24_Right.l0]
    rw [if_pos (by omega), if_pos (by omega), if_pos (by rw [List.length_map]; omega), rdL2 ts i (by omega), zeE, zx, if_pos c, yU i (by omega)]
    exact hk
   refine (Evt.all (P := fun _ => True) (fun _ => trivial)).succ (fun k _ => ?_)
   simp only [shamrockref24_Right.l0]
   rw [if_pos (by omega), if_pos (by omega), if_pos (by rw [List.length_map]; omega), rdL2 ts i (by omega), zeE, zx, if_neg c, decide_eq_false (fun h => c (by rw [← hgd, h]))]
theorem Zq (w : World) (N T K E Rm size : Int) (A : Option Addr) (n c : Nat) (rs : List Ri) (hR : RL w A n rs) (hc : n ≤ c) (hn : n ≤ 9223372036854775807) (hsm : ∀ r ∈ rs, r.ds.length ≤ 9223372036854775807 ∧ r.sn.length ≤ 9223372036854775807) (hN : -9223372036854775808 ≤ N ∧ N ≤ 9223372036854775807)
 (B : Option Addr) (m d : Nat) (ts : List (List F)) (hT : Kd.C zkY w B m (ts.map bs)) (hd : m ≤ d) (hm : m ≤ 9223372036854775807) :
 Calls Try.prog 72 #[zv N T K E Rm, .int .i64 size, .slice A n c, .slice B m d] w fun e w' => e = .returned (.bool (decide (yv N T K E Rm size rs (ts.map List.length)))) ∧ Below w.heap.size w w' := by
 have hl := Zi hR
 have hrl : rs.length ≤ 9223372036854775807 := by omega
 have htl : ts.length = m := by have := Kd.C_len hT; rwa [List.length_map] at this
 obtain ⟨wl, hwl⟩ : ∃ wl, wl = jZ N T K E Rm size rs := ⟨_, rfl⟩
 have hr : decide (yv N T K E Rm size rs (ts.map List.length)) = decide (wl.length ≠ 0 ∧ ((ts.map List.length).map fun l : Nat => (l : Int)) = wl) := by rw [decide_eq_decide, hwl]; exact zdC
 have hev : Evt fun k => shamrockref24_Right.f k N T K E Rm size (rs.map toS) (ts.map bs) = some (decide (yv N T K E Rm size rs (ts.map List.length))) := by
  have ht := zmb N T K E Rm size rs hrl hsm hN
  rw [← hwl] at ht
  have hf : Evt fun k => shamrockref24_Right.j0 k (ts.map bs) wl true = some false := (Evt.all (P := fun _ => True) (fun _ => trivial)).succ (fun k _ => by simp only [shamrockref24_Right.j0]; rw [if_pos trivial])
  by_cases c0 : wl.length = 0
  ·refine (ht.and hf).mono (fun k ⟨h1, h2⟩ => ?_)
   unfold shamrockref24_Right.f
   rw [h1, Option.bind_some, if_pos (by omega), h2, hr, decide_eq_false (fun h => h.1 c0)]
  by_cases c1 : ts.length = wl.length
  ·have h3 := zjX ts wl c1 (by omega) ts.length 0 (by omega) (by simp)
   have hj : Evt fun k => shamrockref24_Right.j0 k (ts.map bs) wl false = some (decide (((ts.map List.length).map fun l : Nat => (l : Int)) = wl)) := h3.succ (fun k hk => by
    simp only [shamrockref24_Right.j0]
    rw [if_neg (by decide)]
    exact hk)
   refine (ht.and hj).mono (fun k ⟨h1, h2⟩ => ?_)
   unfold shamrockref24_Right.f
   have e : (((ts.map bs).length : Int) != (wl.length : Int)) = false := by simp; omega
   rw [h1, Option.bind_some, if_neg (by omega), e, h2, hr]
   congr 1
   rw [decide_eq_decide]
   exact ⟨fun h => ⟨c0, h⟩, fun h => h.2⟩
  refine (ht.and hf).mono (fun k ⟨h1, h2⟩ => ?_)
  unfold shamrockref24_Right.f
  have e : (((ts.map bs).length : Int) != (wl.length : Int)) = true := by simp; omega
  rw [h1, Option.bind_some, if_neg (by omega), e, h2, hr, decide_eq_false (fun h => c1 (by have := congrArg List.length h.2; simpa using this))]
 obtain ⟨k, hk⟩ := hev.some
 have h := shamrockref24_Right.calls k N T K E Rm size A c (rs.map toS) B d (ts.map bs) _ w (by rw [List.length_map, hl]; exact hR) (by rw [List.length_map, hl]; exact hc) (by rw [List.length_map, htl]; exact hT) (by rw [List.length_map, htl]; exact hd) hk
 rw [List.length_map, hl, List.length_map, htl] at h
 exact h
def f90 (x : S90) : Int × Int × List Int × List Int := (x.f0, x.f1, x.f2, x.f3)
def g90 (x : Int × Int × List Int × List Int) : S90 := ⟨x.1, x.2.1, x.2.2.1, x.2.2.2⟩
def wfR (x : Int × Int × List Int × List Int) : Prop := wfI x.1 ∧ wfI x.2.1 ∧ (∀ a ∈ x.2.2.1, wfI a) ∧ ∀ a ∈ x.2.2.2, wfI a
def muI (l : List Int) : Nat := (l.map fun _ => 1).sum + 1
def muR (x : Int × Int × List Int × List Int) : Nat := 1 + (1 + (muI x.2.2.1 + muI x.2.2.2))
theorem zgZ : ZA Try.prog k90 90 (fun b => wfR (f90 b)) (fun b => muR (f90 b) + 1) :=
 JZ 90 _ Try.underlying90 (by kernel_rfl) (yT _ _ 0 rfl jS (yT _ _ 1 rfl jS (yT _ _ 2 rfl zes (zbD _ 3 rfl zes)))) f90 g90 (fun _ => rfl)
theorem zfG : ZA Try.prog (Kd.slice 90 k90) 75 (fun l => ∀ b ∈ l, wfR (f90 b)) (fun l => (l.map fun b => muR (f90 b) + 1).sum + 1) := Jt 75 Try.underlying75 (by kernel_rfl) zgZ
abbrev RunT : Type := Par × List S90 × List (List Int)
abbrev zjW : Kd RunT := Kd.iso (Kd.pair kpar (Kd.pair (Kd.slice 90 k90) (Kd.slice 36 u8s))) id
def zgI (r : RunT) : Prop := zou r.1 ∧ (∀ b ∈ r.2.1, wfR (f90 b)) ∧ ∀ l ∈ r.2.2, ∀ a ∈ l, (Lit.int .u8 a).wf = true
def zpx (r : RunT) : Nat := (1 + (1 + (1 + (1 + 1))) + 1) + (((r.2.1.map fun b => muR (f90 b) + 1).sum + 1) + ((r.2.2.map fun l => (l.map fun _ => 1).sum + 1).sum + 1))
theorem zcl : ZA Try.prog zjW 77 zgI (fun b => zpx b + 1) :=
 JZ 77 _ Try.underlying77 (by kernel_rfl) (yT _ _ 0 rfl zgr (yT _ _ 5 rfl zfG (zbD _ 6 rfl zit))) id id (fun _ => rfl)
theorem zpd {w : World} {r : RunT} {cs : Array Value} (h : zjW.K w r cs.toList) : ∃ A c B d, Value.agg cs = zbe r.1.1 r.1.2.1 r.1.2.2.1 r.1.2.2.2.1 r.1.2.2.2.2 A r.2.1.length c B r.2.2.length d ∧ r.2.1.length ≤ c ∧ Kd.C k90 w A r.2.1.length r.2.1 ∧ r.2.2.length ≤ d ∧ Kd.C u8s w B r.2.2.length r.2.2 := by
 obtain ⟨⟨N, T, K, E, Rm⟩, rs, ts⟩ := r
 obtain ⟨l1, r1, e1, ⟨m1, n1, f1, g1, m2, n2, f2, g2, m3, n3, f3, g3, m4, n4, f4, g4, g5⟩, l2, r2, e2, ⟨A, c, rfl, hc, hC⟩, ⟨B, d, rfl, hd, hD⟩⟩ := h
 have e : cs.toList = [.int .i64 N, .int .i64 T, .int .i64 K, .int .i64 E, .int .i64 Rm, .slice A rs.length c, .slice B ts.length d] := by
  rw [e1, f1, f2, f3, f4, e2, show m1 = [.int .i64 N] from g1, show m2 = [.int .i64 T] from g2, show m3 = [.int .i64 K] from g3, show m4 = [.int .i64 E] from g4, show n4 = [.int .i64 Rm] from g5]
  rfl
 refine ⟨A, c, B, d, ?_, hc, hC, hd, hD⟩
 have : cs = #[.int .i64 N, .int .i64 T, .int .i64 K, .int .i64 E, .int .i64 Rm, .slice A rs.length c, .slice B ts.length d] := by rw [← Array.toArray_toList (xs := cs), e]
 rw [this]; rfl
theorem zoZ (l : List (List Int)) (h : ∀ r ∈ l, ∀ a ∈ r, (Lit.int .u8 a).wf = true) : ∃ p : List (List F), p.map bs = l := by
 induction l with
 | nil => exact ⟨[], rfl⟩
 | cons a l ih =>
   obtain ⟨p, hp⟩ := ih (fun b hb => h b (List.mem_cons_of_mem _ hb))
   obtain ⟨q, hq⟩ := JT a (h a (List.mem_cons_self ..))
   exact ⟨q :: p, by rw [List.map_cons, hq, hp]⟩
theorem zoD {w : World} {B : Option Addr} {m : Nat} {ts : List (List F)} (h : Kd.C u8s w B m (ts.map bs)) : PL w B m ts := by
 have hl : ts.length = m := by have := Kd.C_len h; rwa [List.length_map] at this
 have hg : ∀ i, i < m → (ts.map bs).getD i [] = bs (ts.getD i []) := fun i hi => by
  rw [List.getD_eq_getElem?_getD, List.getD_eq_getElem?_getD, List.getElem?_map, List.getElem?_eq_getElem (by omega)]
  rfl
 obtain ⟨hs, h1, h2⟩ := zmk m (fun i (x : Hd) => x.2.1 = (ts.getD i []).length ∧ x.2.1 ≤ x.2.2 ∧ Kd.C fk w x.1 (ts.getD i []).length (ts.getD i []) ∧ ∃ ad, B = some ad ∧ w.cell? (ad.add i) = some (ja x)) (fun i hi => by
  obtain ⟨ad, A0, c0, e, k1, k2, k3⟩ := zci h i hi
  rw [hg i hi, zx] at k1 k2 k3
  exact ⟨(A0, _, c0), rfl, k2, Jz.1 k3, ad, e, k1⟩)
 have h3 : ∀ i, i < m → (hs.getD i hd0).2.1 = (ts.getD i []).length ∧ (hs.getD i hd0).2.1 ≤ (hs.getD i hd0).2.2 ∧ Kd.C fk w (hs.getD i hd0).1 (ts.getD i []).length (ts.getD i []) ∧ ∃ ad, B = some ad ∧ w.cell? (ad.add i) = some (ja (hs.getD i hd0)) := fun i hi => h2 i _ (by rw [List.getD_eq_getElem?_getD, List.getElem?_eq_getElem (by omega)]; rfl)
 refine ⟨hs, ?_, hl, fun i hi => ⟨(h3 i hi).1, (h3 i hi).2.1, (h3 i hi).2.2.1⟩⟩
 refine Kd.C_of_reads (enc := ja) (h1 := fun _ => rfl) (d := hd0) ⟨h1, h.2.1, fun hm => ?_⟩
 obtain ⟨_, _, _, ad, e, _⟩ := h3 0 hm
 refine ⟨ad, e, fun j hj => ?_⟩
 obtain ⟨_, _, _, ad', e', hc⟩ := h3 j hj
 rw [e] at e'
 injection e' with e'
 subst e'
 exact hc
theorem zpr {x : Int} (h : wfI x) : -9223372036854775808 ≤ x ∧ x ≤ 9223372036854775807 := by
 unfold wfI at h
 simp [Lit.wf, IntKind.min, IntKind.max, IntKind.signed, IntKind.bits] at h
 omega
theorem zed {w : World} {x : RunT} {cs : Array Value} (hK : zjW.K w x cs.toList) (hw : zgI x) : ∃ (N T K E Rm : Int) (A : Option Addr) (nr c : Nat) (B : Option Addr) (m d : Nat) (rs : List Ri) (ts : List (List F)), Value.agg cs = zbe N T K E Rm A nr c B m d ∧ (-9223372036854775808 ≤ N ∧ N ≤ 9223372036854775807) ∧ RL w A nr rs ∧ nr ≤ c ∧ nr ≤ 9223372036854775807 ∧
 (∀ r ∈ rs, r.ds.length ≤ 9223372036854775807 ∧ r.sn.length ≤ 9223372036854775807) ∧ Kd.C zkY w B m (ts.map bs) ∧ m ≤ d ∧ PL w B m ts ∧ m ≤ 9223372036854775807 := by
 obtain ⟨A, c, B, d, e, hc, hC, hd, hD⟩ := zpd hK
 obtain ⟨ts, hts⟩ := zoZ x.2.2 hw.2.2
 rw [← hts] at hD hd e
 rw [List.length_map] at hD hd e
 have hR : RL w A x.2.1.length (x.2.1.map ofS) := by
  unfold RL
  rw [zjl]
  exact hC
 refine ⟨_, _, _, _, _, A, _, c, B, _, d, x.2.1.map ofS, ts, e, zpr hw.1.1, hR, hc, hC.2.1, fun r hr => ?_, hD, hd, zoD hD, hD.2.1⟩
 obtain ⟨i, hi, rfl⟩ := List.getElem_of_mem hr
 obtain ⟨r, ad, D, S, nd, cd, ns, cs', hr', _, _, _, _, _, l1, _, k1, l2, _, k2⟩ := zdh hR i (by rw [List.length_map] at hi; exact hi)
 rw [List.getD_eq_getElem?_getD, List.getElem?_eq_getElem hi] at hr'
 have hr2 : r = (x.2.1.map ofS)[i] := hr'
 rw [← hr2, l1, l2]
 exact ⟨k1.2.1, k2.2.1⟩
end Go.Proofs.Ytpeiejkcoadhfaa
