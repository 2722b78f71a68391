/- What the view's laws take, Vu23: PzK, PzR, PzS, VwM, VwU, VwV, VwEV. -/
import Derived.Test.YtpeiejkcoadhfaaVu15
import Derived.Test.YtpeiejkcoadhfaaVu20
import Derived.Test.YtpeiejkcoadhfaaVu21
import Derived.Test.YtpeiejkcoadhfaaVu22
import Derived.Deep.RegionLaw
set_option linter.all false
namespace Go.Proofs.Ytpeiejkcoadhfaa
open Go.RowKit Go.Shelf Go.Proofs.YtpeiejkcoadhfaaW.PrintWords Go.Proofs.YtpeiejkcoadhfaaW.PrintMore
def Jn (xs : List F) (k j : Nat) : List F := (xs.drop (j * k)).take k ++ List.replicate (k - ((xs.drop (j * k)).take k).length) 0
theorem zdq (xs : List F) (k j : Nat) : Zy (bs xs) k j = bs (Jn xs k j) := by
 unfold Zy Jn bs
 rw [List.map_append, List.map_replicate, List.map_take, List.map_drop]
 congr 1
 simp [F.zero_v]
theorem js (xs : List F) (k j : Nat) : (Jn xs k j).length = k := by
 have := zfP (bs xs) k j
 rw [zdq, zx] at this
 exact this
open Classical in
noncomputable def zad (xs ys : List F) : List F := if h : ∃ s, zbu xs ys s then Classical.choose h else []
theorem zas {xs ys s : List F} (hu : Unl xs) (h : zbu xs ys s) : zad xs ys = s := by
 have he : ∃ s, zbu xs ys s := ⟨s, h⟩
 unfold zad
 rw [dif_pos he]
 exact zhz hu (Classical.choose_spec he) h
theorem zfY {a b : Nat} (ha : a < 255) (hb : b < 255) (h : ptF a = ptF b) : a = b := by
 have h1 : (a % 256 + 1) % 256 = (b % 256 + 1) % 256 := congrArg F.v h
 omega
theorem znl {N : Nat} (f : Nat → F) (h : ∀ i j, i < N → j < N → f i = f j → i = j) : Unl ((List.range N).map f) := by
 unfold Unl
 rw [List.nodup_iff_pairwise_ne, List.pairwise_map]
 refine List.Pairwise.imp_of_mem ?_ (List.nodup_iff_pairwise_ne.1 List.nodup_range)
 intro a b ha hb hne e
 exact hne (h a b (List.mem_range.1 ha) (List.mem_range.1 hb) e)
theorem ZG (N K : Nat) (h : N + K ≤ 255) : Unl (zN N K) := znl _ (fun i j hi hj e => by have := zfY (by omega) (by omega) e; omega)
noncomputable def jl (N T K : Nat) (data rnd : List F) : List (List F) := (List.range (ye data.length K)).map fun j => zj (zW (zad (zN N K) (Jn data K j)) (zj (zB (zw (zN N K)) (yn rnd T j))))
theorem zcB (xs ys : List F) : (zad xs ys).length ≤ xs.length := by
 unfold zad
 split
 ·rename_i h
  exact (Classical.choose_spec h).2.1
 simp
theorem zeL (N T K : Nat) (data rnd : List F) : ∀ q ∈ jl N T K data rnd, q.length ≤ K + 1 + T := fun q hq => by
 obtain ⟨j, _, rfl⟩ := List.mem_map.1 hq
 have hrl := zQ (zN N K)
 rw [zH] at hrl
 have ht := zcB (zN N K) (Jn data K j)
 rw [zH] at ht
 have h2 : (zj (zB (zw (zN N K)) (yn rnd T j))).length ≤ K + 1 + T := yR (fun i hi => yZ _ _ (K + 1) T (fun k hk => zJ _ _ (by omega)) (fun k hk => zJ _ _ (by simp [yn]; omega)) i (by omega) (by omega))
 exact yR (fun i hi => by rw [zS, zJ _ i (by omega), zJ _ i (by omega), F.add_zero])
theorem zeX (N T K : Nat) (data rnd : List F) : (jl N T K data rnd).length = ye data.length K := by simp [jl]
end Go.Proofs.Ytpeiejkcoadhfaa
namespace Go.Proofs.Ytpeiejkcoadhfaa
open Go.RowKit Go.Shelf Go.Proofs.YtpeiejkcoadhfaaW.PrintWords Go.Proofs.YtpeiejkcoadhfaaW.PrintMore
open Go.BigFrame
set_option maxRecDepth 100000 in
set_option maxHeartbeats 1600000 in
theorem zbr (w : World) (A : Option Addr) (n c : Nat) (xs : List F) (hx : Kd.C fk w A n xs) (hl : n ≤ 1000000) :
 Calls Try.prog 57 #[.slice A n c] w fun e w' => ∃ D cd, e = .returned (.slice D (n + 1) cd) ∧ n + 1 ≤ cd ∧ Kd.C fk w' D (n + 1) (zw xs) ∧ Below w.heap.size w w' := by
 obtain rfl : xs.length = n := Kd.C_len hx
 have HX := za.mk hx
 clear hx
 have hl0 := R_C (Zr w w.heap.size (fun _ => True) [1] (by decide) (Nat.le_refl _) trivial)
 have HL0 := za.mk hl0
 clear hl0
 go_enter Try.func57, Try.ntmps57
 go_wp2
 go_loopw [3, 4] (fun v3 v4 wr => ∃ (k dd : Nat) (D : Option Addr), k ≤ xs.length ∧ v4 = .int .i64 (k : Int) ∧ v3 = .slice D (k + 1) dd ∧ k + 1 ≤ dd ∧ za (Kd.C fk wr D (k + 1) (zw (xs.take k))) ∧ za (Below w.heap.size w wr)) (fun _ v4 _ => xs.length - (intOf v4).toNat)
 case atStart => exact ⟨0, 1, _, by omega, rfl, rfl, by omega, HL0, ⟨zc (Below.refl _ _) _⟩⟩
 clear HL0
 obtain ⟨k, dd, D, hk, rfl, rfl, hdd, HR, HB⟩ := hrel
 by_cases hlt : k < xs.length
 ·obtain ⟨ad, rfl, hca⟩ := Jc HX.out (Fr.of_below HB.out (fun _ => False)) (fun _ h => h.elim) k hlt
  have hst := Jj (xs.take k) (xs.getD k 0)
  rw [← zK 0 xs k hlt] at hst
  obtain ⟨a, ha⟩ : ∃ a, a = xs.getD k 0 := ⟨_, rfl⟩
  rw [← ha] at hca hst
  have hbl : Below wr.heap.size wr (wr.alloc (.cells #[.int .u8 a.v, .int .u8 1] 5)) := zc (Below.refl _ _) _
  have hlit : Kd.C fk (wr.alloc (.cells #[.int .u8 a.v, .int .u8 1] 5)) (some ⟨wr.heap.size, 0, none⟩) 2 (lin a) := R_C (Zr wr wr.heap.size (fun _ => True) (lin a) (by simp [lin]) (Nat.le_refl _) trivial)
  have HT := za.mk (zbF (wr.alloc (.cells #[.int .u8 a.v, .int .u8 1] 5)) D (some ⟨wr.heap.size, 0, none⟩) (k + 1) 2 dd 2 (zw (xs.take k)) (lin a) (Kd.C_below HR.out hbl) hlit (by omega))
  have hrl := zQ (xs.take (k + 1))
  rw [List.length_take, Nat.min_eq_left (by omega)] at hrl
  rw [← hst, hrl] at HT
  have HBL := za.mk hbl
  clear hst ha hbl hlit hrl
  go_wp2_with (go_at_call 91; with_reducible refine HT.out.mono ?_; rintro e W1 ⟨D1, d1, rfl, hR1, hb1⟩; replace hR1 := za.mk hR1; replace hb1 := za.mk hb1)
  go_roundw
  case rel => exact ⟨k + 1, d1, D1, by omega, by go_num, rfl, zfq hR1.out, ⟨R_C hR1.out⟩, ⟨(HB.out.trans (HBL.out.mono HB.out.size)).trans (hb1.out.mono (Nat.le_trans HB.out.size HBL.out.size))⟩⟩
  simp [intOf]; omega
 obtain rfl : k = xs.length := by omega
 go_wp2
 go_ret
 refine ⟨D, dd, rfl, hdd, ?_, HB.out⟩
 have h := HR.out
 rwa [List.take_length] at h
theorem yF {P : Program} {ops : Array Oper} {o : Oper} {a : Act} {w w' : World} {K : Act → World → Prop} {Q : Exit → Act → World → Prop} {E : Prop} {v y v' : Value}
 (hg : o.guard = none) (s x : Operand) (t t' : TypeId) (hop : o.op = Op.call { callee := Callee.builtin Builtin.append, args := #[s, x], argTypes := #[t, t'] })
 (hs : a.eval s = v) (hx : a.eval x = y) (hrun : (Builtin.append_ #[t, t'] o.type #[v, y]).run P w = .ok v' w') (hK : K (a.put o.dst v') w') :
 if Region.wanted o (yielded ops a.tmps) = true then Oper.wp P o a w K Q else E := by
 have hw : Region.wanted o (yielded ops a.tmps) = true := by simp [Region.wanted, hg]
 rw [if_pos hw]
 unfold Oper.wp
 simp only [execOp, hop, resolve, invoke, builtin, Sem.run_bind, Sem.run_pure, Result.andThen_ok, List.map_toArray, List.map_cons, List.map_nil, hs, hx, hrun]
 exact hK
theorem zpP (W w : World) (hb : Below w.heap.size w W) (A A2 : Option Addr) (n1 n2 c1 c2 : Nat) (ys zs : List F) (h1 : Kd.C fk W A n1 ys) (h2 : Kd.C fk W A2 n2 zs) (hl : n1 + n2 ≤ 1000000) :
 ∃ B1 d1 W1, (Builtin.append_ #[36, 36] 36 #[.slice (some ⟨W.heap.size, 0, none⟩) 0 0, .slice A n1 c1]).run Try.prog (W.alloc (.cells #[] 5)) = .ok (.slice B1 n1 d1) W1 ∧
 ∃ B2 d2 W2, (Builtin.append_ #[36, 36] 36 #[.slice B1 n1 d1, .slice A2 n2 c2]).run Try.prog W1 = .ok (.slice B2 (n1 + n2) d2) W2 ∧ Kd.R fk 5 W2 w.heap.size (fun _ => True) (.slice B2 (n1 + n2) d2) (ys ++ zs) ∧ Below w.heap.size w W2 := by
 obtain rfl : ys.length = n1 := Kd.C_len h1
 obtain rfl : zs.length = n2 := Kd.C_len h2
 have hb0 : Below W.heap.size W (W.alloc (.cells #[] 5)) := zc (Below.refl _ _) _
 obtain ⟨v1, W1, hrun1, hq1, hg1, hat1⟩ := zR (P := Try.prog) zZ (0 : F) (W.alloc (.cells #[] 5)) w.heap.size 36 36 5 _ 1 Try.underlying36 yJ rfl (ys := ys) (c := c1) (zdv fk 5 W w.heap.size hb.size) (Kd.C_below h1 hb0) (by simp; omega) (by omega) (Nat.le_trans hb.size hb0.size) (fun _ _ => trivial)
 obtain ⟨B1, d1, rfl⟩ := Kd.R_slice hq1
 rw [List.nil_append] at hrun1 hq1
 have hb1 : Below W.heap.size W W1 := hb0.grown hg1 hb0.size (fun k hk => by
                                                                           have : k = W.heap.size := by simpa [Value.ownBlock] using hk.symm
                                                                           omega)
 have hbw1 : Below w.heap.size w W1 := hb.trans (hb1.mono hb.size)
 obtain ⟨v2, W2, hrun2, hq2, hg2, hat2⟩ := zR (P := Try.prog) zZ (0 : F) W1 w.heap.size 36 36 5 _ 1 Try.underlying36 yJ rfl (ys := zs) (c := c2) hq1 (Kd.C_below h2 hb1) (by omega) (by omega) hbw1.size (fun _ _ => trivial)
 obtain ⟨B2, d2, rfl⟩ := Kd.R_slice hq2
 rw [List.length_append] at hrun2 hq2
 exact ⟨B1, d1, W1, hrun1, B2, d2, W2, hrun2, hq2, hbw1.grown hg2 hbw1.size (fun k hk => Kd.R_base hq1 k hk)⟩
set_option maxRecDepth 100000 in
set_option maxHeartbeats 1600000 in
theorem zfL (w : World) (A B : Option Addr) (n c d : Nat) (xs ys : List F) (hx : Kd.C fk w A n xs) (hy : Kd.C fk w B n ys) (hc : n ≤ c) (hl : n ≤ 1000) (hu : Unl xs) :
 Calls Try.prog 55 #[.slice A n c, .slice B n d] w fun e w' => ∃ D cd s, e = .returned (.slice D s.length cd) ∧ s.length ≤ cd ∧ Kd.C fk w' D s.length s ∧ zbu xs ys s ∧ Below w.heap.size w w' := by
 obtain rfl : xs.length = n := Kd.C_len hx
 have HX := za.mk hx
 have HY := za.mk hy
 have HU := za.mk hu
 clear hx hy hu
 go_enter Try.func55, Try.ntmps55
 go_wp2
 go_loopw [5, 6] (fun v5 v6 wr => ∃ (k dd : Nat) (D : Option Addr) (s : List F), k ≤ xs.length ∧ v6 = .int .i64 (k : Int) ∧ v5 = .slice D s.length dd ∧ s.length ≤ dd ∧ za (Kd.C fk wr D s.length s) ∧ za (zaI xs ys s k) ∧ za (Below w.heap.size w wr)) (fun _ v6 _ => xs.length - (intOf v6).toNat)
 case atStart => exact ⟨0, 0, none, [], by omega, rfl, rfl, by simp, ⟨Kd.C_nil _ _⟩, ⟨zbx xs ys⟩, ⟨Below.refl _ _⟩⟩
 obtain ⟨k, dd, D, s, hk, rfl, rfl, hdd, HR, HT, HB⟩ := hrel
 by_cases hlt : k < xs.length
 ·obtain ⟨i5, hi5, _, hs5, _⟩ := info_parts yJ
  have kt := zie (P := Try.prog) 36 5 Try.underlying36 hi5 A xs.length c k hk hc
  have kf := zhM (P := Try.prog) 36 5 Try.underlying36 hi5 hs5 A xs.length c (k + 1) (by omega)
  have hXr := Kd.C_below HX.out HB.out
  have hYr := Kd.C_below HY.out HB.out
  have hkl : k + (xs.length - (k + 1)) ≤ 1000000 := by omega
  obtain ⟨B1, d1, W1, hrun1, B2, d2, W2, hrun2, hO, hb2⟩ := zpP wr.drew wr (yf (Below.refl _ _)) A (zaF A c (k + 1)) k (xs.length - (k + 1)) c (c - (k + 1)) (xs.take k) (xs.drop (k + 1)) (Kd.C_below (zoL (0 : F) k hXr hk) (yf (Below.refl _ _))) (Kd.C_below (zoY (0 : F) c (k + 1) hXr (by omega) hc) (yf (Below.refl _ _))) hkl
  have HR1 := za.mk hrun1
  have HR2 := za.mk hrun2
  have HO := za.mk hO
  have HB2 := za.mk hb2
  have hwr : IntKind.i64.wrap ((k : Int) + 1) = (k : Int) + 1 := IntWalk.i64_in _ ⟨by omega, by omega⟩
  rw [show ((k + 1 : Nat) : Int) = (k : Int) + 1 from rfl] at kf
  clear hrun1 hrun2 hO hb2 hXr hYr hi5 hs5 hkl
  go_wp2
  go_region_law (first | refine yF rfl _ _ _ _ rfl rfl rfl HR1.out ?_ | refine yF rfl _ _ _ _ rfl rfl rfl HR2.out ?_)
  clear HR1 HR2 kt kf hwr
  have hbas := zbW HU.out hlt
  have hlen : k + (xs.length - (k + 1)) + 1 = xs.length := by omega
  obtain ⟨os, hos⟩ : ∃ os, os = xs.take k ++ xs.drop (k + 1) := ⟨_, rfl⟩
  rw [← hos] at HO hbas
  obtain ⟨ol, hol⟩ : ∃ ol, ol = k + (xs.length - (k + 1)) := ⟨_, rfl⟩
  rw [← hol] at HO hlen ⊢
  have HRT := za.mk (zbr W2 B2 ol d2 os (R_C HO.out) (by omega))
  have HBA := za.mk hbas
  have HLN := za.mk hlen
  have holl : ol ≤ 1000 := by omega
  clear hos hol hbas hlen
  go_wp2_with (go_at_call 57; with_reducible refine HRT.out.mono ?_; rintro e W3 ⟨D3, d3, rfl, hd3, hC3, hb3⟩; replace hC3 := za.mk hC3; replace hb3 := za.mk hb3)
  have hbW3 : Below w.heap.size w W3 := HB.out.trans ((HB2.out.trans (hb3.out.mono HB2.out.size)).mono HB.out.size)
  obtain ⟨adA, rfl, hca⟩ := Jc HX.out (Fr.of_below hbW3 (fun _ => False)) (fun _ h => h.elim) k hlt
  obtain ⟨adB, rfl, hcb⟩ := Jc HY.out (Fr.of_below hbW3 (fun _ => False)) (fun _ h => h.elim) k hlt
  obtain ⟨x, hxe⟩ : ∃ x, x = xs.getD k 0 := ⟨_, rfl⟩
  obtain ⟨y, hye⟩ : ∃ y, y = ys.getD k 0 := ⟨_, rfl⟩
  have hne := HBA.out.2.2
  rw [← hxe] at hca hne
  rw [← hye] at hcb
  obtain ⟨v, hv⟩ : ∃ v, v = ev (zw os) x := ⟨_, rfl⟩
  have HE := za.mk (fun t => zfy (W3.drewN t) D3 (ol + 1) d3 (zw os) x (C_drewN hC3.out t) (by omega))
  rw [← hv] at HE hne
  have HI := za.mk (fun t => zpK (W3.drewN t) v hne)
  have HM := za.mk (fun t => zjz (W3.drewN t) y v.inv)
  obtain ⟨c1, hc1⟩ : ∃ c1, c1 = y * v.inv := ⟨_, rfl⟩
  rw [← hc1] at HM
  have HST : za (Eqv (zB (zw os) [c1]) (zB (zw os) [ys.getD k 0 * (ev (zw os) (xs.getD k 0)).inv])) := ⟨by rw [← hxe, ← hye, ← hv, ← hc1]; exact Eqv.refl _⟩
  have HBW3 := za.mk hbW3
  clear hxe hye hv hc1 hbW3 hne HRT
  go_wp2
  refine yC 12 (by kernel_rfl) (by kernel_rfl) ?_
  simp only [List.take_succ_cons, List.take_zero, List.drop_succ_cons, List.drop_zero]
  repeat (first | go_big_quiet_skip | (go_big_quiet_want; go_big_quiet_op; first | go_big_quiet_on | (apply Exists.intro; refine ⟨fun t => ?_, ?_⟩; (first | (go_at_call 56; with_reducible exact jW (HE.out t)) | (go_at_call 35; with_reducible exact jW (HI.out t)) | (go_at_call 34; with_reducible exact jW (HM.out t))); go_big_quiet_on)))
  refine wpQuiet_nil ?_
  rintro _ ⟨t, rfl⟩
  clear HE HI HM
  obtain ⟨V, hV⟩ : ∃ V, V = W3.drewN t := ⟨_, rfl⟩
  have hb3V : Below W3.heap.size W3 V := by rw [hV]; exact zb (Below.refl _ _) t
  have hbV : Below w.heap.size w V := HBW3.out.trans (hb3V.mono HBW3.out.size)
  have hbl : Below V.heap.size V (V.alloc (.cells #[.int .u8 c1.v] 5)) := zc (Below.refl _ _) _
  have hlit : Kd.C fk (V.alloc (.cells #[.int .u8 c1.v] 5)) (some ⟨V.heap.size, 0, none⟩) 1 [c1] := R_C (Zr V V.heap.size (fun _ => True) [c1] (by simp) (Nat.le_refl _) trivial)
  have HT1 := za.mk (zbF (V.alloc (.cells #[.int .u8 c1.v] 5)) D3 (some ⟨V.heap.size, 0, none⟩) (ol + 1) 1 d3 1 (zw os) [c1] (Kd.C_below (Kd.C_below hC3.out hb3V) hbl) hlit (by omega))
  have hbrV : Below wr.heap.size wr V := (HB2.out.trans (hb3.out.mono HB2.out.size)).trans (hb3V.mono (Nat.le_trans HB2.out.size hb3.out.size))
  have hRV := Kd.C_below HR.out hbrV
  obtain ⟨q, hq⟩ : ∃ q, q = zj (zB (zw os) [c1]) := ⟨_, rfl⟩
  have hql : q.length ≤ 1000 + 2 := by
   have h1 := zQ os
   have h2 := Kd.C_len (R_C HO.out)
   have h3 : (zj (zB (zw os) [c1])).length ≤ ol + 1 + 1 := yR (fun i hi => yZ (zw os) [c1] (ol + 1) 1 (fun j hj => zJ _ _ (by omega)) (fun j hj => zJ _ _ (by simpa using hj)) i (by omega) (by omega))
   rw [hq]; omega
  have hsl : s.length ≤ 1000 := Nat.le_trans HT.out.2.1 hl
  have HNX := za.mk (zcm HT.out hlt HBA.out (show Eqv q _ from by rw [hq]; exact (zY _).trans HST.out))
  rw [← hq] at HT1
  have HA1 : za (∀ D4 d4 W4, Kd.C fk W4 D4 q.length q → Below (V.alloc (.cells #[.int .u8 c1.v] 5)).heap.size (V.alloc (.cells #[.int .u8 c1.v] 5)) W4 → Calls Try.prog 90 #[.slice D s.length dd, .slice D4 q.length d4] W4 fun e w' => ∃ D5 cd, e = .returned (.slice D5 (zj (zW s q)).length cd) ∧ Kd.R fk 5 w' W4.heap.size (fun _ => True) (.slice D5 (zj (zW s q)).length cd) (zj (zW s q)) ∧ Below w.heap.size w w') := ⟨fun D4 d4 W4 h4 hb4 => by
   have hbVW : Below V.heap.size V W4 := hbl.trans (hb4.mono hbl.size)
   refine (zhI W4 D D4 s.length q.length dd d4 s q (Kd.C_below hRV hbVW) h4 (by omega) (by omega)).mono ?_
   rintro e W5 ⟨D5, cd, he, hR5, hb5⟩
   have hbw4 := hbV.trans (hbVW.mono hbV.size)
   exact ⟨D5, cd, he, hR5, hbw4.trans (hb5.mono hbw4.size)⟩⟩
  obtain ⟨r, hr⟩ : ∃ r, r = zj (zW s q) := ⟨_, rfl⟩
  rw [← hr] at HA1 HNX
  rw [← hV]
  clear hr hq hV hb3V hbV hbl hlit hRV hbrV
  go_wp2_with (first | (go_at_call 91; with_reducible refine HT1.out.mono ?_; rintro e W4 ⟨D4, d4, rfl, hR4, hb4⟩; have HA2 := za.mk (HA1.out D4 d4 W4 (R_C hR4) hb4); clear hR4 hb4) | (go_at_call 90; with_reducible refine HA2.out.mono ?_; rintro e W5 ⟨D5, d5, rfl, hR5, hb5⟩; replace hR5 := za.mk hR5; replace hb5 := za.mk hb5))
  go_roundw
  case rel => exact ⟨k + 1, d5, D5, r, by omega, by go_num, rfl, zfq hR5.out, ⟨R_C hR5.out⟩, HNX, hb5⟩
  simp [intOf]; omega
 obtain rfl : k = xs.length := by omega
 have HTT := za.mk (zcw wr D s.length dd s HR.out hdd (by have := HT.out.2.1; omega))
 rw [HT.out.1] at HTT
 go_wp2_with (go_at_call 92; with_reducible refine HTT.out.mono ?_; rintro e W1 ⟨D1, d1, rfl, hR1, hb1⟩)
 go_ret
 exact ⟨D1, d1, s, rfl, zfq hR1, R_C hR1, zen HT.out rfl, HB.out.trans (hb1.mono HB.out.size)⟩
end Go.Proofs.Ytpeiejkcoadhfaa
namespace Go.Proofs.Ytpeiejkcoadhfaa
open Go.RowKit Go.Shelf Go.Proofs.YtpeiejkcoadhfaaW.PrintWords Go.Proofs.YtpeiejkcoadhfaaW.PrintMore
def Gd (N T K E Rm : Int) : Prop := 0 ≤ N ∧ N ≤ 255 ∧ 1 ≤ T ∧ T ≤ 255 ∧ 1 ≤ K ∧ K ≤ 255 ∧ 0 ≤ E ∧ E ≤ 255 ∧ 1 ≤ Rm ∧ Rm ≤ 512 ∧ T + K + 2 * E ≤ N ∧ N + K ≤ 255
instance (N T K E Rm : Int) : Decidable (Gd N T K E Rm) := by unfold Gd; infer_instance
def zbP (N T K E Rm : Int) : Bool := decide (Gd N T K E Rm)
theorem zfk {N T K E Rm : Int} (h : zbP N T K E Rm = true) : Gd N T K E Rm := of_decide_eq_true h
theorem znC (N T K E Rm : Int) (hN : -9223372036854775808 ≤ N ∧ N ≤ 9223372036854775807) : PDealPoints.deal_Good.f N T K E Rm = some (zbP N T K E Rm) := by
 unfold PDealPoints.deal_Good.f zbP
 simp only [wrap64]
 repeat' split
 all_goals (congr 1; rw [eq_comm]; first | (rw [decide_eq_false_iff_not]; unfold Gd; omega) | (rw [decide_eq_decide]; unfold Gd; omega))
theorem znP (N T K E Rm : Int) (hN : -9223372036854775808 ≤ N ∧ N ≤ 9223372036854775807) : PDealPoints.shamrockref10_Good.f 5 N T K E Rm = some (zbP N T K E Rm) := by
 have e1 : wrap64 (0 + 1) = 1 := by unfold wrap64; omega
 have e2 : wrap64 (1 + 1) = 2 := by unfold wrap64; omega
 have e3 : wrap64 (2 + 1) = 3 := by unfold wrap64; omega
 have e4 : wrap64 (3 + 1) = 4 := by unfold wrap64; omega
 have r0 : rd [N, T, K, E] 0 = N := rfl
 have r1 : rd [N, T, K, E] 1 = T := rfl
 have r2 : rd [N, T, K, E] 2 = K := rfl
 have r3 : rd [N, T, K, E] 3 = E := rfl
 have l4 : (([N, T, K, E] : List Int).length : Int) = 4 := rfl
 unfold PDealPoints.shamrockref10_Good.f
 simp only [Option.bind_some, PDealPoints.shamrockref10_Good.l0, l4, e1, e2, e3, e4, r0, r1, r2, r3]
 unfold zbP
 simp only [wrap64, Int.reduceLT, Int.reduceLE, ↓reduceIte]
 by_cases c0 : N < 0
 ·rw [if_pos c0]; congr 1; rw [eq_comm, decide_eq_false_iff_not]; unfold Gd; omega
 rw [if_neg c0]
 by_cases c1 : N > 255
 ·rw [if_pos c1]; congr 1; rw [eq_comm, decide_eq_false_iff_not]; unfold Gd; omega
 rw [if_neg c1]
 by_cases c2 : T < 0
 ·rw [if_pos c2]; congr 1; rw [eq_comm, decide_eq_false_iff_not]; unfold Gd; omega
 rw [if_neg c2]
 by_cases c3 : T > 255
 ·rw [if_pos c3]; congr 1; rw [eq_comm, decide_eq_false_iff_not]; unfold Gd; omega
 rw [if_neg c3]
 by_cases c4 : K < 0
 ·rw [if_pos c4]; congr 1; rw [eq_comm, decide_eq_false_iff_not]; unfold Gd; omega
 rw [if_neg c4]
 by_cases c5 : K > 255
 ·rw [if_pos c5]; congr 1; rw [eq_comm, decide_eq_false_iff_not]; unfold Gd; omega
 rw [if_neg c5]
 by_cases c6 : E < 0
 ·rw [if_pos c6]; congr 1; rw [eq_comm, decide_eq_false_iff_not]; unfold Gd; omega
 rw [if_neg c6]
 by_cases c7 : E > 255
 ·rw [if_pos c7]; congr 1; rw [eq_comm, decide_eq_false_iff_not]; unfold Gd; omega
 rw [if_neg c7]
 clear e1 e2 e3 e4 r0 r1 r2 r3 l4
 repeat' split
 all_goals (congr 1; rw [eq_comm]; first | (rw [decide_eq_false_iff_not]; unfold Gd; omega) | (rw [decide_eq_decide]; unfold Gd; omega))
theorem zlA (w : World) (N T K E Rm : Int) (hN : -9223372036854775808 ≤ N ∧ N ≤ 9223372036854775807) : Calls Try.prog 43 #[zv N T K E Rm] w fun e w' => e = .returned (.bool (zbP N T K E Rm)) ∧ Below w.heap.size w w' :=
 PDealPoints.deal_Good.calls _ _ _ _ _ _ w (znC N T K E Rm hN)
theorem zkL (w : World) (N T K E Rm : Int) (hN : -9223372036854775808 ≤ N ∧ N ≤ 9223372036854775807) : Calls Try.prog 44 #[zv N T K E Rm] w fun e w' => e = .returned (.bool (zbP N T K E Rm)) ∧ Below w.heap.size w w' :=
 PDealPoints.shamrockref10_Good.calls 5 _ _ _ _ _ _ w (znP N T K E Rm hN)
theorem znj (N T K : Nat) (E Rm kind : Int) (hT : T ≤ 1000) (hK : K ≤ 1000) (hTK : 1 ≤ T + K) (q : Nat) : PDealPoints.shamrockref10_Each.f (q + 1) N T K E Rm kind = some ((zD T K kind : Nat) : Int) := by
 have h1 : wrap64 ((T : Int) + (K : Int)) = ((T + K : Nat) : Int) := Jh T K (by omega)
 have h2 : wrap64 (((T + K : Nat) : Int) - 1) = ((T + K - 1 : Nat) : Int) := by rw [ZQ _ (by omega)]; omega
 unfold PDealPoints.shamrockref10_Each.f PDealPoints.shamrockref10_Each.j0 zD
 simp only []
 rw [h1, h2]
 by_cases c1 : kind = 1
 ·subst c1; simp
 by_cases c2 : kind = 2
 ·subst c2; simp
 by_cases c3 : kind = 3
 ·subst c3; simp
 by_cases c4 : kind = 4
 ·subst c4; simp
 simp [c1, c2, c3, c4]
theorem zjV (w : World) (N T K : Nat) (E Rm kind : Int) (hT : T ≤ 1000) (hK : K ≤ 1000) (hTK : 1 ≤ T + K) : Calls Try.prog 50 #[zv N T K E Rm, .int .i64 kind] w fun e w' => e = .returned (.int .i64 ((zD T K kind : Nat) : Int)) ∧ Below w.heap.size w w' :=
 PDealPoints.shamrockref10_Each.calls 1 _ _ _ _ _ _ _ w (znj N T K E Rm kind hT hK hTK 0)
theorem R_bs {w : World} {base : Nat} {ok : Nat → Prop} {v : Value} {p : List F} (h : Kd.R u8 5 w base ok v (bs p)) : ∃ B c, v = .slice B p.length c ∧ p.length ≤ c ∧ Kd.C fk w B p.length p := by
 obtain ⟨B, c, rfl⟩ := Kd.R_slice h
 have h1 := Kd.R_reads' h
 rw [zx] at h1 h ⊢
 exact ⟨B, c, rfl, h1.2.1, Jz.1 h1.2.2⟩
theorem zku (p q : List F) : bs (p ++ q) = bs p ++ bs q := by simp [bs]
theorem zgM (N T K : Nat) (E Rm : Int) (hN : N ≤ 1000) (hK : K ≤ 1000) (d : Nat) : ∀ (q i : Nat), i + d = K → d < q → PDealPoints.shamrockref10_Secrets.l0 q (bs (zN N i)) (i : Int) N T K E Rm = some (bs (zN N K)) := by
 induction d with
 | zero =>
   intro q i hi hq
   obtain ⟨q, rfl⟩ : ∃ m, q = m + 1 := ⟨q - 1, by omega⟩
   obtain rfl : i = K := by omega
   simp only [PDealPoints.shamrockref10_Secrets.l0]
   rw [if_neg (by omega)]
 | succ d ih =>
   intro q i hi hq
   obtain ⟨q, rfl⟩ : ∃ m, q = m + 1 := ⟨q - 1, by omega⟩
   have h := ih q (i + 1) (by omega) (by omega)
   simp only [PDealPoints.shamrockref10_Secrets.l0]
   rw [if_pos (by omega), if_pos (by rw [zx, zH]; omega), yU i (by omega)]
   rw [zfl, zku] at h
   have e : wrap64 (wrap64 ((N : Int) + 1) + (i : Int)) % 256 = ((ptF (N + i)).v : Int) := by
    rw [yU N (by omega), Jh (N + 1) i (by omega), zjx]
    omega
   rw [e]
   exact h
theorem zbZ (w : World) (N T K : Nat) (E Rm : Int) (hN : N ≤ 1000) (hK : K ≤ 1000) : Calls Try.prog 48 #[zv N T K E Rm] w fun e w' => ∃ B c, e = .returned (.slice B K c) ∧ K ≤ c ∧ Kd.C fk w' B K (zN N K) ∧ Below w.heap.size w w' := by
 have hf : PDealPoints.shamrockref10_Secrets.f (K + 1) N T K E Rm = some (bs (zN N K)) := zgM N T K E Rm hN hK K (K + 1) 0 (by omega) (by omega)
 refine (PDealPoints.shamrockref10_Secrets.calls _ _ _ _ _ _ _ w hf).mono ?_
 rintro e w' ⟨v, rfl, hR, hb⟩
 obtain ⟨B, c, rfl, hc, hC⟩ := R_bs hR
 rw [zH] at hc hC ⊢
 exact ⟨B, c, rfl, hc, hC, hb⟩
end Go.Proofs.Ytpeiejkcoadhfaa
namespace Go.Proofs.Ytpeiejkcoadhfaa
structure Ri where
 kind : Int
 target : Int
 ds : List Int
 sn : List Int
def ri0 : Ri := ⟨0, 0, [], []⟩
def zbo (N : Int) (l : List Int) (n : Nat) : Prop := ∀ i, i < n → 0 ≤ l.getD i 0 ∧ l.getD i 0 < N ∧ (0 < i → l.getD (i - 1) 0 < l.getD i 0)
def Ris (N : Int) (l : List Int) : Prop := zbo N l l.length
instance (N : Int) (l : List Int) (n : Nat) : Decidable (zbo N l n) := by unfold zbo; infer_instance
instance (N : Int) (l : List Int) : Decidable (Ris N l) := by unfold Ris; infer_instance
theorem zdX (N : Int) (l : List Int) : zbo N l 0 := fun i hi => by omega
theorem JO {N : Int} {l : List Int} {k : Nat} (h : zbo N l k) (h0 : 0 ≤ l.getD k 0) (h1 : l.getD k 0 < N) (h2 : 0 < k → l.getD (k - 1) 0 < l.getD k 0) : zbo N l (k + 1) := fun i hi => by
 rcases Nat.lt_or_ge i k with e | e
 ·exact h i e
 obtain rfl : i = k := by omega
 exact ⟨h0, h1, h2⟩
theorem zfQ {N : Int} {l : List Int} (h : Ris N l) : ∀ j, j < l.length → ∀ i, i < j → l.getD i 0 < l.getD j 0
 | 0, _, i, hi => by omega
 | j + 1, hj, i, hi => by
   have h1 := (h (j + 1) hj).2.2 (by omega)
   rw [Nat.add_sub_cancel] at h1
   rcases Nat.lt_or_ge i j with e | e
   ·exact Int.lt_trans (zfQ h j (by omega) i e) h1
   obtain rfl : i = j := by omega
   exact h1
theorem zhK {l : List Int} {x : Int} (h : x ∈ l) : ∃ i, i < l.length ∧ l.getD i 0 = x := by
 obtain ⟨i, hi, rfl⟩ := List.mem_iff_getElem.1 h
 exact ⟨i, hi, by rw [List.getD_eq_getElem?_getD, List.getElem?_eq_getElem hi]; rfl⟩
theorem yL {l : List Int} {i : Nat} (h : i < l.length) : l.getD i 0 ∈ l := by
 rw [List.getD_eq_getElem?_getD, List.getElem?_eq_getElem h]
 exact List.getElem_mem h
theorem yp {N : Int} {l : List Int} (h : Ris N l) {x : Int} (hx : x ∈ l) : 0 ≤ x ∧ x < N := by
 obtain ⟨i, hi, rfl⟩ := zhK hx
 exact ⟨(h i hi).1, (h i hi).2.1⟩
theorem zaU {N : Int} {l : List Int} (h : Ris N l) : l.Nodup := by
 unfold List.Nodup
 rw [List.pairwise_iff_getElem]
 intro i j hi hj hij e
 have h1 := zfQ h j hj i hij
 rw [List.getD_eq_getElem?_getD, List.getD_eq_getElem?_getD, List.getElem?_eq_getElem hi, List.getElem?_eq_getElem hj] at h1
 simp only [Option.getD_some] at h1
 omega
theorem zjJ {α : Type} [DecidableEq α] : ∀ (l m : List α), l.Nodup → m.length < l.length → ∃ x ∈ l, x ∉ m
 | [], m, _, h => by simp at h
 | a :: l, m, hn, h => by
   obtain ⟨h1, h2⟩ := List.nodup_cons.1 hn
   by_cases ha : a ∈ m
   ·obtain ⟨x, hx, hm⟩ := zjJ l (m.erase a) h2 (by rw [List.length_erase_of_mem ha]; simp only [List.length_cons] at h; have := List.length_pos_of_mem ha; omega)
    refine ⟨x, List.mem_cons_of_mem _ hx, fun hm' => hm ?_⟩
    exact (List.mem_erase_of_ne (fun e => h1 (by rw [← e]; exact hx))).2 hm'
   exact ⟨a, List.mem_cons_self .., ha⟩
theorem zaZ {α : Type} [DecidableEq α] {l m : List α} (hn : l.Nodup) (h : ∀ x ∈ l, x ∈ m) : l.length ≤ m.length := by
 rcases Nat.lt_or_ge m.length l.length with e | e
 ·obtain ⟨x, h1, h2⟩ := zjJ l m hn e
  exact absurd (h x h1) h2
 exact e
def zgo (acc : List Int) (x : Int) : List Int := if x ∈ acc then acc else acc ++ [x]
def nd (l : List Int) : List Int := l.foldl zgo []
theorem zog (l : List Int) (x : Int) : nd (l ++ [x]) = zgo (nd l) x := by simp [nd, List.foldl_append]
theorem zlY (acc : List Int) (x y : Int) : y ∈ zgo acc x ↔ y ∈ acc ∨ y = x := by
 unfold zgo
 by_cases h : x ∈ acc
 ·rw [if_pos h]
  exact ⟨.inl, fun e => e.elim id (fun e => e ▸ h)⟩
 rw [if_neg h, List.mem_append, List.mem_singleton]
theorem zib {acc : List Int} (h : acc.Nodup) (x : Int) : (zgo acc x).Nodup := by
 unfold zgo
 by_cases hx : x ∈ acc
 ·rw [if_pos hx]; exact h
 rw [if_neg hx, List.nodup_append]
 refine ⟨h, List.nodup_cons.2 ⟨by simp, List.nodup_nil⟩, fun a ha b hb e => hx ?_⟩
 rw [List.mem_singleton] at hb
 rw [← hb, ← e]
 exact ha
theorem zgH : ∀ (l acc : List Int) (y : Int), y ∈ l.foldl zgo acc ↔ y ∈ acc ∨ y ∈ l
 | [], acc, y => by simp
 | x :: l, acc, y => by
   rw [List.foldl_cons, zgH l _ y, zlY, List.mem_cons]
   constructor
   ·rintro ((h | h) | h)
    ·exact .inl h
    ·exact .inr (.inl h)
    exact .inr (.inr h)
   rintro (h | h | h)
   ·exact .inl (.inl h)
   ·exact .inl (.inr h)
   exact .inr h
theorem zez : ∀ (l : List Int) {acc : List Int}, acc.Nodup → (l.foldl zgo acc).Nodup
 | [], _, h => h
 | x :: l, _, h => zez l (zib h x)
theorem zbB (l : List Int) (x : Int) : x ∈ nd l ↔ x ∈ l := by
 have h := zgH l [] x
 simpa [nd] using h
theorem zhJ (l : List Int) : (nd l).Nodup := zez l List.nodup_nil
theorem zoq {l m : List Int} (h : ∀ x ∈ l, x ∈ m) : (nd l).length ≤ (nd m).length :=
 zaZ (zhJ l) (fun x hx => (zbB m x).2 (h x ((zbB l x).1 hx)))
def ZJ (N : Nat) (cur : List Int) : Nat := ((List.range N).filter fun h : Nat => decide ((h : Int) ∈ cur)).length
theorem zob {N : Nat} {cur : List Int} (h : ∀ x ∈ cur, 0 ≤ x ∧ x < (N : Int)) : ZJ N cur = (nd cur).length := by
 have e : ZJ N cur = (((List.range N).filter fun h : Nat => decide ((h : Int) ∈ cur)).map fun h : Nat => (h : Int)).length := by rw [List.length_map]; rfl
 rw [e]
 refine Nat.le_antisymm (zaZ ?_ (fun x hx => ?_)) (zaZ (zhJ cur) (fun x hx => ?_))
 ·unfold List.Nodup
  rw [List.pairwise_map]
  refine List.Pairwise.imp ?_ (List.Pairwise.filter _ List.nodup_range)
  intro a b hab e
  exact hab (by omega)
 ·obtain ⟨a, ha, rfl⟩ := List.mem_map.1 hx
  exact (zbB cur _).2 (of_decide_eq_true (List.mem_filter.1 ha).2)
 have h1 := (zbB cur x).1 hx
 obtain ⟨h2, h3⟩ := h x h1
 refine List.mem_map.2 ⟨x.toNat, List.mem_filter.2 ⟨List.mem_range.2 (by omega), ?_⟩, by omega⟩
 rw [decide_eq_true_iff, Int.toNat_of_nonneg h2]
 exact h1
theorem ji {α : Type} (l m : List α) (x d : α) : (l ++ x :: m).getD l.length d = x := by
 rw [List.getD_eq_getElem?_getD, List.getElem?_append_right (Nat.le_refl _), Nat.sub_self]; rfl
def jP (s : List (List Int) × List Int) (r : Ri) : List (List Int) × List Int := if r.kind = 2 then (s.1 ++ [s.2 ++ r.sn], r.sn) else (s.1, s.2 ++ r.sn)
def zaD (s : List (List Int) × List Int) : List (List Int) := s.1 ++ [s.2]
def ym (rs : List Ri) : List (List Int) := zaD (rs.foldl jP ([], []))
def jm : List Ri → List Int → List (List Int)
 | [], cur => [cur]
 | r :: rs, cur => if r.kind = 2 then (cur ++ r.sn) :: jm rs r.sn else jm rs (cur ++ r.sn)
theorem zgi : ∀ (rs : List Ri) (old : List (List Int)) (cur : List Int), zaD (rs.foldl jP (old, cur)) = old ++ jm rs cur
 | [], old, cur => rfl
 | r :: rs, old, cur => by
   rw [List.foldl_cons]
   unfold jm
   by_cases h : r.kind = 2
   ·have e : jP (old, cur) r = (old ++ [cur ++ r.sn], r.sn) := by unfold jP; rw [if_pos h]
    rw [e, if_pos h, zgi rs, List.append_assoc]
    rfl
   have e : jP (old, cur) r = (old, cur ++ r.sn) := by unfold jP; rw [if_neg h]
   rw [e, if_neg h, zgi rs]
theorem ZF (rs : List Ri) : ym rs = jm rs [] := by
 unfold ym
 rw [zgi]
 rfl
theorem znJ (rs : List Ri) (k : Nat) (hk : k < rs.length) (s : List (List Int) × List Int) : (rs.take (k + 1)).foldl jP s = jP ((rs.take k).foldl jP s) (rs.getD k ri0) := by
 rw [List.take_add_one, List.foldl_append, List.getD_eq_getElem?_getD, List.getElem?_eq_getElem hk]
 rfl
def zX (N T : Int) (r : Ri) : Prop := (r.kind = 0 ∨ r.kind = 2 ∨ r.kind = 3 ∨ r.kind = 4) ∧ (r.ds.length : Int) = (if r.kind = 0 then 0 else T + 1) ∧ 0 ≤ r.target ∧ r.target < N ∧ Ris N r.ds ∧ Ris N r.sn ∧ (r.kind = 3 → r.target ∉ r.ds)
instance (N T : Int) (r : Ri) : Decidable (zX N T r) := by unfold zX; infer_instance
def zbR (N T K E Rm size : Int) (rs : List Ri) : Prop := Gd N T K E Rm ∧ 0 ≤ size ∧ size ≤ 256 ∧ rs.length ≤ 1024 ∧ (∀ r ∈ rs, zX N T r) ∧ ∀ c ∈ ym rs, ((nd c).length : Int) ≤ T
instance (N T K E Rm size : Int) (rs : List Ri) : Decidable (zbR N T K E Rm size rs) := by unfold zbR; infer_instance
def zac (N : Nat) (T : Int) : List Ri → List Int → Prop
 | [], _ => True
 | r :: rs, cur => zX N T r ∧ (ZJ N (cur ++ r.sn) : Int) ≤ T ∧ zac N T rs (if r.kind = 2 then r.sn else cur ++ r.sn)
instance refOkD (N : Nat) (T : Int) : ∀ (rs : List Ri) (cur : List Int), Decidable (zac N T rs cur)
 | [], _ => .isTrue trivial
 | r :: rs, cur => by
   have := refOkD N T rs (if r.kind = 2 then r.sn else cur ++ r.sn)
   unfold zac
   infer_instance
theorem zbH {N : Nat} {T : Int} : ∀ (rs : List Ri) (cur : List Int), (∀ x ∈ cur, 0 ≤ x ∧ x < (N : Int)) → ((nd cur).length : Int) ≤ T → (zac N T rs cur ↔ (∀ r ∈ rs, zX N T r) ∧ ∀ c ∈ jm rs cur, ((nd c).length : Int) ≤ T)
 | [], cur, _, hT => by
   constructor
   ·intro _
    refine ⟨fun r hr => (by cases hr), fun c hc => ?_⟩
    rw [jm, List.mem_singleton] at hc
    rw [hc]; exact hT
   intro _
   trivial
 | r :: rs, cur, hc, hT => by
   by_cases hr : zX N T r
   ·have hsn : ∀ x ∈ r.sn, 0 ≤ x ∧ x < (N : Int) := fun x hx => yp hr.2.2.2.2.2.1 hx
    have hall : ∀ x ∈ cur ++ r.sn, 0 ≤ x ∧ x < (N : Int) := fun x hx => (List.mem_append.1 hx).elim (hc x) (hsn x)
    have hcard := zob hall
    have hsub : (nd r.sn).length ≤ (nd (cur ++ r.sn)).length := zoq (fun x hx => List.mem_append_right _ hx)
    unfold zac jm
    rw [hcard]
    by_cases hk : r.kind = 2
    ·rw [if_pos hk, if_pos hk]
     constructor
     ·rintro ⟨_, h2, h3⟩
      obtain ⟨h4, h5⟩ := (zbH rs r.sn hsn (by omega)).1 h3
      refine ⟨fun x hx => ?_, fun c hc => ?_⟩
      ·rcases List.mem_cons.1 hx with e | e
       ·rw [e]; exact hr
       exact h4 x e
      rcases List.mem_cons.1 hc with e | e
      ·rw [e]; exact h2
      exact h5 c e
     rintro ⟨h4, h5⟩
     have h2 := h5 _ (List.mem_cons_self ..)
     exact ⟨hr, h2, (zbH rs r.sn hsn (by omega)).2 ⟨fun x hx => h4 x (List.mem_cons_of_mem _ hx), fun c hc => h5 c (List.mem_cons_of_mem _ hc)⟩⟩
    rw [if_neg hk, if_neg hk]
    constructor
    ·rintro ⟨_, h2, h3⟩
     obtain ⟨h4, h5⟩ := (zbH rs _ hall h2).1 h3
     refine ⟨fun x hx => ?_, h5⟩
     rcases List.mem_cons.1 hx with e | e
     ·rw [e]; exact hr
     exact h4 x e
    rintro ⟨h4, h5⟩
    have h2 : ((nd (cur ++ r.sn)).length : Int) ≤ T := by
     have h6 := from_le rs (cur ++ r.sn)
     obtain ⟨c, hc1, hc2⟩ := h6
     have := h5 c hc1
     omega
    exact ⟨hr, h2, (zbH rs _ hall h2).2 ⟨fun x hx => h4 x (List.mem_cons_of_mem _ hx), h5⟩⟩
   constructor
   ·intro h
    exact absurd h.1 hr
   intro h
   exact absurd (h.1 r (List.mem_cons_self ..)) hr
where
 from_le : ∀ (rs : List Ri) (cur : List Int), ∃ c ∈ jm rs cur, (nd cur).length ≤ (nd c).length
  | [], cur => ⟨cur, List.mem_singleton.2 rfl, Nat.le_refl _⟩
  | r :: rs, cur => by
    have hle : (nd cur).length ≤ (nd (cur ++ r.sn)).length := zoq (fun x hx => List.mem_append_left _ hx)
    unfold jm
    by_cases hk : r.kind = 2
    ·rw [if_pos hk]
     exact ⟨_, List.mem_cons_self .., hle⟩
    rw [if_neg hk]
    obtain ⟨c, h1, h2⟩ := from_le rs (cur ++ r.sn)
    exact ⟨c, h1, Nat.le_trans hle h2⟩
theorem zaR {N T K E Rm : Int} (h : Gd N T K E Rm) : ∃ n t k : Nat, N = n ∧ T = t ∧ K = k ∧ n ≤ 255 ∧ 1 ≤ t ∧ t ≤ 255 ∧ 1 ≤ k ∧ k ≤ 255 ∧ n + k ≤ 255 ∧ t + k ≤ n := by
 obtain ⟨h1, h2, h3, h4, h5, h6, h7, h8, h9, h10, h11, h12⟩ := h
 exact ⟨N.toNat, T.toNat, K.toNat, by omega, by omega, by omega, by omega, by omega, by omega, by omega, by omega, by omega, by omega⟩
theorem jO {N : Int} {l : List Int} (h : Ris N l) : l.length ≤ N.toNat := by
 have h1 := zaZ (m := (List.range N.toNat).map fun i : Nat => (i : Int)) (zaU h) (fun x hx => by
  obtain ⟨h2, h3⟩ := yp h hx
  exact List.mem_map.2 ⟨x.toNat, List.mem_range.2 (by omega), by omega⟩)
 simpa using h1
def ZL (T K cols : Nat) (rs : List Ri) : List Int := ((T * cols : Nat) : Int) :: rs.flatMap fun r => r.ds.map fun _ => ((zD T K r.kind * cols : Nat) : Int)
end Go.Proofs.Ytpeiejkcoadhfaa
namespace Go.Proofs.Ytpeiejkcoadhfaa
open Go.RowKit Go.Shelf Go.Proofs.YtpeiejkcoadhfaaW.PrintWords Go.Proofs.YtpeiejkcoadhfaaW.PrintMore
open Go.BigFrame
abbrev kz : Kd Int := Kd.int .i64
theorem zbf {w wr : World} {A : Option Addr} {n : Nat} {l : List Int} {S : Nat → Prop} (h : Kd.C kz w A n l) (hf : Fr S w wr) (hS : ∀ j, S j → w.heap.size ≤ j) (k : Nat) (hk : k < n) : ∃ ad, A = some ad ∧ wr.cell? (ad.add k) = some (.int .i64 (l.getD k 0)) := by
 have hr := Kd.reads_of_C (enc := Value.int .i64) (d := (0 : Int)) (h1 := fun _ => rfl) h
 obtain ⟨ad, e, hc⟩ := hr.2.2 (by omega)
 refine ⟨ad, e, ?_⟩
 have h1 := hc k hk
 exact hf.cell h1 (fun hs => by have := World.block_lt_of_cell? w _ h1; have := hS _ hs; simp only [Addr.add] at *; omega)
theorem zhb {l : List Int} {k : Nat} {x : Int} (hk : k < l.length) : x ∈ l.take (k + 1) ↔ x ∈ l.take k ∨ l.getD k 0 = x := by
 rw [zK 0 l k hk, List.mem_append, List.mem_singleton]
 exact ⟨fun h => h.imp id Eq.symm, fun h => h.imp id Eq.symm⟩
set_option maxRecDepth 100000 in
set_option maxHeartbeats 1600000 in
theorem zle (w : World) (A : Option Addr) (n c : Nat) (l : List Int) (x : Int) (hC : Kd.C kz w A n l) (hn : n ≤ 9223372036854775807) :
 Calls Try.prog 131 #[.slice A n c, .int .i64 x] w fun e w' => (∃ i : Int, e = .returned (.int .i64 i) ∧ (decide (x ∈ l) = decide (0 ≤ i))) ∧ zq w w' := by
 obtain rfl : l.length = n := Kd.C_len hC
 have HC := za.mk hC
 obtain ⟨r, hr⟩ : ∃ r, r = decide (x ∈ l) := ⟨_, rfl⟩
 have HR := za.mk hr
 obtain ⟨n, hnl⟩ : ∃ n, n = l.length := ⟨_, rfl⟩
 have HN := za.mk hnl
 rw [← hr]
 rw [← hnl] at hn HC ⊢
 clear hC hr hnl
 go_enter Try.func131, Try.ntmps131
 go_wp2
 go_loopw [8] (fun v8 wr => ∃ (k t : Nat), k ≤ n ∧ v8 = .int .i64 k ∧ wr = w.drewN t ∧ za (x ∉ l.take k)) (fun v8 _ => n - (intOf v8).toNat)
 case atStart => exact ⟨0, 0, by omega, rfl, rfl, ⟨by simp⟩⟩
 obtain ⟨k, t, hk, rfl, rfl, HT⟩ := hrel
 by_cases hlt : k < n
 ·obtain ⟨ad, rfl, hx⟩ := zbf HC.out (Fr.refl (fun _ => False) w) (fun _ h => h.elim) k hlt
  obtain ⟨y, hy⟩ : ∃ y, y = l.getD k 0 := ⟨_, rfl⟩
  rw [← hy] at hx
  have hjI : (k : Int) < (n : Int) := by omega
  by_cases e : x = y
  ·have HY : za (r = true) := ⟨by
    rw [HR.out, decide_eq_true_iff, e, hy]
    exact yL (by rw [← HN.out]; exact hlt)⟩
   subst e
   clear hy
   go_wp2
   go_ret
   exact ⟨⟨_, rfl, by rw [HY.out]; simp⟩, ⟨_, rfl⟩⟩
  have HX : za (x ∉ l.take (k + 1)) := ⟨by
   rw [zhb (by rw [← HN.out]; exact hlt), not_or]
   exact ⟨HT.out, fun h => e (by rw [hy]; exact h.symm)⟩⟩
  clear hy
  go_wp2
  go_roundw
  case rel => exact ⟨k + 1, t, by omega, by go_num, rfl, HX⟩
  simp [intOf]; omega
 obtain rfl : k = n := by omega
 have HY : za (r = false) := ⟨by
  rw [HR.out, decide_eq_false_iff_not]
  have h := HT.out
  rwa [List.take_of_length_le (by rw [HN.out]; exact Nat.le_refl _)] at h⟩
 go_wp2
 go_ret
 exact ⟨⟨_, rfl, by rw [HY.out]; simp⟩, ⟨_, rfl⟩⟩
set_option maxRecDepth 100000 in
set_option maxHeartbeats 1600000 in
theorem jC (w : World) (A : Option Addr) (n c : Nat) (l : List Int) (x : Int) (hC : Kd.C kz w A n l) (hn : n ≤ 9223372036854775807) :
 Calls Try.prog 114 #[.slice A n c, .int .i64 x] w fun e w' => e = .returned (.bool (decide (x ∈ l))) ∧ zq w w' := by
 have HI := za.mk (zle w A n c l x hC hn)
 obtain ⟨r, hr⟩ : ∃ r, r = decide (x ∈ l) := ⟨_, rfl⟩
 rw [← hr] at HI ⊢
 clear hC hr
 go_enter Try.func114, Try.ntmps114
 go_wp2_with (go_at_call 131; with_reducible refine HI.out.mono ?_; rintro e w1 ⟨⟨i, rfl, hi⟩, hd⟩)
 go_ret
 exact ⟨by rw [hi]; rfl, hd⟩
theorem zco {N : Int} {l : List Int} {k : Nat} (hk : k < l.length) (h : l.getD k 0 < 0 ∨ N ≤ l.getD k 0 ∨ (0 < k ∧ l.getD k 0 ≤ l.getD (k - 1) 0)) : ¬ Ris N l := fun hr => by
 have h1 := hr k hk
 rcases h with h | h | ⟨h, h2⟩
 ·omega
 ·omega
 have := h1.2.2 h; omega
set_option maxRecDepth 100000 in
set_option maxHeartbeats 1600000 in
theorem zeF (w : World) (N T K E Rm : Int) (A : Option Addr) (n c : Nat) (l : List Int) (hC : Kd.C kz w A n l) (hn : n ≤ 9223372036854775807) :
 Calls Try.prog 127 #[zv N T K E Rm, .slice A n c] w fun e w' => e = .returned (.bool (decide (Ris N l))) ∧ Below w.heap.size w w' := by
 obtain rfl : l.length = n := Kd.C_len hC
 obtain ⟨r, hr⟩ : ∃ r, r = decide (Ris N l) := ⟨_, rfl⟩
 have HR := za.mk hr
 rw [← hr]
 obtain ⟨w1, hw1, hz1, a0, hb1⟩ := zU w (Obj.cells #[Value.int IntKind.i64 N, Value.int IntKind.i64 T, Value.int IntKind.i64 K, Value.int IntKind.i64 E, Value.int IntKind.i64 Rm] 48)
 have HC := za.mk (Kd.C_below hC hb1)
 obtain ⟨n, hnl⟩ : ∃ n, n = l.length := ⟨_, rfl⟩
 have HN := za.mk hnl
 rw [← hnl] at hn HC ⊢
 have c0 : w1.cell? ⟨w.heap.size, 0, none⟩ = some (.int .i64 N) := zh a0 rfl
 have HW := za.mk hw1
 have HB := za.mk hb1
 clear hC hr hnl a0 hb1
 have hu48 := Try.underlying48
 unfold zv
 go_enter Try.func127, Try.ntmps127
 go_wp2
 rw [← HW.out]
 obtain ⟨s, hs⟩ : ∃ s, s = w.heap.size := ⟨_, rfl⟩
 rw [← hs] at c0 ⊢
 clear hw1 hz1 hs
 go_loopw [9] (fun v9 wr => ∃ (k t : Nat), k ≤ n ∧ v9 = .int .i64 k ∧ wr = w1.drewN t ∧ za (zbo N l k)) (fun v9 _ => n - (intOf v9).toNat)
 case atStart => exact ⟨0, 0, by omega, rfl, rfl, ⟨zdX _ _⟩⟩
 obtain ⟨k, t, hk, rfl, rfl, HT⟩ := hrel
 by_cases hlt : k < n
 ·obtain ⟨ad, rfl, hx⟩ := zbf HC.out (Fr.refl (fun _ => False) w1) (fun _ h => h.elim) k hlt
  obtain ⟨y, hy⟩ : ∃ y, y = l.getD k 0 := ⟨_, rfl⟩
  rw [← hy] at hx
  have hjI : (k : Int) < (n : Int) := by omega
  have hlen : k < l.length := by rw [← HN.out]; exact hlt
  by_cases e0 : y < 0
  ·have HY : za (r = false) := ⟨by rw [HR.out]; exact decide_eq_false (zco hlen (.inl (by rw [← hy]; exact e0)))⟩
   clear hy hlen
   go_wp2
   go_ret
   exact ⟨by rw [HY.out]; rfl, HB.out.trans ⟨rfl, rfl, rfl, Nat.le_refl _, fun _ _ => rfl⟩⟩
  by_cases e1 : N ≤ y
  ·have HY : za (r = false) := ⟨by rw [HR.out]; exact decide_eq_false (zco hlen (.inr (.inl (by rw [← hy]; exact e1))))⟩
   have e0' : 0 ≤ y := by omega
   clear hy hlen
   go_wp2
   go_ret
   exact ⟨by rw [HY.out]; rfl, HB.out.trans ⟨rfl, rfl, rfl, Nat.le_refl _, fun _ _ => rfl⟩⟩
  have e0' : 0 ≤ y := by omega
  have e1' : y < N := by omega
  rcases Nat.eq_zero_or_pos k with k0 | k0
  ·subst k0
   rw [yi] at hx
   have HX : za (zbo N l 1) := ⟨JO HT.out (by rw [← hy]; exact e0') (by rw [← hy]; exact e1') (fun h => by omega)⟩
   clear hy hlen
   go_wp2
   go_roundw
   case rel => exact ⟨1, _, by omega, by go_num, rfl, HX⟩
   simp [intOf]; omega
  obtain ⟨ad2, hade, hx2⟩ := zbf HC.out (Fr.refl (fun _ => False) w1) (fun _ h => h.elim) (k - 1) (by omega)
  injection hade with hade
  subst hade
  obtain ⟨z, hz⟩ : ∃ z, z = l.getD (k - 1) 0 := ⟨_, rfl⟩
  rw [← hz] at hx2
  have hkm : wrap64 ((k : Int) - 1) = ((k - 1 : Nat) : Int) := by rw [ZQ _ (by omega)]; omega
  by_cases e2 : y ≤ z
  ·have HY : za (r = false) := ⟨by rw [HR.out]; exact decide_eq_false (zco hlen (.inr (.inr ⟨k0, by rw [← hy, ← hz]; exact e2⟩)))⟩
   clear hy hlen hz
   go_wp2
   go_ret
   exact ⟨by rw [HY.out]; rfl, HB.out.trans ⟨rfl, rfl, rfl, Nat.le_refl _, fun _ _ => rfl⟩⟩
  have e2' : z < y := by omega
  have HX : za (zbo N l (k + 1)) := ⟨JO HT.out (by rw [← hy]; exact e0') (by rw [← hy]; exact e1') (fun h => by rw [← hy, ← hz]; exact e2')⟩
  clear hy hlen hz
  go_wp2
  go_roundw
  case rel => exact ⟨k + 1, _, by omega, by go_num, rfl, HX⟩
  simp [intOf]; omega
 obtain rfl : k = n := by omega
 have HY : za (r = true) := ⟨by
  rw [HR.out, decide_eq_true_iff]
  have h := HT.out
  rw [HN.out] at h
  exact h⟩
 go_wp2
 go_ret
 exact ⟨by rw [HY.out]; rfl, HB.out.trans ⟨rfl, rfl, rfl, Nat.le_refl _, fun _ _ => rfl⟩⟩
end Go.Proofs.Ytpeiejkcoadhfaa
namespace Go.Proofs.Ytpeiejkcoadhfaa
open Go.RowKit Go.Shelf Go.Proofs.YtpeiejkcoadhfaaW.PrintWords Go.Proofs.YtpeiejkcoadhfaaW.PrintMore Go.Proofs.Ytpeiejkcoadhfaa.PViewEmpty
open Go.BigFrame
def toS (r : Ri) : S90 := ⟨r.kind, r.target, r.ds, r.sn⟩
def RL (w : World) (A : Option Addr) (n : Nat) (rs : List Ri) : Prop := Kd.C k90 w A n (rs.map toS)
theorem Zi {w : World} {A : Option Addr} {n : Nat} {rs : List Ri} (h : RL w A n rs) : rs.length = n := by have := Kd.C_len h; rwa [List.length_map] at this
theorem zA {w W : World} {A : Option Addr} {n : Nat} {rs : List Ri} (h : RL w A n rs) (hb : Below w.heap.size w W) : RL W A n rs := Kd.C_below h hb
theorem zdh {w : World} {A : Option Addr} {n : Nat} {rs : List Ri} (h : RL w A n rs) (i : Nat) (hi : i < n) : ∃ (r : Ri) (ad : Addr) (D S : Option Addr) (nd cd ns cs : Nat), r = rs.getD i ri0 ∧ A = some ad ∧ w.cell? (ad.add (i * 4)) = some (.int .i64 r.kind) ∧ w.cell? ⟨(ad.add (i * 4)).block, (ad.add (i * 4)).off + 1, none⟩ = some (.int .i64 r.target) ∧ w.cell? ⟨(ad.add (i * 4)).block, (ad.add (i * 4)).off + 2, none⟩ = some (.slice D nd cd) ∧ w.cell? ⟨(ad.add (i * 4)).block, (ad.add (i * 4)).off + 3, none⟩ = some (.slice S ns cs) ∧
 r.ds.length = nd ∧ nd ≤ cd ∧ Kd.C kz w D nd r.ds ∧ r.sn.length = ns ∧ ns ≤ cs ∧ Kd.C kz w S ns r.sn := by
 have hl := Zi h
 unfold RL at h
 obtain ⟨ad, A2, c2, A3, c3, e, h0, h1, h2, h3, h4, h5, h6, h7⟩ := zfN h (i : Int) (by omega) (by omega)
 have hx : yG (rs.map toS) (i : Int) = toS (rs.getD i ri0) := by
  unfold yG
  rw [Int.toNat_natCast, List.getD_eq_getElem?_getD, List.getD_eq_getElem?_getD, List.getElem?_map, List.getElem?_eq_getElem (by omega)]
  rfl
 rw [hx] at h0 h1 h2 h3 h4 h5 h6 h7
 simp only [Int.toNat_natCast] at h0 h1 h2 h3
 exact ⟨_, ad, A2, A3, _, c2, _, c3, rfl, e, h0, h1, h2, h3, rfl, h4, h5, rfl, h6, h7⟩
theorem zeE (l : List Int) (i : Nat) : rd l (i : Int) = l.getD i 0 := by unfold rd; rw [Int.toNat_natCast]
theorem zoH (l : List Int) (x : Int) (hl : l.length ≤ 9223372036854775807) (d : Nat) : ∀ (q i : Nat), i + d = l.length → d < q → x ∉ l.take i → shamrockref24_in.l0 q l x (i : Int) = some (decide (x ∈ l)) := by
 induction d with
 | zero =>
   intro q i hi hq hx
   obtain ⟨q, rfl⟩ : ∃ m, q = m + 1 := ⟨q - 1, by omega⟩
   rw [List.take_of_length_le (by omega)] at hx
   simp only [shamrockref24_in.l0]
   rw [if_neg (by omega), decide_eq_false hx]
 | succ d ih =>
   intro q i hi hq hx
   obtain ⟨q, rfl⟩ : ∃ m, q = m + 1 := ⟨q - 1, by omega⟩
   simp only [shamrockref24_in.l0]
   rw [if_pos (by omega), if_pos (by omega), zeE, yU i (by omega)]
   by_cases e : l.getD i 0 = x
   ·rw [if_pos e, decide_eq_true (by rw [← e]; exact yL (by omega))]
   rw [if_neg e]
   exact ih q (i + 1) (by omega) (by omega) (by rw [zhb (by omega), not_or]; exact ⟨hx, e⟩)
theorem zjq (w : World) (A : Option Addr) (n c : Nat) (l : List Int) (x : Int) (hC : Kd.C kz w A n l) (hc : n ≤ c) (hn : n ≤ 9223372036854775807) :
 Calls Try.prog 103 #[.slice A n c, .int .i64 x] w fun e w' => e = .returned (.bool (decide (x ∈ l))) ∧ zq w w' := by
 obtain rfl : l.length = n := Kd.C_len hC
 exact shamrockref24_in.calls (l.length + 1) A c l x _ w hC hc (zoH l x hn l.length (l.length + 1) 0 (by omega) (by omega) (by simp))
theorem zof (N : Int) (l : List Int) (hl : l.length ≤ 9223372036854775807) (d : Nat) : ∀ (q i : Nat), i + d = l.length → d < q → zbo N l i → shamrockref24_rising.l0 q l N (i : Int) = some (decide (Ris N l)) := by
 induction d with
 | zero =>
   intro q i hi hq hx
   obtain ⟨q, rfl⟩ : ∃ m, q = m + 1 := ⟨q - 1, by omega⟩
   obtain rfl : i = l.length := by omega
   simp only [shamrockref24_rising.l0]
   rw [if_neg (by omega), decide_eq_true (show Ris N l from hx)]
 | succ d ih =>
   intro q i hi hq hx
   obtain ⟨q, rfl⟩ : ∃ m, q = m + 1 := ⟨q - 1, by omega⟩
   simp only [shamrockref24_rising.l0]
   rw [if_pos (by omega), if_pos (by omega), zeE, yU i (by omega)]
   by_cases e0 : l.getD i 0 < 0
   ·rw [if_pos e0, decide_eq_false (zco (by omega) (.inl e0))]
   rw [if_neg e0]
   by_cases e1 : l.getD i 0 ≥ N
   ·rw [if_pos e1, decide_eq_false (zco (by omega) (.inr (.inl e1)))]
   rw [if_neg e1]
   rcases Nat.eq_zero_or_pos i with k0 | k0
   ·rw [if_neg (by omega)]
    exact ih q (i + 1) (by omega) (by omega) (JO hx (by omega) (by omega) (fun h => by omega))
   have hp : wrap64 ((i : Int) - 1) = ((i - 1 : Nat) : Int) := by rw [ZQ _ (by omega)]; omega
   rw [if_pos (by omega), hp, if_pos (by omega), if_pos (by omega), zeE]
   by_cases e2 : l.getD i 0 ≤ l.getD (i - 1) 0
   ·rw [if_pos e2, decide_eq_false (zco (by omega) (.inr (.inr ⟨k0, e2⟩)))]
   rw [if_neg e2]
   exact ih q (i + 1) (by omega) (by omega) (JO hx (by omega) (by omega) (fun _ => by omega))
theorem zcR (w : World) (N : Int) (A : Option Addr) (n c : Nat) (l : List Int) (hC : Kd.C kz w A n l) (hc : n ≤ c) (hn : n ≤ 9223372036854775807) :
 Calls Try.prog 102 #[.slice A n c, .int .i64 N] w fun e w' => e = .returned (.bool (decide (Ris N l))) ∧ zq w w' := by
 obtain rfl : l.length = n := Kd.C_len hC
 exact shamrockref24_rising.calls (l.length + 1) A c l N _ w hC hc (zof N l hn l.length (l.length + 1) 0 (by omega) (by omega) (zdX _ _))
def Evt (P : Nat → Prop) : Prop := ∃ k0, ∀ k, k0 ≤ k → P k
theorem Evt.succ {P Q : Nat → Prop} (h : Evt P) (hs : ∀ k, P k → Q (k + 1)) : Evt Q := by
 obtain ⟨k0, h⟩ := h
 refine ⟨k0 + 1, fun k hk => ?_⟩
 obtain ⟨k, rfl⟩ : ∃ m, k = m + 1 := ⟨k - 1, by omega⟩
 exact hs k (h k (by omega))
theorem Evt.and {P Q : Nat → Prop} (h : Evt P) (h' : Evt Q) : Evt fun k => P k ∧ Q k := by
 obtain ⟨a, h⟩ := h
 obtain ⟨b, h'⟩ := h'
 exact ⟨a + b, fun k hk => ⟨h k (by omega), h' k (by omega)⟩⟩
theorem Evt.all {P : Nat → Prop} (h : ∀ k, P k) : Evt P := ⟨0, fun k _ => h k⟩
theorem Evt.mono {P Q : Nat → Prop} (h : Evt P) (hs : ∀ k, P k → Q k) : Evt Q := by
 obtain ⟨a, h⟩ := h
 exact ⟨a, fun k hk => hs k (h k hk)⟩
theorem Evt.some {P : Nat → Prop} (h : Evt P) : ∃ k, P k := by
 obtain ⟨a, h⟩ := h
 exact ⟨a, h a (Nat.le_refl _)⟩
abbrev zkY : Kd (List Int) := Kd.slice 5 (Kd.int .u8)
theorem rdL2 (ts : List (List F)) (i : Nat) (h : i < ts.length) : zaf (ts.map bs) (i : Int) = bs (ts.getD i []) := by
 unfold zaf
 rw [Int.toNat_natCast, List.getD_eq_getElem?_getD, List.getD_eq_getElem?_getD, List.getElem?_map, List.getElem?_eq_getElem h]
 rfl
theorem zgg {w : World} {A : Option Addr} {n : Nat} {qs : List (List F)} (h : PL w A n qs) : Kd.C zkY w A n (qs.map bs) := by
 obtain ⟨hs, h1, h2, h3⟩ := h
 refine ⟨by rw [List.length_map]; exact h2, h1.2.1, fun hn => ?_⟩
 obtain ⟨ad, e, hc⟩ := zde h1 0 hn
 refine ⟨ad, e, fun j p hj => ?_⟩
 have hjn : j < n := by
  have := (List.getElem?_eq_some_iff.1 hj).1
  rw [List.length_map] at this
  omega
 obtain ⟨ad', e', hc'⟩ := zde h1 j hjn
 rw [e] at e'
 injection e' with e'
 subst e'
 obtain ⟨g1, g2, g3⟩ := h3 j hjn
 have hp : p = bs (qs.getD j []) := by
  rw [List.getElem?_map] at hj
  rw [List.getD_eq_getElem?_getD]
  cases h : qs[j]? with
  | none => rw [h] at hj; cases hj
  | some x => rw [h] at hj; injection hj with hj; exact hj.symm
 subst hp
 refine ⟨[ja (hs.getD j hd0)], rfl, ⟨(hs.getD j hd0).1, (hs.getD j hd0).2.2, ?_, by rw [zx]; omega, by rw [zx]; exact Jz.2 g3⟩, fun i u hu => ?_⟩
 ·rw [zx, ← g1]; rfl
 cases i with
 | zero =>
   injection hu with hu
   subst hu
   have : zkY.sz = 1 := rfl
   rw [this, Nat.mul_one, Nat.add_zero]
   exact hc'
 | succ i => simp at hu
end Go.Proofs.Ytpeiejkcoadhfaa
