/- What the view's laws take, Vu15: PzE, PzB, PzM, PzN, PzD. -/
import Derived.Test.YtpeiejkcoadhfaaVu13
import Derived.Test.YtpeiejkcoadhfaaVu14
import Derived.StillTailTactics
set_option linter.all false
namespace Go.Proofs.Ytpeiejkcoadhfaa
open Go.RowKit Go.Shelf Go.Proofs.YtpeiejkcoadhfaaW.PrintWords Go.Proofs.YtpeiejkcoadhfaaW.PrintMore
attribute [local go_sem] Oper.semAt_some
def zmq (x : Nat × F) : Array Value := #[.int .i64 (x.1 : Int), zZ x.2]
def jf (p : List F) (m : Nat) : List (Nat × F) := (List.range (p.length - m)).map fun j => (p.length - 1 - j, p.getD (p.length - 1 - j) 0)
theorem zeU (p : List F) (m : Nat) : (jf p m).length = p.length - m := by simp [jf]
theorem zhp (p : List F) (m : Nat) (h : m < p.length) : jf p m = jf p (m + 1) ++ [(m, p.getD m 0)] := by
 unfold jf
 rw [show p.length - m = (p.length - (m + 1)) + 1 by omega, List.range_succ, List.map_append, List.map_singleton, show p.length - 1 - (p.length - (m + 1)) = m by omega]
theorem ziq (p : List F) : jf p p.length = [] := by simp [jf]
theorem zhs (p : List F) : (jf p 0).map (·.2) = p.reverse := by
 apply List.ext_getElem
 ·simp [jf]
 intro i h1 h2
 simp [jf] at h1
 simp only [jf, List.getElem_map, List.getElem_range, List.getElem_reverse]
 rw [List.getD_eq_getElem?_getD, List.getElem?_eq_getElem (by omega)]
 rfl
theorem zmv (p : List F) (x : F) : p.foldr (fun c s => s * x + c) 0 = ev p x := by
 induction p with
 | nil => rfl
 | cons a p ih => rw [List.foldr_cons, ih, ev, F.add_comm]
def zak (x : F) (l : List (Nat × F)) : F := l.foldl (fun s c => s * x + c.2) 0
theorem ziT (p : List F) (x : F) : zak x (jf p 0) = ev p x := by
 have h : zak x (jf p 0) = ((jf p 0).map (·.2)).foldl (fun s c => s * x + c) 0 := by
  unfold zak
  rw [List.foldl_map]
 rw [h, zhs, List.foldl_reverse, zmv]
theorem zgP (x : F) (l : List (Nat × F)) (c : Nat × F) : zak x (l ++ [c]) = zak x l * x + c.2 := by simp [zak]
set_option maxRecDepth 100000 in
set_option maxHeartbeats 1600000 in
theorem zmt (S : Nat → Prop) (w : World) (b : Nat) (A : Option Addr) (n c : Nat) (p : List F) (hC : Kd.C fk w A n p) (hl : n ≤ 1099511627776)
 (hb : w.heap[b]? = some (.cells #[.slice A n c] 36 (0, 0))) (hS : ¬ S b) (hA : ∀ ad, A = some ad → 0 < n → ¬ S ad.block) :
 zmP Try.prog 135 #[.pointer (some ⟨b, 0, none⟩)] zmq (fun pre x _ => pre.length < n ∧ x = (n - 1 - pre.length, p.getD (n - 1 - pre.length) 0)) S (fun xs => xs = jf p 0) w := by
 intro l J W hW hJ hY h0
 obtain rfl : p.length = n := Kd.C_len hC
 refine callsIn_of_wp Try.func135 rfl trivial ?_ rfl
 simp only [Try.ntmps135, List.size_toArray, List.length_cons, List.length_nil, Nat.reduceAdd, Nat.reduceSub, Array.replicate_succ, Array.replicate_zero, List.push_toArray, List.append_toArray, List.nil_append, List.cons_append]
 have hblt : ∀ ad, A = some ad → 0 < p.length → ad.block < w.heap.size := fun ad ha hn => by
  obtain ⟨ad', e, hc⟩ := (Kd.reads_of_C (enc := zZ) (d := (0 : F)) (h1 := fun _ => rfl) hC).2.2 hn
  rw [ha] at e
  injection e with e
  subst e
  have h1 := World.block_lt_of_cell? w _ (hc 0 hn)
  rwa [yi] at h1
 have HBS : za (∀ {W1 : World}, Fr (fun k => S k ∨ w.heap.size ≤ k) w W1 → W1.cell? ⟨b, 0, none⟩ = some (.slice A p.length c)) := ⟨fun hf => zh (hf.blk hb (fun h => h.elim hS (fun h => by have := yB hb; omega))) rfl⟩
 have HCW : za (∀ {W1 : World}, Fr (fun k => S k ∨ w.heap.size ≤ k) w W1 → Kd.C fk W1 A p.length p) := ⟨fun hf => zlN (0 : F) hC hf (fun ad ha hn h => h.elim (hA ad ha hn) (fun h => by have := hblt ad ha hn; omega))⟩
 have c0 := HBS.out (Fr.of_below hW _)
 have HY := za.mk hY
 have HJ := za.mk hJ
 have H0 := za.mk h0
 have HW := za.mk hW
 clear hY hJ h0 hW hblt hC hb hS hA
 gi_wp2
 gi_loopw [3] (fun v3 wr => ∃ (m : Nat), m ≤ p.length ∧ v3 = .int .i64 ((m : Int) - 1) ∧ za (J (jf p m) wr) ∧ za (Fr (fun k => S k ∨ w.heap.size ≤ k) w wr)) (fun v3 _ => (intOf v3 + 1).toNat)
 case atStart => exact ⟨p.length, by omega, rfl, ⟨by rw [ziq]; exact H0.out⟩, ⟨Fr.of_below HW.out _⟩⟩
 obtain ⟨m, hm, rfl, HR, HF⟩ := hrel
 clear H0 HW c0
 rcases Nat.eq_zero_or_pos m with hm0 | hm0
 ·subst hm0
  gi_wp2
  go_end0
  exact ⟨⟨_, rfl⟩, _, rfl, HR.out⟩
 obtain ⟨m, rfl⟩ : ∃ k, m = k + 1 := ⟨m - 1, by omega⟩
 have c1 := HBS.out HF.out
 have hCr := HCW.out HF.out
 obtain ⟨ad, rfl, hcell⟩ := (Kd.reads_of_C (enc := zZ) (d := (0 : F)) (h1 := fun _ => rfl) hCr).2.2 (by omega)
 have c2 := hcell m (by omega)
 have hpre : (jf p (m + 1)).length = p.length - (m + 1) := zeU _ _
 obtain ⟨fn, tmps, assign, body, hy, hR⟩ := HY.out (jf p (m + 1)) (m, p.getD m 0) wr HR.out ⟨by omega, by rw [hpre, show p.length - 1 - (p.length - (m + 1)) = m by omega]⟩
 obtain ⟨x, hx⟩ : ∃ x, x = p.getD m 0 := ⟨_, rfl⟩
 rw [← hx] at hy hR c2
 have hy' : (Instr.yield l #[.int .i64 (m : Int), zZ x]).run Try.prog wr = .ok (.round l fn tmps assign body) wr := hy
 have hsn := zhp p m (by omega)
 rw [← hx] at hsn
 have HSN := za.mk hsn
 have hmI : (m : Int) < (p.length : Int) := by omega
 have hidx : (((m + 1 : Nat) : Int) - 1) = (m : Int) := by omega
 rw [hidx]
 clear hy hcell hpre hsn hx HY hCr hidx
 unfold zZ at c2 hy'
 gi_wp2
 refine hR.mono ?_
 rintro ee W' ⟨rfl, hj', hf'⟩
 have HF' := za.mk (HF.out.trans' hf')
 have HJ' := za.mk hj'
 clear hj' hf'
 gi_wp2
 go_roundw
 case rel => exact ⟨m, by omega, rfl, ⟨by rw [HSN.out]; exact HJ'.out⟩, HF'⟩
 simp only [intOf]; omega
theorem zgq (w : World) (v : Value) (hv : v.oneCell' = true) : Calls Try.prog 133 #[v] w fun e w' => e = .returned (.func (.func 135) #[] #[.pointer (some ⟨w.heap.size, 0, none⟩)]) ∧ w' = w.alloc (.cells #[v] 36) := by
 go_enter Try.func133, Try.ntmps133
 go_wp2
 go_ret
 exact ⟨rfl, rfl⟩
theorem zeB (a b : F) : bits .xor .u8 (a.v : Int) (b.v : Int) = ((a + b).v : Int) := zis a.v b.v a.lt b.lt
theorem znD (w : World) (g : Nat) (a b : F) (hF : Fld w g) : Calls Try.prog 31 #[.pointer (some ⟨g, 0, none⟩), .int .u8 (a.v : Int), .int .u8 (b.v : Int)] w fun e w' => e = .returned (.int .u8 ((a * b).v : Int)) ∧ zq w w' := zjK w g a.v b.v hF a.lt b.lt
theorem zgd {w : World} {g : Nat} (h : Fld w g) : g < w.heap.size := by
 obtain ⟨cs, hc, _⟩ := h
 exact yB hc
def EvI (x : F) (w2 : World) (o : Nat) (pre : List (Nat × F)) (W : World) : Prop := W.heap[o]? = some (.cells #[.int .u8 ((zak x pre).v : Int)] 5 (0, 0)) ∧ Fr (fun k => k = o) w2 W
set_option maxRecDepth 100000 in
set_option maxHeartbeats 1600000 in
theorem zhd (w : World) (g : Nat) (A : Option Addr) (n c : Nat) (p : List F) (x : F) (hF : Fld w g) (hC : Kd.C fk w A n p) (hl : n ≤ 1099511627776) :
 Calls Try.prog 122 #[.pointer (some ⟨g, 0, none⟩), .slice A n c, .int .u8 (x.v : Int)] w fun e w' => e = .returned (.int .u8 ((ev p x).v : Int)) ∧ Fr (fun _ => False) w w' := by
 obtain rfl : p.length = n := Kd.C_len hC
 have HC := za.mk hC
 have HF := za.mk hF
 clear hC hF
 refine (callsIn_wide (n := 3)).1 (callsIn_of_wp_marks Try.func122 rfl trivial ?_ rfl)
 simp only [Try.ntmps122, List.size_toArray, List.length_cons, List.length_nil, Nat.reduceAdd, Nat.reduceSub, Array.replicate_succ, Array.replicate_zero, List.push_toArray, List.append_toArray, List.nil_append, List.cons_append]
 gi_wp2_with (refine ⟨trivial, ?_⟩; gi_at_call 133; refine (callsIn_wide.2 (zgq _ _ rfl)).mono ?_; rintro e W' ⟨rfl, rfl⟩)
 obtain ⟨w2, hw2, hz2, g0, g1, g2, g3, hb2⟩ := zgO w (Obj.cells #[Value.pointer (some { block := g, off := 0 })] 23) (Obj.cells #[Value.int IntKind.u8 x.v] 5) (Obj.cells #[Value.int IntKind.u8 0] 5) (Obj.cells #[Value.slice A p.length c] 36)
 rw [← hw2]
 clear hw2
 have HF2 := za.mk (HF.out.fr (Fr.of_below hb2 (fun _ => False)) (fun h => h))
 have HC2 := za.mk (Kd.C_below HC.out hb2)
 have hgs : g < w.heap.size := zgd HF.out
 have hAs : ∀ ad, A = some ad → 0 < p.length → ad.block < w.heap.size := fun ad ha hn => by
  obtain ⟨ad', e, hc⟩ := (Kd.reads_of_C (enc := zZ) (d := (0 : F)) (h1 := fun _ => rfl) HC.out).2.2 hn
  rw [ha] at e
  injection e with e
  subst e
  have h1 := World.block_lt_of_cell? w _ (hc 0 hn)
  rwa [yi] at h1
 obtain ⟨s, hs⟩ : ∃ s, s = w.heap.size := ⟨_, rfl⟩
 rw [← hs] at hz2 g0 g1 g2 g3 hgs hAs ⊢
 refine zaH (P := Try.prog) (gf := 135) (lb := #[.pointer (some ⟨s + 1 + 1 + 1, 0, none⟩)]) rfl (fun _ _ => rfl) (encs := zmq) (Rel := fun pre x _ => pre.length < p.length ∧ x = (p.length - 1 - pre.length, p.getD (p.length - 1 - pre.length) 0)) (S := fun j => j = s + 1 + 1) (Full := fun xs => xs = jf p 0)
  (zmt _ w2 (s + 1 + 1 + 1) A p.length c p HC2.out hl g3 (by omega) (fun ad ha hn h => by have := hAs ad ha hn; omega)) (fun _ => rfl) (fun j hj => by omega)
  (EvI x w2 (s + 1 + 1)) ?_ (fun pre y W W' h _ => h) ⟨g2, Fr.refl _ _⟩
  (fun y => { tmps := #[Value.pointer (some { block := g, off := 0 }), Value.slice A p.length c, Value.int IntKind.u8 ↑x.v,
        Value.pointer (some { block := s, off := 0 }), undef,
        Value.pointer (some { block := s + 1, off := 0 }), Value.int IntKind.u8 0,
        Value.pointer (some { block := s + 1 + 1, off := 0 }), undef, zZ y.2, Value.slice A p.length c,
        Value.func (Fn.func 135) #[] #[Value.pointer (some { block := s + 1 + 1 + 1, off := 0 })], .int .i64 (y.1 : Int),
        zZ y.2, undef, undef, undef, undef, undef, undef, undef], defers := [] }) ?_ ?_ ?_
 ·rintro pre W W' ⟨hv, hf⟩ hk
  exact ⟨hk.blk hv (fun h => by omega), hf.trans hk (fun k h => .inr h.1)⟩
 ·intro l pre y W K hr hK
  clear hr
  subst hs
  rw [show zmq y = #[.int .i64 (y.1 : Int), zZ y.2] from rfl, zlw]
  gi_wp2
  exact hK
 ·rintro l pre y W hsz ⟨hv, hf⟩ -
  have c0 : W.cell? ⟨s, 0, none⟩ = some (.pointer (some ⟨g, 0, none⟩)) := zh (hf.blk g0 (by omega)) rfl
  have c1 : W.cell? ⟨s + 1, 0, none⟩ = some (.int .u8 (x.v : Int)) := zh (hf.blk g1 (by omega)) rfl
  obtain ⟨h0, hh0⟩ : ∃ h0, h0 = zak x pre := ⟨_, rfl⟩
  rw [← hh0] at hv
  have c2 : W.cell? ⟨s + 1 + 1, 0, none⟩ = some (.int .u8 (h0.v : Int)) := zh hv rfl
  have z2 : W.frozen? ⟨s + 1 + 1, 0, none⟩ = false := yV hv
  have HM := za.mk (znD W g h0 x (HF2.out.fr hf (by omega)))
  have HV := za.mk hv
  have HFr := za.mk hf
  have HH := za.mk hh0
  have HX := za.mk (zeB (h0 * x) y.2)
  obtain ⟨m, hm⟩ : ∃ m, m = h0 * x := ⟨_, rfl⟩
  rw [← hm] at HM HX
  have HMM := za.mk hm
  have HS := za.mk hs
  clear hv hf hh0 g0 g1 g2 g3 hm hz2 hs
  unfold zZ
  gi_wp2_with (refine ⟨trivial, ?_⟩; gi_at_call 31; refine (CallsIn.inRound l (callsIn_wide.2 HM.out)).mono ?_; rintro e W' ⟨rfl, ⟨k, rfl⟩⟩)
  rw [HX.out]
  gi_wp2
  refine ⟨((((Fr.refl _ W).drewN k).set_ (p := ⟨s + 1 + 1, 0, none⟩) (.inl (.inl rfl)) _)), ?_, (HFr.out.drewN k).set_ (p := ⟨s + 1 + 1, 0, none⟩) (.inl rfl) _⟩
  rw [zgP, ← HH.out, ← HMM.out]
  exact zab (zC HV.out k) 0 _
 rintro ys W hF ⟨hv, hf⟩ hK
 subst hF
 rw [ziT] at hv
 have c1 : W.cell? ⟨s + 1 + 1, 0, none⟩ = some (.int .u8 ((ev p x).v : Int)) := zh hv rfl
 have hfw : Fr (fun _ => False) w W := (Fr.of_below hb2 _).trans hf (fun k hk => .inr (by omega))
 obtain ⟨D, hD⟩ : ∃ D, D = w2.heap.size := ⟨_, rfl⟩
 have HF := za.mk hfw
 have HD := za.mk (show w.heap.size ≤ D by omega)
 rw [← hD] at hK ⊢
 clear hf hfw hz2 hv g0 g1 g2 g3 hD
 subst hs
 gi_wp2
 refine ⟨by simp, .inl ⟨_, _, rfl, run_takeDeferred hK, ?_⟩⟩
 refine ⟨_, results_tmp rfl _ _ _, rfl, ?_⟩
 exact HF.out.trans (JM W D _) (fun i hi => .inr (by have := HD.out; omega))
end Go.Proofs.Ytpeiejkcoadhfaa
namespace Go.Proofs.Ytpeiejkcoadhfaa
open Go.RowKit Go.Shelf Go.Proofs.YtpeiejkcoadhfaaW.PrintWords Go.Proofs.YtpeiejkcoadhfaaW.PrintMore
theorem zch (l : List F) (k : Nat) (v : F) (h : k < l.length) (i : Nat) : cf (l.set k v) i = if i = k then v else cf l i := by
 unfold cf
 rw [List.getD_eq_getElem?_getD, List.getD_eq_getElem?_getD, List.getElem?_set]
 by_cases hi : k = i
 ·subst hi
  rw [if_pos rfl, if_pos h, if_pos rfl]; rfl
 rw [if_neg hi, if_neg (fun e => hi e.symm)]
def RF (w : World) (base : Nat) (B : Option Addr) (q : List F) : Prop := Kd.C fk w B q.length q ∧ (0 < q.length → ∀ j, OB B j → base ≤ j ∧ ∃ cells, w.heap[j]? = some (.cells cells 5 (0, 0)))
theorem jN {w : World} {base : Nat} {ok : Nat → Prop} {B : Option Addr} {n c : Nat} {q : List F} (h : Kd.R fk 5 w base ok (.slice B n c) q) : RF w base B q := by
 have h1 := Kd.R_reads' h
 refine ⟨h1.2.2, fun _ j hj => ⟨(jK (Kd.Q_of_R h) j hj).1, Kd.R_typed h j (zV hj)⟩⟩
theorem zdo {w : World} {base : Nat} {B : Option Addr} {q : List F} (h : RF w base B q) : RF w base B (zj q) := by
 have hle := yD q
 have h1 := zoL (0 : F) (zj q).length h.1 hle
 rw [zfA] at h1
 exact ⟨h1, fun hp => h.2 (by omega)⟩
theorem yr {w : World} {base base' : Nat} {B : Option Addr} {q : List F} (h : RF w base B q) (hb : base' ≤ base) : RF w base' B q :=
 ⟨h.1, fun hp j hj => ⟨Nat.le_trans hb (h.2 hp j hj).1, (h.2 hp j hj).2⟩⟩
theorem jc {S : Nat → Prop} {w w1 : World} {A : Option Addr} {n : Nat} {p : List F} (h : Kd.C fk w A n p) (hf : Fr S w w1) (hs : ∀ j, OB A j → 0 < n → ¬ S j) : Kd.C fk w1 A n p :=
 zlN (0 : F) h hf (fun ad ha hn => hs ad.block ⟨ad, ha, rfl⟩ hn)
theorem zan {S : Nat → Prop} {w w1 : World} {base : Nat} {B : Option Addr} {q : List F} (h : RF w base B q) (hf : Fr S w w1) (hs : ∀ j, base ≤ j → j < w.heap.size → ¬ S j) : RF w1 base B q := by
 refine ⟨jc h.1 hf (fun j hj hn => ?_), fun hp j hj => ?_⟩
 ·obtain ⟨h1, cells, h2⟩ := h.2 hn j hj
  exact hs j h1 (yB h2)
 obtain ⟨h1, cells, h2⟩ := h.2 hp j hj
 exact ⟨h1, cells, hf.blk h2 (hs j h1 (yB h2))⟩
theorem zmo {w : World} {base : Nat} {B : Option Addr} {p q : List F} (h : RF w base B p) (e : p = q) : RF w base B q := e ▸ h
set_option maxRecDepth 100000 in
set_option maxHeartbeats 800000 in
theorem zlL (w : World) (A B : Option Addr) (n m c d : Nat) (p q : List F) (hp : Kd.C fk w A n p) (hq : Kd.C fk w B m q) (hnm : m ≤ n) (hl : n ≤ 1099511627776) (X Y : Value) (hX : (X = .slice A n c ∧ Y = .slice B m d) ∨ (X = .slice B m d ∧ Y = .slice A n c ∧ m < n)) :
 Calls Try.prog 86 #[X, Y] w fun e w' => ∃ D, e = .returned (.slice D (zj (zW p q)).length (zj (zW p q)).length) ∧ RF w' w.heap.size D (zj (zW p q)) ∧ Fr (fun _ => False) w w' := by
 have hpn := Kd.C_len hp
 have hqn := Kd.C_len hq
 have HK := za.mk (ZV w A n c p hp (by omega))
 have HQ := za.mk hq
 have HP := za.mk hpn
 have HQN := za.mk hqn
 clear hp hq hpn hqn
 have core : ∀ (Q : Exit → Act → World → Prop), True := fun _ => trivial
 clear core
 rcases hX with ⟨rfl, rfl⟩ | ⟨rfl, rfl, hlt⟩
 all_goals
  go_enter Try.func86, Try.ntmps86
  go_wp2_with (go_at_call 95; refine HK.out.mono ?_; rintro e w1 ⟨A', c', rfl, hR, hb⟩)
  have HR := za.mk hR
  have HB := za.mk hb
  have HC := za.mk (Kd.C_below HQ.out hb)
  clear hR hb
  go_loopw [19] (fun v19 wr => ∃ (k : Nat) (zs : List F), k ≤ m ∧ v19 = .int .i64 k ∧ za (zs.length = n ∧ ∀ i, cf zs i = cf p i + (if i < k then cf q i else 0)) ∧ za (Kd.R fk 5 wr w.heap.size (fun _ => True) (.slice A' n c') zs) ∧ za (Fr (fun j => OB A' j) w1 wr)) (fun v19 _ => m - (intOf v19).toNat)
  case atStart => exact ⟨0, p, by omega, rfl, ⟨HP.out, fun i => by rw [if_neg (by omega), F.add_zero]⟩, HR, ⟨Fr.refl _ _⟩⟩
  obtain ⟨k, zs, hk, rfl, HZ, HR2, HF⟩ := hrel
  by_cases hkm : k < m
  ·obtain ⟨gb, rfl, hgb, _, _, hx, hfz, hset⟩ := jJ (0 : F) HR2.out k (by omega)
   have hqc : Kd.C fk wr B m q := jc HC.out HF.out (fun j hj hn hob => by
    have h1 := (jK (Kd.Q_of_R HR.out) j hob).1
    obtain ⟨ad, e, hc⟩ := (Kd.reads_of_C (enc := zZ) (d := (0 : F)) (h1 := fun _ => rfl) HQ.out).2.2 hn
    obtain ⟨ad', e', rfl⟩ := hj
    rw [e'] at e
    injection e with e
    subst e
    have h2 := World.block_lt_of_cell? w _ (hc 0 hn)
    rw [yi] at h2
    omega)
   obtain ⟨ad, rfl, hcell⟩ := (Kd.reads_of_C (enc := zZ) (d := (0 : F)) (h1 := fun _ => rfl) hqc).2.2 (by omega)
   have hqk := hcell k hkm
   have hz1 : zs.getD k 0 = p.getD k 0 := by
    have := HZ.out.2 k
    rw [if_neg (by omega), F.add_zero] at this
    exact this
   rw [hz1] at hx
   obtain ⟨a, ha⟩ : ∃ a, a = p.getD k 0 := ⟨_, rfl⟩
   obtain ⟨b, hb⟩ : ∃ b, b = q.getD k 0 := ⟨_, rfl⟩
   rw [← ha] at hx
   rw [← hb] at hqk
   have hxr := zeB a b
   have HS := za.mk (hset (a + b))
   have HZ2 : za ((zs.set k (a + b)).length = n ∧ ∀ i, cf (zs.set k (a + b)) i = cf p i + (if i < k + 1 then cf q i else 0)) := ⟨by rw [List.length_set]; exact HZ.out.1, fun i => by
    rw [zch _ _ _ (by rw [HZ.out.1]; omega)]
    by_cases hik : i = k
    ·subst hik
     rw [if_pos rfl, if_pos (by omega), ha, hb]; rfl
    rw [if_neg hik, HZ.out.2 i]
    by_cases h1 : i < k
    ·rw [if_pos h1, if_pos (by omega)]
    rw [if_neg h1, if_neg (by omega)]⟩
   unfold zZ at hx hqk
   have hknI : (k : Int) < (n : Int) := by omega
   clear hset hz1 ha hb hcell hqc
   go_wp2
   go_roundw
   case rel => exact ⟨k + 1, _, by omega, by go_num, HZ2, HS, ⟨HF.out.set_ (p := ⟨gb, k, none⟩) (.inl ⟨_, rfl, rfl⟩) _⟩⟩
   simp [intOf]; omega
  obtain rfl : k = m := by omega
  have hcr := R_C HR2.out
  have hcd : n ≤ c' := (Kd.R_reads' HR2.out).2.1
  have HT := za.mk (zau wr A' n c' zs hcr hcd hl)
  have he : zj zs = zj (zW p q) := Zb _ _ (fun i => by
   rw [HZ.out.2 i, zS]
   by_cases h1 : i < k
   ·rw [if_pos h1]
   rw [if_neg h1, zJ q i (by rw [HQN.out]; omega)])
  rw [he] at HT
  have HE := za.mk he
  clear hcr he
  go_wp2_with (go_at_call 123; refine HT.out.mono ?_; rintro e w2 ⟨rfl, hd⟩)
  go_ret
  refine ⟨A', rfl, ?_, ?_⟩
  ·have h1 := zmo (zdo (jN HR2.out)) HE.out
   obtain ⟨j, rfl⟩ := hd
   exact zan h1 ((Fr.refl (fun _ => False) wr).drewN j) (fun _ _ _ h => h)
  have h1 : Fr (fun _ => False) w wr := (Fr.of_below HB.out (fun _ => False)).trans HF.out (fun j hj => .inr (jK (Kd.Q_of_R HR.out) j hj).1)
  exact h1.below_ hd.below
theorem zfS (w : World) (A B : Option Addr) (n m c d : Nat) (p q : List F) (hp : Kd.C fk w A n p) (hq : Kd.C fk w B m q) (hl : n ≤ 1099511627776) (hl2 : m ≤ 1099511627776) :
 Calls Try.prog 86 #[.slice A n c, .slice B m d] w fun e w' => ∃ D, e = .returned (.slice D (zj (zW p q)).length (zj (zW p q)).length) ∧ RF w' w.heap.size D (zj (zW p q)) ∧ Fr (fun _ => False) w w' := by
 rcases Nat.lt_or_ge n m with h | h
 ·have e : zj (zW p q) = zj (zW q p) := Zb _ _ (fun i => by rw [zS, zS, F.add_comm])
  rw [e]
  exact zlL w B A m n d c q p hq hp (by omega) hl2 _ _ (.inr ⟨rfl, rfl, h⟩)
 exact zlL w A B n m c d p q hp hq h hl _ _ (.inl ⟨rfl, rfl⟩)
end Go.Proofs.Ytpeiejkcoadhfaa
namespace Go.Proofs.Ytpeiejkcoadhfaa
open Go.RowKit Go.Shelf Go.Proofs.YtpeiejkcoadhfaaW.PrintWords Go.Proofs.YtpeiejkcoadhfaaW.PrintMore
open Go.BigFrame
theorem zcM : ∀ (p q : List F) (k i : Nat), cf (zB (p.take (k + 1)) q) i = cf (zB (p.take k) q) i + (if k ≤ i then cf p k * cf q (i - k) else 0)
 | [], q, k, i => by simp [zB, Jg, F.zero_mul, F.add_zero]
 | a :: p, q, 0, i => by
   simp only [List.take_succ_cons, List.take_zero, zB, zS, zae, Jg, F.zero_add, Nat.zero_le, if_true, jh, Nat.sub_zero]
   cases i with
   | zero => rw [jh, F.add_zero]
   | succ i => rw [yS, Jg, F.add_zero]
 | a :: p, q, k + 1, i => by
   simp only [List.take_succ_cons, zB, zS, zae, F.add_assoc]
   congr 1
   cases i with
   | zero => rw [jh, jh, if_neg (by omega), F.add_zero]
   | succ i =>
     rw [yS, yS, zcM p q k i, yS]
     by_cases h : k ≤ i
     ·rw [if_pos h, if_pos (by omega), show i + 1 - (k + 1) = i - k by omega]
     rw [if_neg h, if_neg (by omega)]
theorem zgx (p q : List F) : zB (p.take p.length) q = zB p q := by rw [List.take_length]
def ZO (p q zs : List F) (k j : Nat) : Prop := zs.length = p.length + q.length ∧ ∀ i, i < p.length + q.length → cf zs i = cf (zB (p.take k) q) i + (if k ≤ i ∧ i < k + j then cf p k * cf q (i - k) else 0)
theorem zcG (p q : List F) : ZO p q (List.replicate (p.length + q.length) 0) 0 0 := by
 refine ⟨by simp, fun i _ => ?_⟩
 rw [if_neg (by omega), F.add_zero, List.take_zero]
 unfold cf
 rw [List.getD_eq_getElem?_getD, List.getElem?_replicate]
 split <;> rfl
theorem zej {p q zs : List F} {k j : Nat} (h : ZO p q zs k j) (hk : k < p.length) (hj : j < q.length) (v : F) (hv : v = cf zs (k + j) + cf p k * cf q j) : ZO p q (zs.set (k + j) v) k (j + 1) := by
 obtain ⟨h1, h2⟩ := h
 refine ⟨by rw [List.length_set]; exact h1, fun i hi => ?_⟩
 rw [zch _ _ _ (by omega)]
 by_cases e : i = k + j
 ·subst e
  rw [if_pos rfl, hv, h2 _ hi, if_neg (by omega), F.add_zero, if_pos (by omega), Nat.add_sub_cancel_left]
 rw [if_neg e, h2 i hi]
 by_cases h3 : k ≤ i ∧ i < k + j
 ·rw [if_pos h3, if_pos (by omega)]
 rw [if_neg h3, if_neg (by omega)]
theorem zft {p q zs : List F} {k : Nat} (h : ZO p q zs k q.length) : ZO p q zs (k + 1) 0 := by
 obtain ⟨h1, h2⟩ := h
 refine ⟨h1, fun i hi => ?_⟩
 rw [h2 i hi, zcM, if_neg (show ¬ (k + 1 ≤ i ∧ i < k + 1 + 0) by omega), F.add_zero]
 by_cases h3 : k ≤ i
 ·rw [if_pos h3]
  by_cases h4 : i < k + q.length
  ·rw [if_pos ⟨h3, h4⟩]
  rw [if_neg (by omega), zJ q (i - k) (by omega), F.mul_zero]
 rw [if_neg h3, if_neg (by omega)]
theorem zfB {p q zs : List F} (h : ZO p q zs p.length 0) : zj zs = zj (zB p q) := by
 refine Zb _ _ (fun i => ?_)
 rcases Nat.lt_or_ge i (p.length + q.length) with hi | hi
 ·rw [h.2 i hi, zgx, if_neg (by omega), F.add_zero]
 rw [zJ zs i (by rw [h.1]; exact hi)]
 cases p with
 | nil => rfl
 | cons a p =>
   exact (yZ (a :: p) q (p.length + 1) q.length (fun j hj => zJ _ _ (by simpa using hj)) (fun j hj => zJ _ _ hj) i (by simp at hi; omega) (by omega)).symm
theorem zeG (W : World) (base : Nat) (ok : Nat → Prop) (k : Nat) (hk : k ≤ 281474976710656) (hb : base ≤ W.heap.size) (hok : ok W.heap.size) : Kd.R fk 5 (W.alloc (.cells (Array.replicate k (.int .u8 0)) 5)) base ok (.slice (some ⟨W.heap.size, 0, none⟩) k k) (List.replicate k 0) := by
 refine Kd.R_of_own ?_ (fun j hj => ?_)
 ·refine ⟨by rw [zO, Nat.mul_one], .inr ⟨W.heap.size, k, Array.replicate k (.int .u8 0), by simp, hb, yw _ _, by simp, by simp only [maxLen]; omega, by simp, ?_⟩⟩
  simp [encs, zZ, F.zero_v]
 have : W.heap.size = j := by simpa [Value.ownBlock] using hj
 exact this ▸ hok
theorem Jc {w wr : World} {A : Option Addr} {n : Nat} {p : List F} {S : Nat → Prop} (h : Kd.C fk w A n p) (hf : Fr S w wr) (hS : ∀ j, S j → w.heap.size ≤ j) (k : Nat) (hk : k < n) : ∃ ad, A = some ad ∧ wr.cell? (ad.add k) = some (.int .u8 ((p.getD k 0).v : Int)) := by
 obtain ⟨ad, e, hc⟩ := (Kd.reads_of_C (enc := zZ) (d := (0 : F)) (h1 := fun _ => rfl) h).2.2 (by omega)
 refine ⟨ad, e, hf.cell (hc k hk) (fun hb => ?_)⟩
 have h1 := World.block_lt_of_cell? w _ (hc k hk)
 have := hS _ hb
 omega
set_option maxRecDepth 100000 in
set_option maxHeartbeats 1600000 in
theorem zbM (w : World) (g : Nat) (A B : Option Addr) (n m c d : Nat) (p q : List F) (hF : Fld w g) (hp : Kd.C fk w A n p) (hq : Kd.C fk w B m q) (hl : n + m ≤ 1099511627776) :
 Calls Try.prog 87 #[.pointer (some ⟨g, 0, none⟩), .slice A n c, .slice B m d] w fun e w' => ∃ D, e = .returned (.slice D (zj (zB p q)).length (zj (zB p q)).length) ∧ RF w' w.heap.size D (zj (zB p q)) ∧ Fr (fun _ => False) w w' := by
 have hpn := Kd.C_len hp
 have hqn := Kd.C_len hq
 have HP := za.mk hp
 have HQ := za.mk hq
 have HPN := za.mk hpn
 have HQN := za.mk hqn
 have HF := za.mk hF
 have hmk := fun W : World => zdB (P := Try.prog) 36 5 Try.underlying36 yJ (n + m) (by omega) W
 rw [Int.natCast_add] at hmk
 have hR0 := zeG w w.heap.size (fun _ => True) (n + m) (by omega) (Nat.le_refl _) trivial
 have HR0 := za.mk hR0
 have H0 : za (ZO p q (List.replicate (n + m) 0) 0 0) := ⟨by rw [← hpn, ← hqn]; exact zcG p q⟩
 clear hp hq hpn hqn hF hR0
 go_enter Try.func87, Try.ntmps87
 go_wp2
 go_loopw [20] (fun v20 wr => ∃ (k : Nat) (zs : List F), k ≤ n ∧ v20 = .int .i64 k ∧ za (ZO p q zs k 0) ∧ za (Kd.R fk 5 wr w.heap.size (fun _ => True) (.slice (some ⟨w.heap.size, 0, none⟩) (n + m) (n + m)) zs) ∧ za (Below w.heap.size w wr)) (fun v20 _ => n - (intOf v20).toNat)
 case atStart => exact ⟨0, _, by omega, rfl, H0, HR0, ⟨zc (Below.refl _ _) _⟩⟩
 clear H0 HR0 hmk
 obtain ⟨k, zs, hk, rfl, HZ, HR, HB⟩ := hrel
 obtain ⟨wo, rfl⟩ : ∃ wo : World, wo = wr := ⟨_, rfl⟩
 by_cases hlt : k < n
 ·obtain ⟨adA, rfl, hca⟩ := Jc HP.out (Fr.of_below HB.out (fun _ => False)) (fun _ h => h.elim) k hlt
  obtain ⟨a, ha⟩ : ∃ a, a = p.getD k 0 := ⟨_, rfl⟩
  rw [← ha] at hca
  have HAA := za.mk ha
  clear ha
  go_wp2
  go_loopw [27] (fun v27 wr => ∃ (j : Nat) (ys : List F), j ≤ m ∧ v27 = .int .i64 j ∧ za (ZO p q ys k j) ∧ za (Kd.R fk 5 wr w.heap.size (fun _ => True) (.slice (some ⟨w.heap.size, 0, none⟩) (n + m) (n + m)) ys) ∧ za (Below w.heap.size w wr)) (fun v27 _ => m - (intOf v27).toNat)
  case atStart => exact ⟨0, zs, by omega, rfl, HZ, HR, HB⟩
  clear HZ HR HB hca
  obtain ⟨j, ys, hj, rfl, HY, HR, HB⟩ := hrel
  by_cases hjm : j < m
  ·obtain ⟨adB, rfl, hcb⟩ := Jc HQ.out (Fr.of_below HB.out (fun _ => False)) (fun _ h => h.elim) j hjm
   obtain ⟨b, hb⟩ : ∃ b, b = q.getD j 0 := ⟨_, rfl⟩
   obtain ⟨gb, e, _, _, _, hx, hfz, hset⟩ := jJ (0 : F) HR.out (k + j) (by omega)
   injection e with e
   injection e with e _ _
   subst e
   obtain ⟨z, hz⟩ : ∃ z, z = ys.getD (k + j) 0 := ⟨_, rfl⟩
   rw [← hz] at hx
   rw [← hb] at hcb
   have hst := zej HY.out (by rw [HPN.out]; exact hlt) (by rw [HQN.out]; exact hjm) (z + a * b) (by rw [hz, HAA.out, hb]; rfl)
   have hxr := zeB z (a * b)
   have HS := za.mk (And.intro hst (hset (z + a * b)))
   have HFW := za.mk (HF.out.fr (Fr.of_below HB.out (fun _ => False)) (fun h => h))
   have HMU := za.mk (fun t => znD (wr.drewN t) g a b (HFW.out.drew))
   unfold zZ at hx
   have hkj : (k : Int) + (j : Int) < (n : Int) + (m : Int) := by omega
   have hkj0 : (0 : Int) ≤ (k : Int) + (j : Int) := by omega
   have hkjn : ((k : Int) + (j : Int)).toNat = k + j := by omega
   have hwr : IntKind.i64.wrap ((k : Int) + (j : Int)) = (k : Int) + (j : Int) := IntWalk.i64_in _ ⟨by omega, by omega⟩
   generalize a * b = ab at HS hxr HMU
   clear hset hst hz hb
   go_wp2
   refine yC 11 (by kernel_rfl) (by kernel_rfl) ?_
   simp only [List.take_succ_cons, List.take_zero, List.drop_succ_cons, List.drop_zero]
   repeat (first | go_big_quiet_skip | (go_big_quiet_want; go_big_quiet_op; first | go_big_quiet_on | (apply Exists.intro; refine ⟨fun t => ?_, ?_⟩; (go_at_call 31; exact jW (HMU.out t)); go_big_quiet_on)))
   refine wpQuiet_nil ?_
   rintro _ ⟨t, rfl⟩
   go_wp2
   go_roundw
   case rel => exact ⟨j + 1, _, by omega, by go_num, ⟨HS.out.1⟩, ⟨Kd.R_drewN HS.out.2 t⟩, ⟨yu (HB.out.setCell (p := ⟨w.heap.size, k + j, none⟩) (Nat.le_refl _) _) t⟩⟩
   simp [intOf]; omega
  obtain rfl : j = m := by omega
  have hst : za (ZO p q ys (k + 1) 0) := ⟨zft (HQN.out.symm ▸ HY.out)⟩
  go_wp2
  go_roundw
  case rel => exact ⟨k + 1, ys, by omega, by go_num, hst, HR, HB⟩
  simp [intOf]; omega
 obtain rfl : k = n := by omega
 have he := zfB (HPN.out.symm ▸ HZ.out : ZO p q zs p.length 0)
 have HT := za.mk (zau wo (some ⟨w.heap.size, 0, none⟩) (k + m) (k + m) zs (R_C HR.out) (Nat.le_refl _) hl)
 rw [he] at HT
 have HE := za.mk he
 clear he
 go_wp2_with (go_at_call 123; refine HT.out.mono ?_; rintro e w2 ⟨rfl, hd⟩)
 go_ret
 refine ⟨_, rfl, ?_, (Fr.of_below HB.out _).below_ hd.below⟩
 have h1 := zmo (zdo (jN HR.out)) HE.out
 obtain ⟨j, rfl⟩ := hd
 exact zan h1 ((Fr.refl (fun _ => False) wo).drewN j) (fun _ _ _ h => h)
theorem Zr (W : World) (base : Nat) (ok : Nat → Prop) (p : List F) (hn : p.length ≤ 1000) (hb : base ≤ W.heap.size) (hok : ok W.heap.size) : Kd.R fk 5 (W.alloc (.cells (p.map zZ).toArray 5)) base ok (.slice (some ⟨W.heap.size, 0, none⟩) p.length p.length) p := by
 refine Kd.R_of_own ?_ (fun j hj => ?_)
 ·exact yA W base 5 p hb (by omega)
 have : W.heap.size = j := by simpa [Value.ownBlock] using hj
 exact this ▸ hok
set_option maxRecDepth 100000 in
set_option maxHeartbeats 800000 in
theorem JC (w : World) (g : Nat) (A : Option Addr) (n c : Nat) (xs : List F) (hF : Fld w g) (hx : Kd.C fk w A n xs) (hl : n ≤ 1000000) :
 Calls Try.prog 83 #[.pointer (some ⟨g, 0, none⟩), .slice A n c] w fun e w' => ∃ D, e = .returned (.slice D (n + 1) (n + 1)) ∧ RF w' w.heap.size D (zw xs) ∧ Fr (fun _ => False) w w' := by
 have hxn := Kd.C_len hx
 have HX := za.mk hx
 have HXN := za.mk hxn
 have HF := za.mk hF
 have HR0 := za.mk (jN (Zr w w.heap.size (fun _ => True) [1] (by decide) (Nat.le_refl _) trivial))
 clear hx hxn hF
 go_enter Try.func83, Try.ntmps83
 go_wp2
 go_loopw [5, 11] (fun v5 v11 wr => ∃ (k L : Nat) (D : Option Addr), k ≤ n ∧ v11 = .int .i64 k ∧ v5 = .slice D L L ∧ za (L = k + 1) ∧ za (RF wr w.heap.size D (zw (xs.take k))) ∧ za (Below w.heap.size w wr)) (fun _ v11 _ => n - (intOf v11).toNat)
 case atStart => exact ⟨0, 1, some ⟨w.heap.size, 0, none⟩, by omega, rfl, rfl, ⟨rfl⟩, HR0, ⟨zc (Below.refl _ _) _⟩⟩
 clear HR0
 obtain ⟨k, L, D, hk, rfl, rfl, HL, HR, HB⟩ := hrel
 by_cases hlt : k < n
 ·obtain ⟨ad, rfl, hc⟩ := Jc HX.out (Fr.of_below HB.out (fun _ => False)) (fun _ h => h.elim) k hlt
  obtain ⟨x, hx⟩ : ∃ x, x = xs.getD k 0 := ⟨_, rfl⟩
  rw [← hx] at hc
  have hrl := zQ (xs.take k)
  have htl : (xs.take k).length = k := by rw [List.length_take, HXN.out]; omega
  rw [htl, ← HL.out] at hrl
  have hb1 : Below wr.heap.size wr (wr.alloc (.cells #[.int .u8 (x.v : Int), .int .u8 1] 5)) := zc (Below.refl _ _) _
  have hq := R_C (Zr wr wr.heap.size (fun _ => True) (lin x) (by simp [lin]) (Nat.le_refl _) trivial)
  have c1 := zbM (wr.alloc (.cells #[.int .u8 (x.v : Int), .int .u8 1] 5)) g D (some ⟨wr.heap.size, 0, none⟩) L 2 L 2 (zw (xs.take k)) (lin x) ((HF.out.fr (Fr.of_below HB.out (fun _ => False)) (fun h => h)).fr (Fr.of_below hb1 (fun _ => False)) (fun h => h)) (by rw [← hrl]; exact Kd.C_below HR.out.1 hb1) hq (by have := HL.out; omega)
  have hsn : zj (zB (zw (xs.take k)) (lin x)) = zw (xs.take (k + 1)) := by
   rw [List.take_add_one, List.getElem?_eq_getElem (by rw [HXN.out]; exact hlt), Option.toList_some, Jj, hx, List.getD_eq_getElem?_getD, List.getElem?_eq_getElem (by rw [HXN.out]; exact hlt)]
   rfl
  have hrl2 : (zw (xs.take (k + 1))).length = k + 2 := by rw [zQ, List.length_take, HXN.out]; omega
  rw [hsn, hrl2] at c1
  have HC1 := za.mk c1
  have HB1 := za.mk (HB.out.trans (hb1.mono HB.out.size))
  clear c1 hq hb1 hrl htl hsn hrl2 hx
  go_wp2_with (go_at_call 87; (with_reducible refine HC1.out.mono ?_); rintro e w2 ⟨D2, rfl, hR2, hf2⟩; have HR2 := za.mk hR2; have HF2 := za.mk hf2; clear hR2 hf2)
  go_roundw
  case rel => exact ⟨k + 1, k + 2, D2, by omega, by go_num, rfl, ⟨rfl⟩, ⟨yr HR2.out (by have := HB.out.size; simp; omega)⟩, ⟨HB1.out.trans (HF2.out.below (by exact HB1.out.size) (fun _ h => h.elim))⟩⟩
  simp [intOf]; omega
 obtain rfl : k = n := by omega
 go_wp2
 go_ret
 have e : xs.take k = xs := List.take_of_length_le (by rw [HXN.out]; exact Nat.le_refl _)
 have h1 := HR.out
 rw [e] at h1
 have hL := HL.out
 subst hL
 exact ⟨D, rfl, h1, Fr.of_below HB.out _⟩
theorem JY : ∀ (a b q : List F), Eqv (zB (zW a b) q) (zW (zB a q) (zB b q))
 | [], b, q => fun i => by rw [show zW [] b = b from rfl, zS, show zB [] q = [] from rfl, Jg, F.zero_add]
 | a :: p, [], q => fun i => by rw [show zW (a :: p) [] = a :: p from rfl, zS, show zB [] q = [] from rfl, Jg, F.add_zero]
 | a :: p, b :: r, q => fun i => by
   have ih := JY p r q
   simp only [zW, zB, zS, zae, F.add_mul]
   have h : cf (0 :: zB (zW p r) q) i = cf (0 :: zB p q) i + cf (0 :: zB r q) i := by
    cases i with
    | zero => rw [jh, jh, jh, F.add_zero]
    | succ i => rw [yS, yS, yS, ih i, zS]
   rw [h]
   exact F.add4 _ _ _ _
theorem zfe (c : F) (d : List F) : ∀ (s i : Nat), cf (zB (List.replicate s 0 ++ [c]) d) i = if s ≤ i then c * cf d (i - s) else 0
 | 0, i => by
   simp only [List.replicate_zero, List.nil_append, zB, zS, zae, Nat.zero_le, if_true, Nat.sub_zero]
   cases i with
   | zero => rw [jh, F.add_zero]
   | succ i => rw [yS, Jg, F.add_zero]
 | s + 1, i => by
   simp only [List.replicate_succ, List.cons_append, zB, zS, zae, F.zero_mul, F.zero_add]
   cases i with
   | zero => rw [jh, if_neg (by omega)]
   | succ i =>
     rw [yS, zfe c d s i]
     by_cases h : s ≤ i
     ·rw [if_pos h, if_pos (by omega), show i + 1 - (s + 1) = i - s by omega]
     rw [if_neg h, if_neg (by omega)]
theorem zlO (c : F) (s i : Nat) : cf (List.replicate s 0 ++ [c]) i = if i = s then c else 0 := by
 unfold cf
 rw [List.getD_eq_getElem?_getD, List.getElem?_append, List.length_replicate]
 by_cases h : i < s
 ·rw [if_pos h, List.getElem?_replicate, if_pos h, if_neg (by omega)]; rfl
 rw [if_neg h]
 by_cases e : i = s
 ·subst e; rw [Nat.sub_self, if_pos rfl]; rfl
 rw [if_neg e, List.getElem?_eq_none (by simp; omega)]; rfl
theorem zny {q : List F} (d : List F) {s : Nat} (c : F) (hs : s < q.length) (h0 : cf q s = 0) (i : Nat) : cf (zB (q.set s c) d) i = cf (zB q d) i + (if s ≤ i then c * cf d (i - s) else 0) := by
 have e : Eqv (q.set s c) (zW q (List.replicate s 0 ++ [c])) := fun j => by
  rw [zch _ _ _ hs, zS, zlO]
  by_cases hj : j = s
  ·subst hj; rw [if_pos rfl, if_pos rfl, h0, F.zero_add]
  rw [if_neg hj, if_neg hj, F.add_zero]
 rw [Eqv.mul e (Eqv.refl d) i, JY _ _ _ i, zS, zfe]
def zff (p d q r : List F) (low : Nat) : Prop := q.length = p.length ∧ r.length = p.length ∧ (∀ i, cf p i = cf (zB q d) i + cf r i) ∧ ∀ i, i + low < (zj r).length → cf q i = 0
theorem zfE (p d : List F) (low : Nat) : zff p d (List.replicate p.length 0) p low := by
 have hz : ∀ i, cf (List.replicate p.length (0 : F)) i = 0 := fun i => by
  unfold cf
  rw [List.getD_eq_getElem?_getD, List.getElem?_replicate]
  split <;> rfl
 exact ⟨by simp, rfl, fun i => by rw [ZU hz d i, F.zero_add], fun i _ => hz i⟩
theorem zgN {p d q r r' : List F} {low t : Nat} (h : zff p d q r low) (ht : (zj r).length = t + 1) (hl : low ≤ t) (hd : (zj d).length = low + 1) (c : F) (hc : c = cf r t * (cf d low).inv)
 (hr' : r'.length = p.length ∧ ∀ i, cf r' i = cf r i + (if t - low ≤ i ∧ i < t - low + (low + 1) then c * cf d (i - (t - low)) else 0)) : zff p d (q.set (t - low) c) r' low ∧ (zj r').length ≤ t := by
 obtain ⟨h1, h2, h3, h4⟩ := h
 have htl : t < p.length := by have := yD r; omega
 have hdz : ∀ j, low < j → cf d j = 0 := fun j hj => by rw [← zY d]; exact zJ _ _ (by omega)
 have hd0 : cf d low ≠ 0 := by
  have := ZX d (by intro e; rw [e] at hd; simp at hd)
  rw [zY, hd] at this
  exact this
 have hr0 : ∀ j, t < j → cf r j = 0 := fun j hj => by rw [← zY r]; exact zJ _ _ (by omega)
 have hlen : (zj r').length ≤ t := yR (fun i hi => by
  rw [hr'.2 i]
  rcases Nat.eq_or_lt_of_le hi with e | h5
  ·subst e
   rw [if_pos (by omega), show t - (t - low) = low by omega, hc, F.mul_assoc, F.mul_comm _ (cf d low), F.mul_inv _ hd0, F.mul_one, F.add_self]
  rw [hr0 i h5, if_neg (by omega), F.add_zero])
 refine ⟨⟨by rw [List.length_set]; exact h1, hr'.1, fun i => ?_, fun i hi => ?_⟩, hlen⟩
 ·rw [zny d c (by omega) (h4 _ (by omega)), hr'.2 i, h3 i]
  have e : (if t - low ≤ i then c * cf d (i - (t - low)) else 0) = (if t - low ≤ i ∧ i < t - low + (low + 1) then c * cf d (i - (t - low)) else 0) := by
   by_cases h5 : t - low ≤ i
   ·rw [if_pos h5]
    by_cases h6 : i < t - low + (low + 1)
    ·rw [if_pos ⟨h5, h6⟩]
    rw [if_neg (by omega), hdz _ (by omega), F.mul_zero]
   rw [if_neg h5, if_neg (by omega)]
  rw [e, F.add4, F.add_self, F.add_zero]
 rw [zch _ _ _ (by omega), if_neg (by omega)]
 exact h4 i (by omega)
theorem InvF (w : World) (g : Nat) (a : F) (hF : Fld w g) : Calls Try.prog 32 #[.pointer (some ⟨g, 0, none⟩), .int .u8 (a.v : Int)] w fun e w' => e = .returned (.tuple #[.int .u8 (a.inv.v : Int), .bool (decide (a.v ≠ 0))]) ∧ zq w w' := zje w g a.v hF a.lt
set_option maxRecDepth 100000 in
set_option maxHeartbeats 1600000 in
theorem zhE (w : World) (g : Nat) (A B : Option Addr) (n m c c2 : Nat) (p d : List F) (low : Nat) (hF : Fld w g) (hp : Kd.C fk w A n p) (hd : Kd.C fk w B m d) (hmc : m ≤ c2) (hl : n ≤ 1000000) (hl2 : m ≤ 1000000) (hlow : (zj d).length = low + 1) :
 Calls Try.prog 130 #[.pointer (some ⟨g, 0, none⟩), .slice A n c, .slice B m c2] w fun e w' => ∃ X Y q r, e = .returned (.tuple #[.slice X (zj q).length (zj q).length, .slice Y (zj r).length (zj r).length, .bool true]) ∧
  RF w' w.heap.size X (zj q) ∧ RF w' w.heap.size Y (zj r) ∧ (∀ i, cf p i = cf (zB q d) i + cf r i) ∧ (zj r).length ≤ low ∧ Fr (fun _ => False) w w' := by
 have hpn := Kd.C_len hp
 have hdm := Kd.C_len hd
 have hle := yD d
 have hlm : low < m := by omega
 have HD := za.mk (JX w B m c2 d hd hmc (by omega))
 rw [hlow] at HD
 have HP := za.mk hp
 have HDD := za.mk hd
 have HPN := za.mk hpn
 have HF := za.mk hF
 have HLOW := za.mk hlow
 have hl0 : ¬ (low : Int) < 0 := by omega
 have hl1 : (low : Int) < (m : Int) := by omega
 clear hp hd hpn hdm hF hle hlow
 obtain ⟨adB, rfl, hcb⟩ := Jc HDD.out (Fr.refl (fun _ => False) w) (fun _ h => h.elim) low hlm
 obtain ⟨dl, hdl⟩ : ∃ dl, dl = d.getD low 0 := ⟨_, rfl⟩
 rw [← hdl] at hcb
 have HI := za.mk (fun t => InvF (w.drewN t) g dl HF.out.drew)
 have HDL := za.mk hdl
 have HK := za.mk (fun t => ZV (w.drewN t) A n c p (C_drewN HP.out t) (by omega))
 have hmk := fun W : World => zdB (P := Try.prog) 36 5 Try.underlying36 yJ n (by omega) W
 clear hdl
 go_enter Try.func130, Try.ntmps130
 go_wp2_with (first
  | (go_at_call 134; (with_reducible refine HD.out.mono ?_); rintro e w1 ⟨rfl, ⟨k, rfl⟩⟩)
  | (go_at_call 32; (with_reducible refine (HI.out _).mono ?_); rintro e w1 ⟨rfl, ⟨k2, rfl⟩⟩)
  | (go_at_call 95; (with_reducible refine (HK.out _).mono ?_); rintro e w1 ⟨R, cr, rfl, hR, hb⟩; have HR := za.mk hR; have HB := za.mk hb; clear hR hb))
 have hz1 : w.heap.size ≤ w1.heap.size := HB.out.size
 have hrR : Kd.R fk 5 w1 w.heap.size (fun j => j < w1.heap.size) (.slice R n cr) p := Kd.R_mono (Kd.R_bound HR.out) (fun j hj => hj.2.2.1)
 obtain ⟨gq, hgq⟩ : ∃ gq, gq = w1.heap.size := ⟨_, rfl⟩
 have hb0 : Below w.heap.size w w1 := ⟨HB.out.os, HB.out.tape, HB.out.output, HB.out.size, HB.out.block⟩
 obtain ⟨wz, hwz⟩ : ∃ wz, wz = w1.alloc (Obj.cells (Array.replicate n (Value.int IntKind.u8 0)) 5) := ⟨_, rfl⟩
 have hbz : Below w1.heap.size w1 wz := by rw [hwz]; exact zc (Below.refl _ _) _
 have hqR : Kd.R fk 5 wz w.heap.size (fun j => j = gq) (.slice (some ⟨gq, 0, none⟩) n n) (List.replicate n 0) := by
  rw [hwz, hgq]; exact zeG w1 w.heap.size _ n (by omega) hz1 rfl
 have hrR2 := Kd.R_below hrR hbz
 rw [← hgq] at hrR2
 have HQ := za.mk hqR
 have HR2 := za.mk hrR2
 have HBZ := za.mk (hb0.trans (hbz.mono hb0.size))
 have hrc : n ≤ cr := (Kd.R_reads' hrR2).2.1
 have HD2 := za.mk (JX wz R n cr p (R_C hrR2) hrc (by omega))
 rw [← hgq, ← hwz]
 have HZ := za.mk (And.intro hz1 hgq)
 have HST : za (zff p d (List.replicate n 0) p low) := ⟨by rw [← HPN.out]; exact zfE p d low⟩
 clear hrR hqR hrR2 hb0 hwz hbz hz1 hgq HR HB hmk HK
 refine HD2.out.mono ?_
 rintro e w3 ⟨rfl, ⟨k3, rfl⟩⟩
 clear HD2
 go_wp2
 go_loopw [12] (fun v12 wr => ∃ (T : Nat) (qs rs : List F), v12 = .int .i64 ((T : Int) - 1) ∧ za (T = (zj rs).length) ∧ za (zff p d qs rs low) ∧ za (Kd.R fk 5 wr w.heap.size (fun j => j < gq) (.slice R n cr) rs) ∧ za (Kd.R fk 5 wr w.heap.size (fun j => j = gq) (.slice (some ⟨gq, 0, none⟩) n n) qs) ∧ za (Below w.heap.size w wr)) (fun v12 _ => (intOf v12 + 1).toNat)
 case atStart => exact ⟨_, _, p, rfl, ⟨rfl⟩, HST, ⟨Kd.R_drewN HR2.out _⟩, ⟨Kd.R_drewN HQ.out _⟩, ⟨yu HBZ.out _⟩⟩
 clear HST HR2 HQ HBZ
 obtain ⟨T, qs, rs, rfl, HT, HS, HR, HQ, HB⟩ := hrel
 obtain ⟨wo, rfl⟩ : ∃ wo : World, wo = wr := ⟨_, rfl⟩
 by_cases hT : low < T
 ·obtain ⟨s, rfl⟩ : ∃ s, T = s + low + 1 := ⟨T - low - 1, by omega⟩
  have hidx : (((s + low + 1 : Nat) : Int) - 1) = (s : Int) + (low : Int) := by omega
  rw [hidx]
  have htn : s + low < n := by
   have h1 := HT.out
   have h2 := yD rs
   have h3 := HS.out.2.1
   have h4 := HPN.out
   omega
  obtain ⟨gr, rfl, hgr0, _, hgr, hx, _, _⟩ := jJ (0 : F) HR.out (s + low) htn
  obtain ⟨z, hz⟩ : ∃ z, z = rs.getD (s + low) 0 := ⟨_, rfl⟩
  rw [← hz] at hx
  unfold zZ at hx
  have hcbo := HB.out.cell (p := adB.add low) (by have := World.block_lt_of_cell? w _ hcb; exact this)
  have hFo : Fld wo g := HF.out.fr (Fr.of_below HB.out (fun _ => False)) (fun h => h)
  have HM1 := za.mk (znD wo g z dl.inv hFo)
  obtain ⟨cc, hcc⟩ : ∃ cc, cc = z * dl.inv := ⟨_, rfl⟩
  rw [← hcc] at HM1
  obtain ⟨gq', e, _, _, _, hqx, hqz, hqset⟩ := jJ (0 : F) HQ.out s (by omega)
  injection e with e
  injection e with e _ _
  subst e
  have HQS := za.mk (hqset cc)
  have hgne : gr ≠ gq := by omega
  have HRS := za.mk (Kd.R_far HR.out (p := ⟨gq, s, none⟩) (fun k hk => by show k ≠ gq; omega) (zZ cc))
  unfold zZ at hqx HQS HRS
  have HBS := za.mk (HB.out.setCell (p := ⟨gq, s, none⟩) (by have := HZ.out; show w.heap.size ≤ gq; omega) (.int .u8 (cc.v : Int)))
  have HCC := za.mk (And.intro hcc hz)
  have hsl : (s : Int) + (low : Int) < (n : Int) := by omega
  have hs0 : (0 : Int) ≤ (s : Int) + (low : Int) := by omega
  have hge : (low : Int) ≤ (s : Int) + (low : Int) := by omega
  have hsn : ((s : Int) + (low : Int)).toNat = s + low := by omega
  have hs1 : (s : Int) < (n : Int) := by omega
  clear hqset hcc hz hidx
  go_wp2_with (go_at_call 31; (with_reducible refine HM1.out.mono ?_); rintro e w4 ⟨rfl, ⟨k4, rfl⟩⟩)
  go_loopw [55] (fun v55 wr => ∃ (j : Nat) (ys : List F), j ≤ low + 1 ∧ v55 = .int .i64 j ∧ za (ys.length = p.length ∧ ∀ i, cf ys i = cf rs i + (if s ≤ i ∧ i < s + j then cc * cf d (i - s) else 0)) ∧ za (Kd.R fk 5 wr w.heap.size (fun j => j < gq) (.slice (some ⟨gr, 0, none⟩) n cr) ys) ∧ za (Kd.R fk 5 wr w.heap.size (fun j => j = gq) (.slice (some ⟨gq, 0, none⟩) n n) (qs.set s cc)) ∧ za (Below w.heap.size w wr)) (fun v55 _ => low + 1 - (intOf v55).toNat)
  case atStart => exact ⟨0, rs, by omega, rfl, ⟨HS.out.2.1, fun i => by rw [if_neg (by omega), F.add_zero]⟩, ⟨Kd.R_drewN HRS.out _⟩, ⟨Kd.R_drewN HQS.out _⟩, ⟨yu HBS.out _⟩⟩
  clear HRS HQS HBS hx hqx hqz hcbo hFo HM1
  obtain ⟨j, ys, hj, rfl, HY, HR2, HQ2, HB2⟩ := hrel
  by_cases hjl : j < low + 1
  ·obtain ⟨adB', e, hcb2⟩ := Jc HDD.out (Fr.of_below HB2.out (fun _ => False)) (fun _ h => h.elim) j (by omega)
   injection e with e
   subst e
   obtain ⟨b, hb⟩ : ∃ b, b = d.getD j 0 := ⟨_, rfl⟩
   rw [← hb] at hcb2
   obtain ⟨gb, e, _, _, _, hy, hfz, hset⟩ := jJ (0 : F) HR2.out (s + j) (by omega)
   injection e with e
   injection e with e _ _
   subst e
   obtain ⟨y, hyy⟩ : ∃ y, y = ys.getD (s + j) 0 := ⟨_, rfl⟩
   rw [← hyy] at hy
   unfold zZ at hy
   have hF2 : Fld wr g := HF.out.fr (Fr.of_below HB2.out (fun _ => False)) (fun h => h)
   have HMU := za.mk (fun t => znD (wr.drewN t) g cc b hF2.drew)
   have hxr := zeB y (cc * b)
   have HS2 := za.mk (hset (y + cc * b))
   have hgne2 : gr ≠ gq := hgne
   have HQ3 := za.mk (Kd.R_far HQ2.out (p := ⟨gr, s + j, none⟩) (fun k hk => by show k ≠ gr; omega) (zZ (y + cc * b)))
   have HB3 := za.mk (HB2.out.setCell (p := ⟨gr, s + j, none⟩) hgr0 (zZ (y + cc * b)))
   have HY2 : za ((ys.set (s + j) (y + cc * b)).length = p.length ∧ ∀ i, cf (ys.set (s + j) (y + cc * b)) i = cf rs i + (if s ≤ i ∧ i < s + (j + 1) then cc * cf d (i - s) else 0)) := ⟨by rw [List.length_set]; exact HY.out.1, fun i => by
    rw [zch _ _ _ (by rw [HY.out.1, HPN.out]; omega)]
    by_cases hi : i = s + j
    ·subst hi
     rw [if_pos rfl, if_pos (by omega), Nat.add_sub_cancel_left, hyy, hb]
     have h2 := HY.out.2 (s + j)
     rw [if_neg (by omega), F.add_zero] at h2
     have h3 : ys.getD (s + j) 0 = cf rs (s + j) := h2
     rw [h3]; rfl
    rw [if_neg hi, HY.out.2 i]
    by_cases h4 : s ≤ i ∧ i < s + j
    ·rw [if_pos h4, if_pos (by omega)]
    rw [if_neg h4, if_neg (by omega)]⟩
   unfold zZ at HS2 HQ3 HB3
   generalize cc * b = cb at HMU hxr HS2 HQ3 HB3 HY2
   have hsj : (s : Int) + (j : Int) < (n : Int) := by omega
   have hsj0 : (0 : Int) ≤ (s : Int) + (j : Int) := by omega
   have hsjn : ((s : Int) + (j : Int)).toNat = s + j := by omega
   have hw1 : IntKind.i64.wrap ((s : Int) + (j : Int)) = (s : Int) + (j : Int) := IntWalk.i64_in _ ⟨by omega, by omega⟩
   have hw2 : IntKind.i64.wrap ((s : Int) + (low : Int) - (low : Int)) = (s : Int) := by rw [show (s : Int) + (low : Int) - (low : Int) = (s : Int) by omega]; exact IntWalk.i64_in _ ⟨by omega, by omega⟩
   have hw3 : IntKind.i64.wrap (s : Int) = (s : Int) := IntWalk.i64_in _ ⟨by omega, by omega⟩
   have hjm : (j : Int) < (m : Int) := by omega
   have hjl2 : (j : Int) < (low : Int) + 1 := by omega
   clear hset hb hyy
   go_wp2
   refine yC 16 (by kernel_rfl) (by kernel_rfl) ?_
   simp only [List.take_succ_cons, List.take_zero, List.drop_succ_cons, List.drop_zero]
   repeat (first | go_big_quiet_skip | (go_big_quiet_want; go_big_quiet_op; first | go_big_quiet_on | (apply Exists.intro; refine ⟨fun t => ?_, ?_⟩; (go_at_call 31; exact jW (HMU.out t)); go_big_quiet_on)))
   refine wpQuiet_nil ?_
   rintro _ ⟨t, rfl⟩
   go_wp2
   go_roundw
   case rel => exact ⟨j + 1, _, by omega, by go_num, HY2, ⟨Kd.R_drewN HS2.out t⟩, ⟨Kd.R_drewN HQ3.out t⟩, ⟨yu HB3.out t⟩⟩
   simp [intOf]; omega
  obtain rfl : j = low + 1 := by omega
  have hstep := zgN (r' := ys) HS.out (t := s + low) (by rw [← HT.out]) (by omega) HLOW.out cc (by rw [HCC.out.1, HCC.out.2, HDL.out]; rfl) ⟨HY.out.1, by rw [Nat.add_sub_cancel]; exact HY.out.2⟩
  rw [Nat.add_sub_cancel] at hstep
  have HSTEP := za.mk hstep.1
  have hlt := hstep.2
  have HD3 := za.mk (JX wr (some ⟨gr, 0, none⟩) n cr ys (R_C HR2.out) hrc (by omega))
  obtain ⟨T', hT'⟩ : ∃ T', T' = (zj ys).length := ⟨_, rfl⟩
  rw [← hT'] at HD3 hlt
  have HT' := za.mk hT'
  clear hstep hT'
  go_wp2_with (go_at_call 134; (with_reducible refine HD3.out.mono ?_); rintro e w5 ⟨rfl, ⟨k5, rfl⟩⟩)
  go_roundw
  case rel => exact ⟨T', _, ys, rfl, HT', HSTEP, ⟨Kd.R_drewN HR2.out k5⟩, ⟨Kd.R_drewN HQ2.out k5⟩, ⟨yu HB2.out k5⟩⟩
  simp only [intOf]; omega
 have hTI : ¬ (low : Int) ≤ (T : Int) - 1 := by omega
 have HT1 := za.mk (fun t => zau (wo.drewN t) (some ⟨gq, 0, none⟩) n n qs (C_drewN (R_C HQ.out) t) (Nat.le_refl _) (by omega))
 have HT2 := za.mk (fun t => zau (wo.drewN t) R n cr rs (C_drewN (R_C HR.out) t) hrc (by omega))
 have HT0 := za.mk (zau wo (some ⟨gq, 0, none⟩) n n qs (R_C HQ.out) (Nat.le_refl _) (by omega))
 have hTr : (zj rs).length ≤ low := by rw [← HT.out]; omega
 have HTR := za.mk hTr
 clear hTr
 go_wp2_with fail
 (with_reducible refine HT0.out.mono ?_)
 rintro e w4 ⟨rfl, ⟨k4, rfl⟩⟩
 go_wp2_with fail
 (with_reducible refine (HT2.out k4).mono ?_)
 rintro e w5 ⟨rfl, ⟨k5, rfl⟩⟩
 go_wp2
 go_ret3
 refine ⟨some ⟨gq, 0, none⟩, R, qs, rs, rfl, ?_, ?_, HS.out.2.2.1, HTR.out, ?_⟩
 ·exact zan (zdo (jN HQ.out)) ((Fr.refl (fun _ => False) wo).drewN (k4 + k5)) (fun _ _ _ h => h)
 ·exact zan (zdo (jN HR.out)) ((Fr.refl (fun _ => False) wo).drewN (k4 + k5)) (fun _ _ _ h => h)
 exact (Fr.of_below HB.out _).drewN (k4 + k5)
end Go.Proofs.Ytpeiejkcoadhfaa
