/- What the view's laws take, Vu44: VwCI, VwCK. -/
import Derived.Test.YtpeiejkcoadhfaaVu25
import Derived.Test.YtpeiejkcoadhfaaVu33
import Derived.Test.YtpeiejkcoadhfaaVu41
import Derived.Test.YtpeiejkcoadhfaaVu43
set_option linter.all false
namespace Go.Proofs.Ytpeiejkcoadhfaa
open Go.RowKit Go.Shelf Go.Proofs.YtpeiejkcoadhfaaW.PrintWords Go.Proofs.YtpeiejkcoadhfaaW.PrintMore
open Go.BigFrame
theorem zfH {W : World} {B : Option Addr} {nc K : Nat} {data : List F} (h : Kd.C u8s W B nc (jd (bs data) K)) (hnc : nc = ye data.length K) (j : Nat) (hj : j < nc) : ∃ ad A0 c0, B = some ad ∧ W.cell? (ad.add j) = some (.slice A0 K c0) ∧ K ≤ c0 ∧ Kd.C fk W A0 K (Jn data K j) := by
 obtain ⟨ad, A0, c0, e, h1, h2, h3⟩ := zci h j hj
 have hrow : (jd (bs data) K).getD j [] = bs (Jn data K j) := by
  rw [List.getD_eq_getElem?_getD, zby _ _ _ (by rw [zx, ← hnc]; exact hj)]
  exact zdq data K j
 rw [hrow, zx, js] at h1 h2 h3
 exact ⟨ad, A0, c0, e, h1, h2, Jz.1 h3⟩
theorem zkC {w wr : World} {b s : Nat} {v : Value} {bl : List Nat} {E : List (List Int)} (h : yX w b v bl E) (hf : Fr (fun k => k = s) w wr) (hs : s < b) : yX wr b v bl E := by
 obtain ⟨h1, h2, h3, h4⟩ := h
 refine ⟨jo h1 hf (fun k _ hk _ e => by omega), h2, fun j hj => ⟨(h3 j hj).1, Jx (h3 j hj).2 hf (fun e => ?_)⟩, h4⟩
 have := (h3 j hj).1
 omega
def zdO : List Ri → Nat
 | [] => 0
 | r :: rs => if r.kind = 2 then zdO rs + 1 else zdO rs
theorem ziF : ∀ (rs : List Ri) (cur : List Int), (jm rs cur).length = zdO rs + 1
 | [], _ => rfl
 | r :: rs, cur => by
   unfold jm zdO
   by_cases h : r.kind = 2
   ·rw [if_pos h, if_pos h, List.length_cons, ziF rs]
   rw [if_neg h, if_neg h, ziF rs]
theorem ziz (rs : List Ri) : (ym rs).length = zdO rs + 1 := by rw [ZF, ziF]
theorem zeA {d : List F} {i : Nat} (h0 : cf d i ≠ 0) (h1 : ∀ j, i < j → cf d j = 0) : (zj d).length = i + 1 := by
 have h2 : (zj d).length ≤ i + 1 := yR (fun j hj => h1 j (by omega))
 rcases Nat.lt_or_ge i (zj d).length with h | h
 ·omega
 exact absurd (by rw [← zY]; exact zJ _ _ h) h0
theorem zeh (xs : List F) : (zj (zw xs)).length = xs.length + 1 := zeA (by rw [(jB xs).1]; exact F.one_ne) (jB xs).2
theorem zmX (x : F) : (zj (lin x)).length = 1 + 1 := zeA (i := 1) (by show (1 : F) ≠ 0; exact F.one_ne) (fun j hj => zJ _ _ (by show 2 ≤ j; omega))
theorem zmI : (zj [(1 : F)]).length = 0 + 1 := zeA (i := 0) (by show (1 : F) ≠ 0; exact F.one_ne) (fun j hj => zJ _ _ (by show 1 ≤ j; omega))
noncomputable def zbg (N K : Nat) (bp : Nat → Nat → List F) (e : Nat) (r : Rnd) : Option ((Nat → List F) × List F) :=
 if r.kind = 2 then some (fun c => zj (zW (bp e c) (bp (e + 1) c)), zw (zN N K))
 else if r.kind = 3 then (if r.target ∈ r.seen then some (bp e, lin (ptF r.target)) else none)
 else if r.kind = 4 then some (bp e, [1]) else none
theorem zpl (N T K : Nat) (a b : List F) (rs0 : List Ri) (e : Nat) (r : Rnd) : usP N T K a b rs0 e r = (zbg N K (byP N T K a b rs0) e r).map fun p => fun c => Zn (p.1 c) p.2 := by
 unfold usP zbg
 by_cases h2 : r.kind = 2
 ·rw [if_pos h2, if_pos h2]; rfl
 rw [if_neg h2, if_neg h2]
 by_cases h3 : r.kind = 3
 ·rw [if_pos h3, if_pos h3]
  by_cases h5 : r.target ∈ r.seen
  ·rw [if_pos h5, if_pos h5]; rfl
  rw [if_neg h5, if_neg h5]; rfl
 rw [if_neg h3, if_neg h3]
 by_cases h4 : r.kind = 4
 ·rw [if_pos h4, if_pos h4]; rfl
 rw [if_neg h4, if_neg h4]; rfl
def zok (W : World) (b1 b2 : Nat) (X : Option Addr) (nx : Nat) (Y : Option Addr) (ny cy cols : Nat) : Option ((Nat → List F) × List F) → Prop
 | none => ny = 0
 | some (ps, fac) => 0 < ny ∧ ny ≤ 256 ∧ ny ≤ cy ∧ nx = cols ∧ PLn W X cols ((List.range cols).map ps) (fun k => b1 ≤ k ∧ k < b2) ∧ ny = fac.length ∧ RF W b2 Y fac ∧ ∃ low, (zj fac).length = low + 1
theorem zfb {l : List Int} (hl : ∀ x ∈ l, 0 ≤ x) {x : Nat} : x ∈ l.map Int.toNat ↔ (x : Int) ∈ l := by
 constructor
 ·intro h
  obtain ⟨y, hy, rfl⟩ := List.mem_map.1 h
  rw [Int.toNat_of_nonneg (hl y hy)]
  exact hy
 exact fun h => List.mem_map.2 ⟨x, h, by simp⟩
theorem ziA (w Wp : World) (s g N T K : Nat) (E Rm : Int) (cols : Nat) (A : Option Addr) (ne cb b : Nat) (bp : Nat → Nat → List F) (hT : w.heap[s]? = some (yx g N T K E Rm cols (.slice A ne cb))) (hB : ByJ Wp b (.slice A ne cb) ((List.range ne).map fun e => (List.range cols).map (bp e)))
 (hbp : Below Wp.heap.size Wp w) (hF : Fld w g) (hN : N ≤ 255) (hK : K ≤ 255) (hcl : cols ≤ 256) (hbl : ∀ e i, (bp e i).length ≤ 1000) (kind target : Int) (ds sn : List Int) (hro : zX N T ⟨kind, target, ds, sn⟩) (D S : Option Addr) (nd cd ns cs : Nat) (hS : Kd.C kz w S ns sn) (hns : ns ≤ 9223372036854775807)
 (e : Nat) (he : e < ne) (he2 : kind = 2 → e + 1 < ne) (hne : ne ≤ 1000000) :
 Calls Try.prog 113 #[.pointer (some ⟨s, 0, none⟩), .agg #[.int .i64 kind, .int .i64 target, .slice D nd cd, .slice S ns cs], .int .i64 (e : Int)] w fun x w' => ∃ X nx cx Y ny cy, x = .returned (.tuple #[.slice X nx cx, .slice Y ny cy]) ∧ Below w.heap.size w w' ∧ zok w' Wp.heap.size w.heap.size X nx Y ny cy cols (zbg N K bp e (zM ⟨kind, target, ds, sn⟩)) := by
 have hg : ∀ i, i < ne → ((List.range ne).map fun e => (List.range cols).map (bp e)).getD i [] = (List.range cols).map (bp i) := fun i hi => zy _ _ _ _ hi
 have hgl : ∀ i, i < ne → (((List.range ne).map fun e => (List.range cols).map (bp e)).getD i []).length = cols := fun i hi => by rw [hg i hi]; simp
 obtain ⟨hk, -, ht0, htN, -, hsn, -⟩ := hro
 obtain ⟨t, rfl⟩ : ∃ t : Nat, target = (t : Int) := ⟨target.toNat, (Int.toNat_of_nonneg ht0).symm⟩
 have hsn0 : ∀ x ∈ sn, 0 ≤ x := fun x hx => (yp hsn hx).1
 have hmem : (zM ⟨kind, (t : Int), ds, sn⟩).target ∈ (zM ⟨kind, (t : Int), ds, sn⟩).seen ↔ (t : Int) ∈ sn := by
  show (t : Int).toNat ∈ sn.map Int.toNat ↔ _
  rw [Int.toNat_natCast]
  exact zfb hsn0
 have hkd : (zM ⟨kind, (t : Int), ds, sn⟩).kind = kind := rfl
 have htd : (zM ⟨kind, (t : Int), ds, sn⟩).target = t := by show (t : Int).toNat = t; simp
 rcases hk with hk | hk | hk | hk <;> simp only at hk <;> subst hk
 ·have hc : zbg N K bp e (zM ⟨0, (t : Int), ds, sn⟩) = none := by
   unfold zbg
   rw [hkd, if_neg (by decide), if_neg (by decide), if_neg (by decide)]
  rw [hc]
  refine (znd w Wp s g N T K E Rm cols A ne cb b _ hT hB hbp D S nd cd ns cs e t).mono ?_
  rintro x w' ⟨rfl, hb⟩
  exact ⟨none, 0, 0, none, 0, 0, rfl, hb, rfl⟩
 ·have hc : zbg N K bp e (zM ⟨2, (t : Int), ds, sn⟩) = some (fun c => zj (zW (bp e c) (bp (e + 1) c)), zw (zN N K)) := by
   unfold zbg
   rw [hkd, if_pos rfl]
  rw [hc]
  have e2 := he2 rfl
  have hbl2 : ∀ i j, i < ne → j < cols → ((((List.range ne).map fun e => (List.range cols).map (bp e)).getD i []).getD j []).length ≤ 1000000 := fun i j hi hj => by
   rw [hg i hi, zy _ _ _ _ hj]
   exact Nat.le_trans (hbl i j) (by decide)
  refine (znf w Wp s g N T K E Rm cols A ne cb b _ hT hB hbp D S nd cd ns cs e e2 hne t hF hN hK hcl (hgl e he) (hgl (e + 1) e2) (fun i hi => hbl2 e i he hi) (fun i hi => hbl2 (e + 1) i e2 hi)).mono ?_
  rintro x w' ⟨X, cx, Y, rfl, h1, h2, hb⟩
  refine ⟨X, cols, cx, Y, K + 1, K + 1, rfl, hb, by omega, by omega, Nat.le_refl _, rfl, yM ?_ (fun k _ hk => hk.2), by rw [zQ, zH], h2, _, zeh _⟩
  rw [hg e he, hg (e + 1) e2] at h1
  have e3 : JF ((List.range cols).map (bp e)) ((List.range cols).map (bp (e + 1))) cols = (List.range cols).map fun c => zj (zW (bp e c) (bp (e + 1) c)) := by
   unfold JF
   refine List.map_congr_left (fun i hi => ?_)
   have hi' := List.mem_range.1 hi
   rw [zy _ _ _ _ hi', zy _ _ _ _ hi']
  rw [← e3]
  exact h1
 ·by_cases hin : (t : Int) ∈ sn
  ·have hc : zbg N K bp e (zM ⟨3, (t : Int), ds, sn⟩) = some (bp e, lin (ptF t)) := by
    unfold zbg
    rw [hkd, if_neg (by decide), if_pos rfl, if_pos (hmem.2 hin), htd]
   rw [hc]
   refine (znp w Wp s g N T K E Rm cols A ne cb b _ hT hB hbp D S nd cd ns cs e he t sn hS hns hin).mono ?_
   rintro x w' ⟨X, cx, Y, rfl, h1, h2, hb⟩
   rw [hgl e he] at h1
   rw [hg e he] at h1
   exact ⟨X, _, cx, Y, 2, 2, rfl, hb, by omega, by omega, Nat.le_refl _, hgl e he, yM h1 (fun k _ hk => hk.1), rfl, h2, _, zmX _⟩
  have hc : zbg N K bp e (zM ⟨3, (t : Int), ds, sn⟩) = none := by
   unfold zbg
   rw [hkd, if_neg (by decide), if_pos rfl, if_neg (fun h => hin (hmem.1 h))]
  rw [hc]
  refine (zmV w Wp s g N T K E Rm cols A ne cb b _ hT hB hbp D S nd cd ns cs e t sn hS hns hin).mono ?_
  rintro x w' ⟨rfl, hb⟩
  exact ⟨none, 0, 0, none, 0, 0, rfl, hb, rfl⟩
 have hc : zbg N K bp e (zM ⟨4, (t : Int), ds, sn⟩) = some (bp e, [1]) := by
  unfold zbg
  rw [hkd, if_neg (by decide), if_neg (by decide), if_pos rfl]
 rw [hc]
 refine (znq w Wp s g N T K E Rm cols A ne cb b _ hT hB hbp D S nd cd ns cs e he t).mono ?_
 rintro x w' ⟨X, cx, Y, rfl, h1, h2, hb⟩
 rw [hgl e he] at h1
 rw [hg e he] at h1
 exact ⟨X, _, cx, Y, 1, 1, rfl, hb, by omega, by omega, Nat.le_refl _, hgl e he, yM h1 (fun k _ hk => hk.1), rfl, h2, _, zmI⟩
theorem znn {P : Program} {α : Type} (enc : α → Value) (d0 : α) {h1 : ∀ x, (enc x).oneCell' = true} (W : World) (b : Nat) (t e : TypeId) (z : Value) (bytes : Nat) (ht : P.underlying t = some (.slice e))
 (hinfo : (P.info? e).map (fun i => (i.zero, i.size, i.bytes)) = some (some z, 1, bytes)) (hzs : z.cells.size = 1) {A : Option Addr} {n c : Nat} {xs : List α} (h : Kd.R (Kd.scalar enc h1) e W b (fun _ => True) (.slice A n c) xs) (hb : b ≤ W.heap.size) (x : α)
 (hn : (xs.length + 1) * bytes ≤ 140737488355328) (hb0 : 0 < bytes) :
 ∃ B d W', (Builtin.append_ #[t, t] t #[.slice A n c, .slice (some ⟨W.heap.size, 0, none⟩) 1 1]).run P (W.alloc (.cells #[enc x] e)) = .ok (.slice B (xs.length + 1) d) W' ∧ Kd.R (Kd.scalar enc h1) e W' b (fun _ => True) (.slice B (xs.length + 1) d) (xs ++ [x]) ∧ Fr (fun k => b ≤ k ∧ OB A k) W W' := by
 have hlit : Kd.R (Kd.scalar enc h1) e (W.alloc (.cells #[enc x] e)) W.heap.size (fun _ => True) (.slice (some ⟨W.heap.size, 0, none⟩) 1 1) [x] :=
  Kd.R_of_own (yA W W.heap.size e [x] (Nat.le_refl _) (by simp)) (fun _ _ => trivial)
 have hb1 : Below W.heap.size W (W.alloc (.cells #[enc x] e)) := zc (Below.refl _ _) _
 have h2 := jo h (Fr.of_below hb1 (fun _ => False)) (fun _ _ _ _ h => h)
 obtain ⟨v', W', hrun, hR, hg, hat⟩ := zR (P := P) enc d0 (W.alloc (.cells #[enc x] e)) b t t e z bytes ht hinfo hzs (ys := [x]) (c := 1) h2 (R_C hlit) hn hb0 (Nat.le_trans hb hb1.size) (fun _ _ => trivial)
 obtain ⟨B, d, rfl⟩ := Kd.R_slice hR
 rw [List.length_append] at hrun hR
 exact ⟨B, d, W', hrun, hR, (Fr.of_below hb1 _).trans (Fr.of_grown hg (fun k hk => .inl ⟨Kd.R_base h k hk, JP hk⟩)) (fun k hk => .inl hk)⟩
theorem zlX {W : World} {b : Nat} {A : Option Addr} {n c : Nat} {qss : List (List (List F))} (H : ByJ W b (.slice A n c) qss) (hb : b ≤ W.heap.size) (B : Option Addr) (qs : List (List F)) (nq cq : Nat) (hB : yQ W b (.slice B nq cq) qs) (hn : n ≤ 1000000) :
 ∃ A' c' W', (Builtin.append_ #[127, 127] 127 #[.slice A n c, .slice (some ⟨W.heap.size, 0, none⟩) 1 1]).run Try.prog (W.alloc (.cells #[.slice B nq cq] 37)) = .ok (.slice A' (n + 1) c') W' ∧ ByJ W' b (.slice A' (n + 1) c') (qss ++ [qs]) ∧ Fr (fun k => b ≤ k ∧ OB A k) W W' := by
 have hnl := (zmW H).1
 obtain rfl : nq = qs.length := (zdZ hB).1
 obtain ⟨hs, h1, h2, h3⟩ := H
 have hl : hs.length = n := by rw [h2]; exact hnl.symm
 obtain ⟨A', c', W', hrun, hR, hf⟩ := znn (P := Try.prog) ja hd0 (h1 := fun _ => rfl) W b 127 37 (.slice none 0 0) 24 Try.underlying127 zhZ rfl h1 hb (B, qs.length, cq) (by omega) (by omega)
 rw [hl] at hrun hR
 have hno : zhA (fun k => b ≤ k ∧ OB A k) b W := fun k _ hk cells t hc => by
  obtain ⟨c2, hc2⟩ := Kd.R_typed h1 k (zV hk.2)
  rw [hc] at hc2
  injection hc2 with hc2
  injection hc2 with _ hc2
  rw [hc2]
  decide
 refine ⟨A', c', W', hrun, ⟨hs ++ [(B, qs.length, cq)], hR, by simp [h2], fun i hi => ?_⟩, hf⟩
 rw [List.length_append, List.length_cons, List.length_nil] at hi
 rw [ZD, ZD, h2]
 by_cases e : i < qss.length
 ·rw [if_pos e, if_pos e]
  obtain ⟨B0, c0, e0, hr0⟩ := h3 i e
  exact ⟨B0, c0, e0, zjM hr0 hf hno⟩
 rw [if_neg e, if_neg e, if_pos (by omega), if_pos (by omega)]
 exact ⟨B, cq, rfl, zjM hB hf hno⟩
theorem zmx {W : World} {s g : Nat} {N T K E Rm cols : Int} {v : Value} (h : W.heap[s]? = some (yx g N T K E Rm cols v)) (u : Value) : (W.setCell ⟨s, 7, none⟩ u).heap[s]? = some (yx g N T K E Rm cols u) := by
 unfold yx at h ⊢
 rw [heap_setCell_same W s 7 _ 134 u h]
 rfl
def ChI (W : World) (O X Y : Option Addr) (ny cols : Nat) : Option ((Nat → List F) × List F) → Prop
 | none => True
 | some (ps, fac) => PLn W X cols ((List.range cols).map ps) (fun k => OB O k) ∧ Kd.C fk W Y ny fac ∧ (0 < ny → ∀ j, OB Y j → ¬ OB O j)
theorem zlT {W W1 : World} {O O' X Y : Option Addr} {ny cols : Nat} {ch : Option ((Nat → List F) × List F)} (h : ChI W O X Y ny cols ch) (hf : Fr (fun k => OB O k) W W1) (ho : ∀ k, OB O' k → OB O k ∨ W.heap.size ≤ k) : ChI W1 O' X Y ny cols ch := by
 cases ch with
 | none => trivial
 | some p =>
   obtain ⟨ps, fac⟩ := p
   obtain ⟨h1, h2, h3⟩ := h
   refine ⟨ZK h1 hf ho, jc h2 hf (fun j hj hn => h3 hn j hj), fun hn j hj hk => ?_⟩
   rcases ho j hk with h | h
   ·exact h3 hn j hj h
   have := zpk h2 hn j hj
   omega
theorem zfx {W W1 : World} {O X Y : Option Addr} {ny cols : Nat} {ch : Option ((Nat → List F) × List F)} (h : ChI W O X Y ny cols ch) (hf : Fr (fun _ => False) W W1) : ChI W1 O X Y ny cols ch :=
 zlT h (hf.mono (fun _ h => h.elim)) (fun _ h => .inl h)
theorem zoE {W : World} {b1 b2 : Nat} {O X : Option Addr} {nx : Nat} {Y : Option Addr} {ny cy cols : Nat} {ch : Option ((Nat → List F) × List F)} (h : zok W b1 b2 X nx Y ny cy cols ch) (ho : ∀ k, OB O k → b1 ≤ k ∧ k < b2) : ChI W O X Y ny cols ch := by
 cases ch with
 | none => trivial
 | some p =>
   obtain ⟨ps, fac⟩ := p
   obtain ⟨h1, h2, h3, h4, h5, h6, h7, h8⟩ := h
   refine ⟨yM h5 (fun k _ hk => ho k hk), by rw [h6]; exact h7.1, fun hn j hj hk => ?_⟩
   have := (h7.2 (by omega) j hj).1
   have := (ho j hk).2
   omega
theorem znY {N K : Nat} {bp : Nat → Nat → List F} (hbl : ∀ e i, (bp e i).length ≤ 1000) {e : Nat} {r : Rnd} {ps : Nat → List F} {fac : List F} (h : zbg N K bp e r = some (ps, fac)) : ∀ i, (ps i).length ≤ 1000 := by
 unfold zbg at h
 by_cases h2 : r.kind = 2
 ·rw [if_pos h2] at h
  injection h with h
  injection h with h _
  subst h
  exact fun i => yR (fun j hj => by rw [zS, zJ _ _ (Nat.le_trans (hbl e i) hj), zJ _ _ (Nat.le_trans (hbl (e + 1) i) hj), F.add_zero])
 rw [if_neg h2] at h
 by_cases h3 : r.kind = 3
 ·rw [if_pos h3] at h
  by_cases h5 : r.target ∈ r.seen
  ·rw [if_pos h5] at h
   injection h with h
   injection h with h _
   subst h
   exact hbl e
  rw [if_neg h5] at h; cases h
 rw [if_neg h3] at h
 by_cases h4 : r.kind = 4
 ·rw [if_pos h4] at h
  injection h with h
  injection h with h _
  subst h
  exact hbl e
 rw [if_neg h4] at h; cases h
def zfJ (seen : List Nat) (n : Nat) (o : Option (Nat → List F)) (ds : List Nat) (ts : List (List F)) (nx nd : Nat) (dn : Bool) (j : Nat) : List (List F) := zca seen n o dn (ds.drop j) (((ts.drop nx).take nd).drop j)
theorem zfd {ds : List Nat} {ts : List (List F)} {nx nd j : Nat} (hd : ds.length = nd) (ht : nx + nd ≤ ts.length) (hj : j < nd) : ds.drop j = ds.getD j 0 :: ds.drop (j + 1) ∧ ((ts.drop nx).take nd).drop j = ts.getD (nx + j) [] :: ((ts.drop nx).take nd).drop (j + 1) := by
 constructor
 ·rw [List.drop_eq_getElem_cons (by omega), List.getD_eq_getElem?_getD, List.getElem?_eq_getElem (by omega)]
  rfl
 have hl : j < ((ts.drop nx).take nd).length := by rw [List.length_take, List.length_drop]; omega
 rw [List.drop_eq_getElem_cons hl, List.getElem_take, List.getElem_drop, List.getD_eq_getElem?_getD, List.getElem?_eq_getElem (by omega)]
 rfl
theorem zll {seen : List Nat} {n : Nat} {o : Option (Nat → List F)} {ds : List Nat} {ts : List (List F)} {nx nd : Nat} {dn : Bool} {j : Nat} (hd : ds.length = nd) (ht : nx + nd ≤ ts.length) (hj : j < nd) (h : o = none ∨ dn = true ∨ ds.getD j 0 ∈ seen) : zfJ seen n o ds ts nx nd dn j = ts.getD (nx + j) [] :: zfJ seen n o ds ts nx nd dn (j + 1) := by
 unfold zfJ
 obtain ⟨e1, e2⟩ := zfd hd ht hj
 rw [e1, e2]
 exact zkI h
theorem zlZ {seen : List Nat} {n : Nat} {u : Nat → List F} {ds : List Nat} {ts : List (List F)} {nx nd : Nat} {j : Nat} (hd : ds.length = nd) (ht : nx + nd ≤ ts.length) (hj : j < nd) (h : ds.getD j 0 ∉ seen) : zfJ seen n (some u) ds ts nx nd false j = jx (ts.getD (nx + j) []) n u :: zfJ seen n (some u) ds ts nx nd true (j + 1) := by
 unfold zfJ
 obtain ⟨e1, e2⟩ := zfd hd ht hj
 rw [e1, e2]
 exact zld h
theorem zna {seen : List Nat} {n : Nat} {o : Option (Nat → List F)} {ds : List Nat} {ts : List (List F)} {nx nd : Nat} {dn : Bool} : zfJ seen n o ds ts nx nd dn nd = [] := by
 unfold zfJ
 have e : ((ts.drop nx).take nd).drop nd = [] := List.drop_eq_nil_of_le (by rw [List.length_take]; omega)
 rw [e]
 exact zmB ..
theorem zga {l : List Int} {j : Nat} (h : j < l.length) : (l.map Int.toNat).getD j 0 = (l.getD j 0).toNat := by
 rw [List.getD_eq_getElem?_getD, List.getD_eq_getElem?_getD, List.getElem?_map, List.getElem?_eq_getElem h]
 rfl
end Go.Proofs.Ytpeiejkcoadhfaa
