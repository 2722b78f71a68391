/- What the view's laws take, Vu19: RngG, PzO, PzX, PzT, PzG. -/
import Derived.Test.YtpeiejkcoadhfaaVu05
import Derived.Test.YtpeiejkcoadhfaaVu15
import Derived.Test.YtpeiejkcoadhfaaVu16
import Derived.Test.YtpeiejkcoadhfaaVu17
import Derived.Test.YtpeiejkcoadhfaaVu18
set_option linter.all false
namespace Go.Proofs.Ytpeiejkcoadhfaa
open Go.RowKit Go.Shelf Go.Proofs.YtpeiejkcoadhfaaW.PrintWords
def SeqG {α : Type} (P : Program) (g : Nat) (lb : Array Value) (encs : α → Array Value) (Rel : List α → α → World → Prop) (S : Nat → Prop) (Full : List α → Prop) (w : World) : Prop :=
 ∀ (l : Nat) (J : List α → World → Prop) (W : World), Below w.heap.size w W → w.heap.size + 2 ≤ W.heap.size → (∀ s A B, J s A → Below A.heap.size A B → J s B) →
   (∀ pre x W1, J pre W1 → Rel pre x W1 → YieldAt Fence.wide 1 P l (encs x) W1 fun e W' => e = .returned (.bool true) ∧ J (pre ++ [x]) W' ∧ Fr (fun k => S k ∨ k = w.heap.size ∨ k = w.heap.size + 1) W1 W') →
   J [] W → CallsIn Fence.wide 2 P g (#[.func (.yield l) #[] #[]] ++ lb) W fun e W' => (∃ v, e = .returned v) ∧ ∃ xs, Full xs ∧ J xs W'
theorem zng {P : Program} {α : Type} {g : Operand} {ps : Array Tmp} {assign body : Code} {Q : Exit → Act → World → Prop} {a : Act} {w : World}
 {gf : Nat} {lb : Array Value} (hg : a.eval g = .func (.func gf) #[] lb) (eg : ∀ args w, (callFunc gf args).run P w = .ok (.enter gf args) w)
 {encs : α → Array Value} {Rel : List α → α → World → Prop} {S : Nat → Prop} {Full : List α → Prop} (hseq : SeqG P gf lb encs Rel S Full w) (hps : ∀ x, (encs x).size = ps.size) (hS : ∀ k, S k → k < w.heap.size)
 (I : List α → World → Prop) (hI : Abd w.heap.size I) (hRel : ∀ pre, Abd w.heap.size (Rel pre)) (h0 : I [] w) (a₁ : α → Act)
 (hassign : ∀ (l : Nat) (pre : List α) (x : α) (W : World) (K : Act → World → Prop), Rel pre x W → K (a₁ x) W →
   assign.wpIn (Fence.wide.inRound l) 1 P (Exit.then K (fun _ _ _ => False)) { tmps := (ps.zip (encs x)).foldl (fun t (p, v) => t.setIfInBounds p v) a.tmps, defers := [] } W)
 (hbody : ∀ (l : Nat) (pre : List α) (x : α) (W : World), w.heap.size + 2 ≤ W.heap.size → I pre W → Rel pre x W → body.wpIn (Fence.wide.inRound l) 1 P (zmr (Fr S) (I (pre ++ [x])) W) (a₁ x) W)
 (hdone : ∀ (xs : List α) (W : World), Full xs → I xs W → W.heap[w.heap.size]? = some (.deferred (some [])) → Q .normal { a with defers := { target := .collected w.heap.size, args := #[] } :: a.defers } W) :
 (Code.rangeFunc g ps assign body).wpIn Fence.wide 3 P Q a w := by
 refine wpIn_rangeFunc ?_
 intro fn hfn
 let rec_ : LoopState → Loop := fun st => { state := st, pending := none, fn, tmps := a.tmps, params := ps, assign, body, defers := w.heap.size }
 obtain ⟨W1, hW1⟩ : ∃ W1, (w.alloc (.deferred (some []))).alloc (.loop (rec_ .ready)) = W1 := ⟨_, rfl⟩
 have hz1 : W1.heap.size = w.heap.size + 2 := by rw [← hW1]; simp
 have hb1 : Below w.heap.size w W1 := by rw [← hW1]; exact zc (zc (Below.refl _ _) _) _
 have hL1 : W1.heap[w.heap.size + 1]? = some (.loop (rec_ .ready)) := by
  rw [← hW1]
  have := World.alloc_heap_new (w.alloc (.deferred (some []))) (.loop (rec_ .ready))
  rwa [World.size_alloc] at this
 have hK1 : W1.heap[w.heap.size]? = some (.deferred (some [])) := by
  rw [← hW1]; exact (Below.heap_alloc _ _ _ (by simp)).trans (World.alloc_heap_new w _)
 refine ⟨w.heap.size + 1, [{ target := .collected w.heap.size, args := #[] }], W1, { target := .fn (.func gf) lb, args := #[.func (.yield (w.heap.size + 1)) #[] #[]] }, W1, gf,
  #[.func (.yield (w.heap.size + 1)) #[] #[]] ++ lb, W1, ?_, ?_, ?_, ?_, (fun _ => by omega), ?_⟩
 ·rw [← hW1]; exact run_enterLoop_outer _ _ _ _ _
 ·simp only [resolve, hg]
  simp [go_sem]
 ·intro f' _; exact trivial
 ·simp [invoke, go_sem, eg]
 ·
  have put1 : ∀ (W : World) (o' : Obj), Fr (fun k => k = w.heap.size + 1) W (W.putObj (w.heap.size + 1) o') := fun W o' => ⟨rfl, rfl, rfl, by simp, fun k _ hk => World.putObj_heap_other hk⟩
  have put : ∀ (W : World) (o o' : Obj), W.heap[w.heap.size + 1]? = some o → o.isCells = false → Fr (fun k => w.heap.size ≤ k ∧ ∃ o, W.heap[k]? = some o ∧ o.isCells = false) W (W.putObj (w.heap.size + 1) o') := fun W o o' h hc =>
   ⟨rfl, rfl, rfl, by simp, fun k _ hk => World.putObj_heap_other (fun e => hk (by subst e; exact ⟨by omega, o, h, hc⟩))⟩
  refine (hseq (w.heap.size + 1) (fun pre W => I pre W ∧ W.heap[w.heap.size + 1]? = some (.loop (rec_ .ready)) ∧ W.heap[w.heap.size]? = some (.deferred (some []))) W1 hb1 (by omega) ?_ ?_ ⟨?_, hL1, hK1⟩).mono ?_
  ·rintro s A B ⟨hi, hl, hk⟩ hb
   refine ⟨hI s A B hi (Fr.of_below hb _), (hb.block _ (Array.getElem?_eq_some_iff.1 hl).1).trans hl, (hb.block _ (Array.getElem?_eq_some_iff.1 hk).1).trans hk⟩
  ·
   rintro pre x W ⟨hi, hl, hk⟩ hr
   have hlt : w.heap.size + 1 < W.heap.size := (Array.getElem?_eq_some_iff.1 hl).1
   refine ⟨fn, _, assign, body, run_yield hl (hps x), roundIn_of_wpIn hfn (hassign _ pre x W _ hr ⟨_, run_beginRound hl rfl, ?_⟩)⟩
   obtain ⟨W2, hW2⟩ : ∃ W2, W.putObj (w.heap.size + 1) (.loop (rec_ .busy)) = W2 := ⟨_, rfl⟩
   have hf2 := put W _ (.loop (rec_ .busy)) hl rfl
   have hl2 : W2.heap[w.heap.size + 1]? = some (.loop (rec_ .busy)) := by rw [← hW2]; exact World.putObj_heap_same hlt
   have hk2 : W2.heap[w.heap.size]? = some (.deferred (some [])) := by rw [← hW2]; exact (World.putObj_heap_other (by omega)).trans hk
   have hz2 : W2.heap.size = W.heap.size := by rw [← hW2]; simp
   have hf2' : Fr (fun k => S k ∨ k = w.heap.size ∨ k = w.heap.size + 1) W W2 := by rw [← hW2]; exact (put1 W _).mono (fun k hk => .inr (.inr hk))
   rw [hW2] at hf2
   show body.wpIn (Fence.wide.inRound (w.heap.size + 1)) 1 P _ (a₁ x) (W.putObj (w.heap.size + 1) (.loop (rec_ .busy)))
   rw [hW2]
   refine wpIn_mono (hbody _ pre x W2 (by omega) (hI pre W W2 hi hf2) (hRel pre x W W2 hr hf2)) ?_
   intro e a3 W3 hp
   cases e with
   | normal =>
     obtain ⟨hf3, hi3⟩ := hp
     have hl3 := hf3.blk hl2 (fun h => absurd (hS _ h) (by omega))
     have hk3 := hf3.blk hk2 (fun h => absurd (hS _ h) (by omega))
     have hf4 := put W3 _ (.loop (rec_ .ready)) hl3 rfl
     have hlt3 : w.heap.size + 1 < W3.heap.size := (Array.getElem?_eq_some_iff.1 hl3).1
     refine ⟨_, _, run_endRound none hl3, rfl, ⟨hI _ _ _ hi3 hf4, World.putObj_heap_same hlt3, (World.putObj_heap_other (by omega)).trans hk3⟩, ?_⟩
     exact (hf2'.trans' (hf3.mono (fun k hk => .inl hk))).trans' ((put1 W3 _).mono (fun k hk => .inr (.inr hk)))
   | ret => exact hp.elim
   | exit id => exact hp.elim
   | goto t => exact hp.elim
   | panic ch => exact hp.elim
   | outgrown => exact hp.elim
  ·exact hI [] w W1 h0 (Fr.of_below hb1 _)
  ·
   rintro e W2 ⟨⟨v, rfl⟩, xs, hF, hi, hl, hk⟩
   exact ⟨none, _, run_endLoop hl (by simp [rec_]), hdone xs _ hF (hI _ _ _ hi (put W2 _ _ hl rfl)) ((World.putObj_heap_other (by omega)).trans hk)⟩
end Go.Proofs.Ytpeiejkcoadhfaa
namespace Go.Proofs.Ytpeiejkcoadhfaa
open Go.RowKit Go.Shelf Go.Proofs.YtpeiejkcoadhfaaW.PrintWords Go.Proofs.YtpeiejkcoadhfaaW.PrintMore
attribute [local go_sem] Oper.semAt_some
abbrev Oth : Type := Nat × (Option Addr × List F)
def zoX (x : Oth) : Array Value := #[.int .i64 (x.1 : Int), .slice x.2.1 x.2.2.length x.2.2.length]
def RelO (xs : List F) (b : Nat) (pre : List Oth) (x : Oth) (W : World) : Prop := pre.length < xs.length ∧ x.1 = pre.length ∧ RF W b x.2.1 x.2.2 ∧ zhv xs x.1 x.2.2 ∧ x.2.2.length ≤ xs.length
theorem zlz (x : F) : zj (lin x) = lin x := by simp [lin, zj, F.one_ne]
set_option maxRecDepth 100000 in
set_option maxHeartbeats 1600000 in
theorem zjc (S : Nat → Prop) (w : World) (bf bx g : Nat) (A : Option Addr) (n c : Nat) (xs : List F) (hF : Fld w g) (hx : Kd.C fk w A n xs) (hl : n ≤ 1000) (hu : Unl xs) (hS : ∀ k, S k → k < w.heap.size)
 (hg : ¬ S g) (hA : ∀ j, OB A j → 0 < n → ¬ S j) (hbf : w.heap[bf]? = some (.cells #[.pointer (some ⟨g, 0, none⟩)] 23 (0, 0))) (hbx : w.heap[bx]? = some (.cells #[.slice A n c] 36 (0, 0))) (hSf : ¬ S bf) (hSx : ¬ S bx) :
 SeqG Try.prog 132 #[.pointer (some ⟨bf, 0, none⟩), .pointer (some ⟨bx, 0, none⟩)] zoX (RelO xs w.heap.size) S (fun ys => ys.length = n) w := by
 intro l J W hW hWz hJ hY h0
 obtain rfl : xs.length = n := Kd.C_len hx
 refine callsIn_of_wp Try.func132 rfl trivial ?_ rfl
 simp only [Try.ntmps132, List.size_toArray, List.length_cons, List.length_nil, Nat.reduceAdd, Nat.reduceSub, Array.replicate_succ, Array.replicate_zero, List.push_toArray, List.append_toArray, List.nil_append, List.cons_append]
 have hAlt : ∀ j, OB A j → 0 < xs.length → j < w.heap.size := fun j hj hn => by
  obtain ⟨ad, e, rfl⟩ := hj
  obtain ⟨ad', e', hc⟩ := (Kd.reads_of_C (enc := zZ) (d := (0 : F)) (h1 := fun _ => rfl) hx).2.2 hn
  rw [e] at e'
  injection e' with e'
  subst e'
  have h1 := World.block_lt_of_cell? w _ (hc 0 hn)
  rwa [yi] at h1
 have HBF : za (∀ {W1 : World}, Fr (fun k => S k ∨ k = w.heap.size ∨ k = w.heap.size + 1) W W1 → W1.cell? ⟨bf, 0, none⟩ = some (.pointer (some ⟨g, 0, none⟩)) ∧ W1.cell? ⟨bx, 0, none⟩ = some (.slice A xs.length c) ∧ Fld W1 g ∧ Kd.C fk W1 A xs.length xs) := ⟨fun {W1} hf => by
  have h1 := yB hbf
  have h2 := yB hbx
  have h3 := zgd hF
  refine ⟨zh (hf.blk (zl hbf hW) (fun h => ?_)) rfl, zh (hf.blk (zl hbx hW) (fun h => ?_)) rfl, (hF.fr (Fr.of_below hW (fun _ => False)) (fun h => h)).fr hf (fun h => ?_), jc (Kd.C_below hx hW) hf (fun j hj hn h => ?_)⟩
  ·rcases h with h | h | h
   ·exact hSf h
   ·omega
   omega
  ·rcases h with h | h | h
   ·exact hSx h
   ·omega
   omega
  ·rcases h with h | h | h
   ·exact hg h
   ·omega
   omega
  have := hAlt j hj hn
  rcases h with h | h | h
  ·exact hA j hj hn h
  ·omega
  omega⟩
 obtain ⟨c1, c2, hF1, hx1⟩ := HBF.out (Fr.refl _ W)
 have HR := za.mk (JC W g A xs.length c xs hF1 hx1 (by omega))
 have HY := za.mk hY
 have HJ := za.mk hJ
 have H0 := za.mk h0
 have HU := za.mk hu
 have HWZ := za.mk hWz
 have HS := za.mk hS
 have HWB := za.mk hW
 clear hY hJ h0 hW hAlt hx hbf hbx hSf hSx hA hg hF hF1 hx1 hu hWz hS
 gi_wp2_with (refine ⟨trivial, ?_⟩; gi_at_call 83; refine (callsIn_wide.2 HR.out).mono ?_; rintro e W1 ⟨D, rfl, hD, hfD⟩; obtain ⟨c3, c4, hF3, hx3⟩ := HBF.out (hfD.mono (fun _ h => h.elim)); have HD := za.mk hD; have HFD := za.mk hfD; clear hD hfD hF3 hx3)
 clear c1 c2 c3 c4
 gi_loopw [15] (fun v15 wr => ∃ (k : Nat) (ys : List Oth), k ≤ xs.length ∧ v15 = .int .i64 k ∧ ys.length = k ∧ za (J ys wr) ∧ za (Fr (fun k => S k ∨ k = w.heap.size ∨ k = w.heap.size + 1) W1 wr)) (fun v15 _ => xs.length - (intOf v15).toNat)
 case atStart => exact ⟨0, [], by omega, rfl, rfl, ⟨HJ.out _ _ _ H0.out (HFD.out.below (Nat.le_refl _) (fun _ h => h.elim))⟩, ⟨Fr.refl _ _⟩⟩
 clear H0 HR
 obtain ⟨k, ys, hk, rfl, hys, HJy, HFr⟩ := hrel
 have HYS := za.mk hys
 clear hys
 by_cases hlt : k < xs.length
 ·obtain ⟨c1, c2, hF1, hx1⟩ := HBF.out ((HFD.out.mono (fun _ h => h.elim)).trans' HFr.out)
  obtain ⟨adx, rfl, hcx⟩ := Jc hx1 (Fr.refl (fun _ => False) wr) (fun _ h => h.elim) k hlt
  obtain ⟨x, hx⟩ : ∃ x, x = xs.getD k 0 := ⟨_, rfl⟩
  rw [← hx] at hcx
  have hDr := zan HD.out HFr.out (fun j hj _ h => by
   have h1 := HWZ.out
   rcases h with h | h | h
   ·have := HS.out j h; omega
   ·omega
   omega)
  have hrl := zQ xs
  have hb1 : Below wr.heap.size wr (wr.alloc (.cells #[.int .u8 (x.v : Int), .int .u8 1] 5)) := zc (Below.refl _ _) _
  have hd := R_C (Zr wr wr.heap.size (fun _ => True) (lin x) (by simp [lin]) (Nat.le_refl _) trivial)
  have c5 := zhE (wr.alloc (.cells #[.int .u8 (x.v : Int), .int .u8 1] 5)) g D (some ⟨wr.heap.size, 0, none⟩) (xs.length + 1) 2 (xs.length + 1) 2 (zw xs) (lin x) 1 (hF1.fr (Fr.of_below hb1 (fun _ => False)) (fun h => h)) (by rw [← hrl]; exact Kd.C_below hDr.1 hb1) hd (by omega) (by omega) (by omega) (by rw [zlz]; rfl)
  have HC5 := za.mk c5
  have HX := za.mk hx
  have HB1 := za.mk hb1
  clear c5 hd hrl hDr hb1 hx hF1 hx1
  have HPO : za (∀ (X : Option Addr) (q r : List F) (W3 : World), RF W3 (wr.alloc (.cells #[.int .u8 (x.v : Int), .int .u8 1] 5)).heap.size X (zj q) → (∀ i, cf (zw xs) i = cf (zB q (lin x)) i + cf r i) → (zj r).length ≤ 1 → Fr (fun _ => False) (wr.alloc (.cells #[.int .u8 (x.v : Int), .int .u8 1] 5)) W3 →
   YieldAt Fence.wide 1 Try.prog l #[.int .i64 (k : Int), .slice X (zj q).length (zj q).length] W3 fun e W' => e = .returned (.bool true) ∧ J (ys ++ [(k, X, zj q)]) W' ∧ Fr (fun k => S k ∨ k = w.heap.size ∨ k = w.heap.size + 1) W1 W') := ⟨fun X q r W3 hX hqr hr1 hf3 => by
   have hbas : zhv xs k (zj q) := zla HU.out hlt (r := zj r) (fun j => by
    rw [hqr j, ← HX.out]
    congr 1
    ·exact Eqv.mul (zY q).symm (Eqv.refl _) j
    exact (zY r j).symm) hr1
   have hlen : (zj q).length ≤ xs.length := by
    have := yR (p := zj q) (n := xs.length) (fun i hi => hbas.1 i hi)
    rwa [zcA] at this
   have hb3 : Below wr.heap.size wr W3 := HB1.out.trans ((hf3.below (Nat.le_refl _) (fun _ h => h.elim)).mono HB1.out.size)
   have hsz : w.heap.size ≤ (wr.alloc (.cells #[.int .u8 (x.v : Int), .int .u8 1] 5)).heap.size := by
    have h1 := HWZ.out
    have h2 := HFD.out.size
    have h3 := HFr.out.size
    have h4 := HB1.out.size
    omega
   refine (HY.out ys (k, X, zj q) W3 (HJ.out _ _ _ HJy.out hb3) ⟨by rw [HYS.out]; exact hlt, HYS.out.symm, yr hX hsz, hbas, hlen⟩).mono ?_
   rintro e W' ⟨he, hj, hf⟩
   exact ⟨he, hj, (HFr.out.below_ hb3).trans' hf⟩⟩
  gi_wp2_with (refine ⟨trivial, ?_⟩; gi_at_call 130; refine (callsIn_wide.2 HC5.out).mono ?_; rintro e W3 ⟨X, Y, q, r, rfl, hX, hYr, hqr, hr1, hf3⟩; obtain ⟨fn, tmps, assign, body, hy, hRd⟩ := HPO.out X q r W3 hX hqr hr1 hf3; clear hX hYr hqr hr1 hf3)
  refine hRd.mono ?_
  rintro ee W' ⟨rfl, hj', hf'⟩
  have HF' := za.mk hf'
  have HJ' := za.mk hj'
  clear hj' hf'
  gi_wp2
  go_roundw
  case rel => exact ⟨k + 1, _, by omega, by go_num, by rw [List.length_append, HYS.out]; rfl, HJ', HF'⟩
  simp only [intOf]; omega
 obtain rfl : k = xs.length := by omega
 gi_wp2
 go_end0
 exact ⟨⟨_, rfl⟩, ys, HYS.out, HJy.out⟩
end Go.Proofs.Ytpeiejkcoadhfaa
namespace Go.Proofs.Ytpeiejkcoadhfaa
open Go.RowKit Go.Shelf
theorem zeS {fn : Func} {a b : Tmp} {t u : TypeId} (h : fn.results = #[.cell a t, .cell b u]) (tmps : Array Value) (P : Program) (w : World) {p q : Addr} {x y : Value} (ha : tmps.getD a undef = .pointer (some p)) (hb : tmps.getD b undef = .pointer (some q))
 (hx : (loadVar t p).run P w = .ok x w) (hy : (loadVar u q).run P w = .ok y w) : (results fn tmps).run P w = .ok (.tuple #[x, y]) w := by
 rw [Array.getD_eq_getD_getElem?] at ha hb
 simp [results, h, ha, hb, asAddr, hx, hy]
theorem zoM {w : World} {p : Addr} {A : Option Addr} {n c : Nat} (h : w.cell? p = some (.slice A n c)) : (loadVar 36 p).run Try.prog w = .ok (.slice A n c) w := by
 go_simp
theorem zpT {w : World} {p : Addr} {b : Bool} (h : w.cell? p = some (.bool b)) : (loadVar 4 p).run Try.prog w = .ok (.bool b) w := by
 go_simp
end Go.Proofs.Ytpeiejkcoadhfaa
namespace Go.Proofs.Ytpeiejkcoadhfaa
open Go.RowKit Go.Shelf Go.Proofs.YtpeiejkcoadhfaaW.PrintWords Go.Proofs.YtpeiejkcoadhfaaW.PrintMore
open Go.BigFrame
attribute [local go_sem] Oper.semAt_some
theorem zhV (w : World) (v u : Value) (hv : v.oneCell' = true) (hu : u.oneCell' = true) : Calls Try.prog 121 #[v, u] w fun e w' => e = .returned (.func (.func 132) #[] #[.pointer (some ⟨w.heap.size, 0, none⟩), .pointer (some ⟨w.heap.size + 1, 0, none⟩)]) ∧ w' = (w.alloc (.cells #[v] 23)).alloc (.cells #[u] 36) := by
 go_enter Try.func121, Try.ntmps121
 go_wp2
 go_ret
 exact ⟨rfl, rfl⟩
theorem zic {w w1 : World} {base b0 : Nat} {B : Option Addr} {q : List F} (h : RF w base B q) (hf : Fr (fun k => b0 ≤ k ∧ ∃ o, w.heap[k]? = some o ∧ o.isCells = false) w w1) : RF w1 base B q := by
 have hn : 0 < q.length → ∀ j, OB B j → ¬ (b0 ≤ j ∧ ∃ o, w.heap[j]? = some o ∧ o.isCells = false) := fun hp j hj ⟨_, o, ho, hc⟩ => by
  obtain ⟨_, cells, h2⟩ := h.2 hp j hj
  rw [h2] at ho
  injection ho with ho
  rw [← ho] at hc
  simp [Obj.isCells] at hc
 refine ⟨jc h.1 hf (fun j hj hp => hn hp j hj), fun hp j hj => ?_⟩
 obtain ⟨h1, cells, h2⟩ := h.2 hp j hj
 exact ⟨h1, cells, hf.blk h2 (hn hp j hj)⟩
theorem zoV (w : World) (base : Nat) : RF w base none [] := ⟨Kd.C_nil _ _, fun h => absurd h (by simp)⟩
theorem DivF (w : World) (g : Nat) (a b : F) (hF : Fld w g) (hb : b ≠ 0) : Calls Try.prog 33 #[.pointer (some ⟨g, 0, none⟩), .int .u8 (a.v : Int), .int .u8 (b.v : Int)] w fun e w' => e = .returned (.tuple #[.int .u8 ((a * b.inv).v : Int), .bool true]) ∧ zq w w' := by
 have h := zoi w g a.v b.v hF a.lt b.lt
 have hd : decide (b.v ≠ 0) = true := by
  rw [decide_eq_true_eq]
  intro e
  exact hb (F.ext e)
 rw [hd] at h
 exact h
def ThrI (xs ys : List F) (w2 : World) (o : Nat) (pre : List Oth) (W : World) : Prop := ∃ D sm, W.heap[o]? = some (.cells #[.slice D sm.length sm.length] 36 (0, 0)) ∧ RF W w2.heap.size D sm ∧ zaI xs ys sm pre.length ∧ Fr (fun k => k = o) w2 W
set_option maxRecDepth 100000 in
set_option maxHeartbeats 1600000 in
theorem zcV (w : World) (g : Nat) (A B : Option Addr) (n c d : Nat) (xs ys : List F) (hF : Fld w g) (hx : Kd.C fk w A n xs) (hy : Kd.C fk w B n ys) (hl : n ≤ 1000) (hu : Unl xs) :
 Calls Try.prog 85 #[.pointer (some ⟨g, 0, none⟩), .slice A n c, .slice B n d] w fun e w' => ∃ D s, e = .returned (.tuple #[.slice D s.length s.length, .bool true]) ∧ RF w' w.heap.size D s ∧ zbu xs ys s ∧ Fr (fun _ => False) w w' := by
 obtain rfl : xs.length = n := Kd.C_len hx
 have HYL := za.mk (Kd.C_len hy)
 have HX := za.mk hx
 have HY := za.mk hy
 have HF := za.mk hF
 have HU := za.mk hu
 clear hx hy hF hu
 refine (callsIn_wide (n := 3)).1 (callsIn_of_wp_marks Try.func85 rfl trivial ?_ rfl)
 simp only [Try.ntmps85, List.size_toArray, List.length_cons, List.length_nil, Nat.reduceAdd, Nat.reduceSub, Array.replicate_succ, Array.replicate_zero, List.push_toArray, List.append_toArray, List.nil_append, List.cons_append]
 gi_wp2_with (refine ⟨trivial, ?_⟩; gi_at_call 121; refine (callsIn_wide.2 (zhV _ _ _ rfl rfl)).mono ?_; rintro e W' ⟨rfl, rfl⟩)
 obtain ⟨w1, hw1, hz1, a0, a1, a2, a3, hb1⟩ := zgO w (Obj.cells #[Value.pointer (some { block := g, off := 0 })] 23) (Obj.cells #[Value.slice A xs.length c] 36) (Obj.cells #[Value.slice B xs.length d] 36) (Obj.cells #[Value.slice none 0 0] 36)
 obtain ⟨w2, hw2, hz2, a4, a5, a6, a7, hb2⟩ := zgO w1 (Obj.cells #[Value.bool false] 4) (Obj.cells #[Value.slice none 0 0] 36) (Obj.cells #[Value.pointer (some { block := g, off := 0 })] 23) (Obj.cells #[Value.slice A xs.length c] 36)
 rw [← hw1, ← hw2]
 clear hw1 hw2
 have hAs : ∀ (C : Option Addr) (p : List F), Kd.C fk w C xs.length p → ∀ j, OB C j → 0 < xs.length → j < w.heap.size := fun C p hC j hj hn => by
  obtain ⟨ad, e, rfl⟩ := hj
  obtain ⟨ad', e', hc⟩ := (Kd.reads_of_C (enc := zZ) (d := (0 : F)) (h1 := fun _ => rfl) hC).2.2 hn
  rw [e] at e'
  injection e' with e'
  subst e'
  have h1 := World.block_lt_of_cell? w _ (hc 0 hn)
  rwa [yi] at h1
 have hA1 := hAs A xs HX.out
 have hgs : g < w.heap.size := zgd HF.out
 have hbw : Below w.heap.size w w2 := hb1.trans (hb2.mono (by omega))
 have HB := za.mk hbw
 have HF2 := za.mk (HF.out.fr (Fr.of_below hbw (fun _ => False)) (fun h => h))
 have HX2 := za.mk (Kd.C_below HX.out hbw)
 have HY2 := za.mk (Kd.C_below HY.out hbw)
 have HYB := za.mk (hAs B ys HY.out)
 obtain ⟨s, hs⟩ : ∃ s, s = w.heap.size := ⟨_, rfl⟩
 have hz3 : w1.heap.size = s + 1 + 1 + 1 + 1 := by omega
 have hz4 : w2.heap.size = s + 1 + 1 + 1 + 1 + 1 + 1 + 1 + 1 := by omega
 rw [hz3] at a4 a5 a6 a7
 rw [← hs] at a0 a1 a2 a3 hgs hA1 ⊢
 have b0 := zl a0 hb2
 have b1 := zl a1 hb2
 have b2 := zl a2 hb2
 have b3 := zl a3 hb2
 clear a0 a1 a2 a3 hz1 hz2 hb1 hb2 hz3 hAs hbw
 refine zng (P := Try.prog) (gf := 132) (lb := #[.pointer (some ⟨s + 1 + 1 + 1 + 1 + 1 + 1, 0, none⟩), .pointer (some ⟨s + 1 + 1 + 1 + 1 + 1 + 1 + 1, 0, none⟩)]) rfl (fun _ _ => rfl) (encs := zoX) (Rel := RelO xs w2.heap.size) (S := fun j => j = s + 1 + 1 + 1 + 1 + 1) (Full := fun ys => ys.length = xs.length)
  (zjc _ w2 (s + 1 + 1 + 1 + 1 + 1 + 1) (s + 1 + 1 + 1 + 1 + 1 + 1 + 1) g A xs.length c xs HF2.out HX2.out hl HU.out (fun j hj => by omega) (by omega) (fun j hj hn => by have := hA1 j hj hn; omega) a6 a7 (by omega) (by omega)) (fun _ => by rfl) (fun j hj => by omega)
  (ThrI xs ys w2 (s + 1 + 1 + 1 + 1 + 1)) ?_ ?_ ⟨none, [], a5, zoV _ _, zbx _ _, Fr.refl _ _⟩
  (fun y => { tmps := #[Value.pointer (some { block := g, off := 0 }), Value.slice A xs.length c, Value.slice B xs.length d, Value.pointer (some { block := s, off := 0 }), Value.pointer (some { block := s + 1, off := 0 }), Value.pointer (some { block := s + 1 + 1, off := 0 }), Value.pointer (some { block := s + 1 + 1 + 1, off := 0 }), Value.pointer (some { block := s + 1 + 1 + 1 + 1, off := 0 }), Value.pointer (some { block := s + 1 + 1 + 1 + 1 + 1, off := 0 }),
        .int .i64 (y.1 : Int), .slice y.2.1 y.2.2.length y.2.2.length, undef, undef, Value.slice A xs.length c, Value.int IntKind.i64 xs.length, Value.slice B xs.length d,
        Value.int IntKind.i64 xs.length, Value.bool false, Value.pointer (some { block := g, off := 0 }), Value.slice A xs.length c,
        Value.func (Fn.func 132) #[] #[Value.pointer (some { block := s + 1 + 1 + 1 + 1 + 1 + 1, off := 0 }), Value.pointer (some { block := s + 1 + 1 + 1 + 1 + 1 + 1 + 1, off := 0 })], .int .i64 (y.1 : Int), .slice y.2.1 y.2.2.length y.2.2.length, undef, undef, undef, undef, undef, undef, undef, undef, undef, undef, undef, undef, undef, undef, undef, undef, undef, undef, undef, undef, undef, undef, undef, undef, undef, undef], defers := [] }) ?_ ?_ ?_
 ·rintro pre W W' ⟨D, sm, hv, hr, ht, hf⟩ hk
  exact ⟨D, sm, hk.blk hv (fun h => by omega), zic hr hk, ht, hf.trans hk (fun k h => .inr h.1)⟩
 ·rintro pre x W W' ⟨h1, h2, h3, h4, h5⟩ hk
  exact ⟨h1, h2, zic h3 hk, h4, h5⟩
 ·intro l pre y W K hr hK
  clear hr
  subst hs
  rw [show zoX y = #[.int .i64 (y.1 : Int), .slice y.2.1 y.2.2.length y.2.2.length] from rfl, zlw]
  gi_wp2
  exact hK
 ·rintro l pre ⟨k, X, p⟩ W hsz ⟨D, sm, hv, hr, ht, hf⟩ ⟨hlt, rfl, hX, hbas, hpl⟩
  dsimp only at hX hbas hpl ⊢
  obtain ⟨m, hm⟩ : ∃ m, m = pre.length := ⟨_, rfl⟩
  rw [← hm] at hlt ht hbas ⊢
  have hfw := (Fr.of_below HB.out (fun j => j = s + 1 + 1 + 1 + 1 + 1)).trans' hf
  obtain ⟨adx, hAe, hcx⟩ := Jc HX.out hfw (fun j hj => by omega) m hlt
  obtain ⟨ady, hBe, hcy⟩ := Jc HY.out hfw (fun j hj => by omega) m hlt
  subst hAe
  subst hBe
  obtain ⟨x, hx⟩ : ∃ x, x = xs.getD m 0 := ⟨_, rfl⟩
  obtain ⟨y, hy⟩ : ∃ y, y = ys.getD m 0 := ⟨_, rfl⟩
  rw [← hx] at hcx
  rw [← hy] at hcy
  have c0 : W.cell? ⟨s, 0, none⟩ = some (.pointer (some ⟨g, 0, none⟩)) := zh (hf.blk b0 (by omega)) rfl
  have c1 : W.cell? ⟨s + 1, 0, none⟩ = some (.slice (some adx) xs.length c) := zh (hf.blk b1 (by omega)) rfl
  have c2 : W.cell? ⟨s + 1 + 1, 0, none⟩ = some (.slice (some ady) xs.length d) := zh (hf.blk b2 (by omega)) rfl
  have c5 : W.cell? ⟨s + 1 + 1 + 1 + 1 + 1, 0, none⟩ = some (.slice D sm.length sm.length) := zh hv rfl
  have hFW : Fld W g := HF2.out.fr hf (by omega)
  have hne : ev p x ≠ 0 := by rw [hx]; exact hbas.2.2
  have k0 : ∀ n : Zj W, n.w.cell? ⟨s, 0, none⟩ = some (.pointer (some ⟨g, 0, none⟩)) := fun n => (Fr.of_below n.below (fun _ => False)).cell c0 (fun h => h)
  have k1 : ∀ n : Zj W, n.w.cell? ⟨s + 1, 0, none⟩ = some (.slice (some adx) xs.length c) := fun n => (Fr.of_below n.below (fun _ => False)).cell c1 (fun h => h)
  have k2 : ∀ n : Zj W, n.w.cell? ⟨s + 1 + 1, 0, none⟩ = some (.slice (some ady) xs.length d) := fun n => (Fr.of_below n.below (fun _ => False)).cell c2 (fun h => h)
  have k3 : ∀ n : Zj W, n.w.cell? (adx.add m) = some (.int .u8 (x.v : Int)) := fun n => (Fr.of_below n.below (fun _ => False)).cell hcx (fun h => h)
  have k4 : ∀ n : Zj W, n.w.cell? (ady.add m) = some (.int .u8 (y.v : Int)) := fun n => (Fr.of_below n.below (fun _ => False)).cell hcy (fun h => h)
  have HE : za (∀ n : Zj W, Calls Try.prog 122 #[.pointer (some ⟨g, 0, none⟩), .slice X p.length p.length, .int .u8 (x.v : Int)] n.w fun e w'' => e = .returned (.int .u8 ((ev p x).v : Int)) ∧ ∃ m : Zj W, w'' = m.w) :=
   ⟨fun n => ziJ ((zhd n.w g X p.length p.length p x (hFW.fr (Fr.of_below n.below (fun _ => False)) (fun h => h)) (Kd.C_below hX.1 n.below) (by omega)).mono (fun _ _ ⟨he, hf⟩ => ⟨he, hf.below (Nat.le_refl _) (fun _ h => h.elim)⟩))⟩
  have HD : za (∀ n : Zj W, Calls Try.prog 33 #[.pointer (some ⟨g, 0, none⟩), .int .u8 (y.v : Int), .int .u8 ((ev p x).v : Int)] n.w fun e w'' => e = .returned (.tuple #[.int .u8 ((y * (ev p x).inv).v : Int), .bool true]) ∧ ∃ m : Zj W, w'' = m.w) :=
   ⟨fun n => zhH (DivF n.w g y (ev p x) (hFW.fr (Fr.of_below n.below (fun _ => False)) (fun h => h)) hne)⟩
  have hmI : (m : Int) < (xs.length : Int) := by omega
  have HS := za.mk (show ∀ q, Eqv q (zB p [y * (ev p x).inv]) → zaI xs ys (zj (zW sm q)) (m + 1) from fun q hq => zcm ht hlt hbas (by rw [← hx, ← hy]; exact hq))
  have HSL := za.mk ht.2.1
  obtain ⟨z, hz⟩ : ∃ z, z = y * (ev p x).inv := ⟨_, rfl⟩
  obtain ⟨e, he⟩ : ∃ e, e = ev p x := ⟨_, rfl⟩
  rw [← hz] at HD HS
  rw [← he] at HE HD
  have HM := za.mk hm
  have HP := za.mk (And.intro hX hpl)
  have HR := za.mk hr
  have HFr := za.mk hf
  have HV := za.mk hv
  have HFW := za.mk hFW
  have HSS := za.mk hs
  clear hs hx hy hz he hm hX hpl hr hf hfw hv hFW hne hbas ht hsz a4 a5 a6 a7 b0 b1 b2 b3 hcx hcy
  have mixed : Try.prog.follows .mixedOrders = true := by kernel_rfl
  gi_wp2
  refine zbv (C := fun w' => ∃ n : Zj W, w' = n.w) l mixed (by kernel_rfl) (by kernel_rfl) ⟨⟨_, yf (Below.refl _ W)⟩, rfl⟩ ?_
  repeat (first | go_big_quiet_skip | (go_big_quiet_want; go_big_quiet_op; first | go_big_quiet_on | (apply Exists.intro; refine ⟨fun t => ?_, ?_⟩; (first | (go_at_call 122; exact HE.out t) | (go_at_call 33; exact HD.out t)); go_big_quiet_on)))
  refine wpQuiet_nil ?_
  rintro _ ⟨t, rfl⟩
  have q0 := k0 t
  have q8 : t.w.cell? ⟨s + 1 + 1 + 1 + 1 + 1, 0, none⟩ = some (.slice D sm.length sm.length) := (Fr.of_below t.below (fun _ => False)).cell c5 (fun h => h)
  have HT := za.mk t.below
  obtain ⟨V, hV⟩ : ∃ V, V = t.w := ⟨_, rfl⟩
  rw [← hV] at q0 q8 HT ⊢
  have q9 : (V.alloc (Obj.cells #[.int .u8 (z.v : Int)] 5)).cell? ⟨s, 0, none⟩ = some (.pointer (some ⟨g, 0, none⟩)) := (Fr.of_below (zc (Below.refl _ V) _) (fun _ => False)).cell q0 (fun h => h)
  have q10 : (V.alloc (Obj.cells #[.int .u8 (z.v : Int)] 5)).cell? ⟨s + 1 + 1 + 1 + 1 + 1, 0, none⟩ = some (.slice D sm.length sm.length) := (Fr.of_below (zc (Below.refl _ V) _) (fun _ => False)).cell q8 (fun h => h)
  obtain ⟨V1, hV1⟩ : ∃ V1, V1 = (V.alloc (Obj.cells #[.int .u8 (z.v : Int)] 5)) := ⟨_, rfl⟩
  have hbV : Below V.heap.size V V1.drew := by rw [hV1]; exact yf (zc (Below.refl _ V) _)
  have hbWV : Below W.heap.size W V1.drew := HT.out.trans (hbV.mono HT.out.size)
  have HMU : za (Calls Try.prog 87 #[.pointer (some ⟨g, 0, none⟩), .slice X p.length p.length, .slice (some ⟨V.heap.size, 0, none⟩) 1 1] V1.drew fun e w' => ∃ D, e = .returned (.slice D (zj (zB p [z])).length (zj (zB p [z])).length) ∧ RF w' V1.drew.heap.size D (zj (zB p [z])) ∧ Fr (fun _ => False) V1.drew w') :=
   ⟨zbM V1.drew g X (some ⟨V.heap.size, 0, none⟩) p.length 1 p.length 1 p [z] (HFW.out.fr (Fr.of_below hbWV (fun _ => False)) (fun h => h)) (Kd.C_below HP.out.1.1 hbWV)
     (by rw [hV1]; exact R_C (jo (Zr V V.heap.size (fun _ => True) [z] (by simp) (Nat.le_refl _) trivial) ((Fr.refl (fun _ => False) _).drew) (fun _ _ _ _ h => h))) (by have := HP.out.2; omega)⟩
  have hb5 : V1.drew.heap[s + 1 + 1 + 1 + 1 + 1]? = some (.cells #[.slice D sm.length sm.length] 36 (0, 0)) := (Fr.of_below hbWV (fun _ => False)).blk HV.out (fun h => h)
  have hsz : w2.heap.size ≤ W.heap.size := HFr.out.size
  have hml : (zj (zB p [z])).length ≤ xs.length := yR (fun i hi => yZ p [z] xs.length 1 (fun j hj => zJ _ _ (by have := HP.out.2; omega)) (fun j hj => zJ _ _ (by simp only [List.length_cons, List.length_nil]; omega)) i (by omega) (by omega))
  have HAD : za (∀ M W3, RF W3 V1.drew.heap.size M (zj (zB p [z])) → Fr (fun _ => False) V1.drew W3 → W3.cell? ⟨s + 1 + 1 + 1 + 1 + 1, 0, none⟩ = some (.slice D sm.length sm.length) ∧
   Calls Try.prog 86 #[.slice D sm.length sm.length, .slice M (zj (zB p [z])).length (zj (zB p [z])).length] W3 fun e w' => ∃ E, e = .returned (.slice E (zj (zW sm (zj (zB p [z])))).length (zj (zW sm (zj (zB p [z])))).length) ∧
    w'.cell? ⟨s + 1 + 1 + 1 + 1 + 1, 0, none⟩ = some (.slice D sm.length sm.length) ∧ w'.frozen? ⟨s + 1 + 1 + 1 + 1 + 1, 0, none⟩ = false ∧
    ∀ v', v' = w'.setCell ⟨s + 1 + 1 + 1 + 1 + 1, 0, none⟩ (.slice E (zj (zW sm (zj (zB p [z])))).length (zj (zW sm (zj (zB p [z])))).length) → Fr (fun j => j = s + 1 + 1 + 1 + 1 + 1) W v' ∧ ThrI xs ys w2 (s + 1 + 1 + 1 + 1 + 1) (pre ++ [(m, X, p)]) v') := ⟨fun M W3 hM hf3 => by
   have hb3 := hf3.blk hb5 (fun h => h)
   have hf0 : Fr (fun _ => False) W W3 := (Fr.of_below hbWV (fun _ => False)).trans' hf3
   have hD3 : RF W3 w2.heap.size D sm := zan HR.out hf0 (fun _ _ _ h => h)
   refine ⟨zh hb3 rfl, (zfS W3 D M sm.length (zj (zB p [z])).length sm.length (zj (zB p [z])).length sm (zj (zB p [z])) hD3.1 hM.1 (by have := HSL.out; omega) (by omega)).mono ?_⟩
   rintro e W4 ⟨E, rfl, hE, hf4⟩
   have hb4 := hf4.blk hb3 (fun h => h)
   refine ⟨E, rfl, zh hb4 rfl, yV hb4, ?_⟩
   rintro v' rfl
   have hf5 : Fr (fun j => j = s + 1 + 1 + 1 + 1 + 1) W W4 := (hf0.trans' hf4).mono (fun _ h => h.elim)
   have hf6 : Fr (fun j => j = s + 1 + 1 + 1 + 1 + 1) W (W4.setCell ⟨s + 1 + 1 + 1 + 1 + 1, 0, none⟩ (.slice E (zj (zW sm (zj (zB p [z])))).length (zj (zW sm (zj (zB p [z])))).length)) := hf5.set_ (p := ⟨s + 1 + 1 + 1 + 1 + 1, 0, none⟩) (.inl rfl) _
   refine ⟨hf6, E, _, zab hb4 0 _, ?_, ?_, HFr.out.trans' hf6⟩
   ·have h1 : RF W4 W3.heap.size E (zj (zW sm (zj (zB p [z])))) := hE
    have h3 : w2.heap.size ≤ W3.heap.size := Nat.le_trans hsz hf0.size
    exact yr (zan h1 ((Fr.refl (fun j => j = s + 1 + 1 + 1 + 1 + 1) W4).set_ (p := ⟨s + 1 + 1 + 1 + 1 + 1, 0, none⟩) (.inl rfl) _) (fun j hj _ he => by omega)) h3
   rw [List.length_append, ← HM.out]
   exact HS.out _ (zY _)⟩
  rw [hV1] at HMU HAD
  clear hV k0 k1 k2 k3 k4 c0 c1 c2 c5 HE HD hV1 hbV hbWV hb5 hsz hml
  gi_wp2
  refine jy l mixed rfl (by kernel_rfl) ?_
  repeat' (first
   | exact AllReadyIn.nil
   | refine wpAnyIn_done (by decide +kernel) ?_ _
   | (refine wpAnyIn_take (i := 2) (v := ?_) rfl rfl (by kernel_rfl) (by decide +kernel) (by decide +kernel) (fun _ _ _ h => h) ⟨Or.inl ⟨by rfl, ?_⟩, fun _ => rfl⟩ ?_; rotate_left 1; focus (intro w; go_simp; (try with_reducible rfl); done))
   | (refine wpAnyIn_take (i := 3) (v := ?_) rfl rfl (by kernel_rfl) (by decide +kernel) (by decide +kernel) (fun _ _ _ h => h) ⟨Or.inl ⟨by rfl, ?_⟩, fun _ => rfl⟩ ?_; rotate_left 1; focus (intro w; go_simp; (try with_reducible rfl); done))
   | refine wpAnyIn_ready (rs := [0, 1, 4]) (by decide +kernel) (by simp) ?_
   | refine wpAnyIn_ready (rs := [0, 1]) (by decide +kernel) (by simp) ?_
   | refine wpAnyIn_ready (rs := [0, 4]) (by decide +kernel) (by simp) ?_
   | refine wpAnyIn_ready (rs := [1, 4]) (by decide +kernel) (by simp) ?_
   | refine wpAnyIn_ready (rs := [0]) (by decide +kernel) (by simp) ?_
   | refine wpAnyIn_ready (rs := [1]) (by decide +kernel) (by simp) ?_
   | refine wpAnyIn_ready (rs := [4]) (by decide +kernel) (by simp) ?_
   | refine wpAnyIn_ready (rs := [0, 5]) (by decide +kernel) (by simp) ?_
   | refine wpAnyIn_ready (rs := [5]) (by decide +kernel) (by simp) ?_
   | refine wpAnyIn_ready (rs := [6]) (by decide +kernel) (by simp) ?_
   | refine wpAnyIn_ready (rs := [7]) (by decide +kernel) (by simp) ?_
   | refine AllReadyIn.cons rfl (fun K hK => ?_) ?_
   | (rw [if_pos (by rfl)]; go_simp; refine ⟨trivial, ?_⟩; gi_at_call 87; refine (callsIn_wide.2 HMU.out).mono ?_; rintro e W3 ⟨M, rfl, hM, hf3⟩; obtain ⟨q11, hA⟩ := HAD.out M W3 hM hf3; replace hA := za.mk hA; clear hM hf3; go_simp; refine hK _ _ ?_; clear hK K)
   | (rw [if_pos (by rfl)]; go_simp; refine ⟨trivial, ?_⟩; gi_at_call 86; refine (callsIn_wide.2 hA.out).mono ?_; rintro e W4 ⟨E, rfl, q12, q13, hfin⟩; replace hfin := za.mk hfin; clear hA; go_simp; refine hK _ _ ?_; clear hK K)
   | (go_simp; refine hK _ _ ?_; clear hK K))
  all_goals (gi_wp2; exact hfin.out _ rfl)
 rintro zs W hzs ⟨D, sm, hv, hr, ht, hf⟩ hK
 have HT := za.mk (zen ht hzs)
 have c5 : W.cell? ⟨s + 1 + 1 + 1 + 1 + 1, 0, none⟩ = some (.slice D sm.length sm.length) := zh hv rfl
 have h3 := hf.blk b3 (by omega)
 have h4 := hf.blk a4 (by omega)
 have c3 : W.cell? ⟨s + 1 + 1 + 1, 0, none⟩ = some (.slice none 0 0) := zh h3 rfl
 have z3 : W.frozen? ⟨s + 1 + 1 + 1, 0, none⟩ = false := yV h3
 have c4 : W.cell? ⟨s + 1 + 1 + 1 + 1, 0, none⟩ = some (.bool false) := zh h4 rfl
 have z4 : W.frozen? ⟨s + 1 + 1 + 1 + 1, 0, none⟩ = false := yV h4
 have hn34 : s + 1 + 1 + 1 ≠ s + 1 + 1 + 1 + 1 := by omega
 have HFW := za.mk ((Fr.of_below HB.out (fun j => j = s + 1 + 1 + 1 + 1 + 1)).trans' hf)
 obtain ⟨K, hKK⟩ : ∃ K, K = w2.heap.size := ⟨_, rfl⟩
 have HR := za.mk (yr hr (show w.heap.size ≤ w2.heap.size by omega))
 have HKB := za.mk (show w.heap.size ≤ s + 1 + 1 + 1 by omega)
 have HKS := za.mk hr
 rw [← hKK] at hK hz4
 rw [hKK] at hz4
 have HSS := za.mk hs
 have HZ4 := za.mk hz4
 have hf' := hf
 clear hs hz4 hr ht hf hv a4 a5 a6 a7 b0 b1 b2 b3
 rw [← hKK]
 have HKK := za.mk hKK
 clear hKK
 gi_wp2
 obtain ⟨Wf, hWf⟩ : ∃ Wf, Wf = ((W.setCell ⟨s + 1 + 1 + 1, 0, none⟩ (Value.slice D sm.length sm.length)).setCell ⟨s + 1 + 1 + 1 + 1, 0, none⟩ (Value.bool true)) := ⟨_, rfl⟩
 have hWf' : ((W.setCell ⟨s + 1 + 1 + 1, 0, none⟩ (Value.slice D sm.length sm.length)).setCell ⟨s + 1 + 1 + 1 + 1, 0, none⟩ (Value.bool true)) = Wf := hWf.symm
 rw [hWf']
 have hf2 : Fr (fun j => j = s + 1 + 1 + 1 ∨ j = s + 1 + 1 + 1 + 1) W Wf := by
  rw [hWf]
  exact ((Fr.refl _ W).set_ (p := ⟨s + 1 + 1 + 1, 0, none⟩) (.inl (.inl rfl)) _).set_ (p := ⟨s + 1 + 1 + 1 + 1, 0, none⟩) (.inl (.inr rfl)) _
 have hKf := hf2.blk hK (by have := HZ4.out; have := HKK.out; omega)
 refine ⟨by simp, .inl ⟨_, _, rfl, run_takeDeferred hKf, ?_⟩⟩
 have hcf3 : Wf.heap[s + 1 + 1 + 1]? = some (.cells #[.slice D sm.length sm.length] 36 (0, 0)) := by
  rw [hWf]
  exact ((Fr.refl (fun j => j = s + 1 + 1 + 1 + 1) _).set_ (p := ⟨s + 1 + 1 + 1 + 1, 0, none⟩) (.inl rfl) _).blk (zab h3 0 _) (by omega)
 have hcf4 : Wf.heap[s + 1 + 1 + 1 + 1]? = some (.cells #[.bool true] 4 (0, 0)) := by
  rw [hWf]
  exact zab (((Fr.refl (fun j => j = s + 1 + 1 + 1) W).set_ (p := ⟨s + 1 + 1 + 1, 0, none⟩) (.inl rfl) _).blk h4 (by omega)) 0 _
 have hKne : K = s + 1 + 1 + 1 + 1 + 1 + 1 + 1 + 1 := by have := HZ4.out; have := HKK.out; omega
 refine ⟨.tuple #[.slice D sm.length sm.length, .bool true], zeS rfl _ _ _ rfl rfl (zoM (zh ((World.putObj_heap_other (by omega)).trans hcf3) rfl)) (zpT (zh ((World.putObj_heap_other (by omega)).trans hcf4) rfl)), D, sm, rfl, ?_, HT.out, ?_⟩
 ·have h5 := zan HKS.out hf2 (fun j hj _ h => by have := HZ4.out; omega)
  have h6 := zic (b0 := 0) h5 (w1 := Wf.putObj K (Obj.deferred none)) ⟨rfl, rfl, rfl, by simp, fun k _ hk => World.putObj_heap_other (fun e => hk (by subst e; exact ⟨by omega, _, hKf, rfl⟩))⟩
  exact yr h6 (by have := HZ4.out; have := HSS.out; omega)
 have h1 : Fr (fun _ => False) w W := (Fr.of_below HB.out _).trans hf' (fun k hk => .inr (by have := HSS.out; omega))
 exact (h1.trans hf2 (fun k hk => .inr (by have := HSS.out; omega))).trans (JM Wf K _) (fun k hk => .inr (by have := HSS.out; omega))
end Go.Proofs.Ytpeiejkcoadhfaa
namespace Go.Proofs.Ytpeiejkcoadhfaa
open Go.RowKit Go.Shelf Go.Proofs.YtpeiejkcoadhfaaW.PrintWords Go.Proofs.YtpeiejkcoadhfaaW.PrintMore
theorem zjn {P : Program} (t e : TypeId) (z : Value) (bytes : Nat) (ht : P.underlying t = some (.slice e)) (hinfo : (P.info? e).map (fun i => (i.zero, i.size, i.bytes)) = some (some z, 1, bytes)) (hz : z.cells = #[z]) (hb : bytes ≤ 1024) (k : Nat) (hk : k ≤ 274877906944) (W : World) :
 (Instr.makeSlice t (.int .i64 0) (.int .i64 (k : Int))).run P W = .ok (.slice (some ⟨W.heap.size, 0, none⟩) 0 k) (W.alloc (.cells (Array.replicate k z) e)) := by
 obtain ⟨i0, hi, hz0, hz1, hz2⟩ := info_parts hinfo
 have hr := run_make (P := P) W t e i0 _ ht hi hz0 .i64 .i64 (0 : Int) (k : Int) (by omega) (by omega) (by rw [hz2]; have := Nat.mul_le_mul hb hk; rw [← Int.natCast_mul]; omega) (by omega)
 simp only [Int.toNat_natCast] at hr
 rw [hz1] at hr
 have hzc : madeCells (Value.cells z) (k * 1) = Array.replicate k z := by
  rw [hz]
  apply Array.ext
  ·simp [madeCells]
  intro i h1 h2
  simp [madeCells, Nat.mod_one]
 rw [hzc] at hr
 exact hr
theorem zdA {α : Type} {enc : α → Value} {h1 : ∀ x, (enc x).oneCell' = true} (W : World) (base e k : Nat) (z : Value) (hk : k ≤ 1099511627776) (hb : base ≤ W.heap.size) : Kd.R (Kd.scalar enc h1) e (W.alloc (.cells (Array.replicate k z) e)) base (fun _ => True) (.slice (some ⟨W.heap.size, 0, none⟩) 0 k) ([] : List α) := by
 refine Kd.R_of_own ?_ (fun j _ => trivial)
 exact ⟨by simp [encs], .inr ⟨W.heap.size, k, Array.replicate k z, by simp, hb, yw _ _, by simp, by simp only [maxLen]; omega, by simp, by simp [encs]⟩⟩
theorem zii {P : Program} {α : Type} (enc : α → Value) (d0 : α) {h1 : ∀ x, (enc x).oneCell' = true} (W w : World) (t e : TypeId) (z : Value) (bytes : Nat) (ht : P.underlying t = some (.slice e))
 (hinfo : (P.info? e).map (fun i => (i.zero, i.size, i.bytes)) = some (some z, 1, bytes)) (hzs : z.cells.size = 1) {v : Value} {xs : List α} (h : Kd.R (Kd.scalar enc h1) e W w.heap.size (fun _ => True) v xs) (hb : Below w.heap.size w W) (x : α)
 (hn : (xs.length + 1) * bytes ≤ 140737488355328) (hb0 : 0 < bytes) :
 ∃ B d W', (Builtin.append_ #[t, t] t #[v, .slice (some ⟨W.heap.size, 0, none⟩) 1 1]).run P (W.alloc (.cells #[enc x] e)) = .ok (.slice B (xs.length + 1) d) W' ∧ Kd.R (Kd.scalar enc h1) e W' w.heap.size (fun _ => True) (.slice B (xs.length + 1) d) (xs ++ [x]) ∧ Below w.heap.size w W' := by
 have hlit : Kd.R (Kd.scalar enc h1) e (W.alloc (.cells #[enc x] e)) W.heap.size (fun _ => True) (.slice (some ⟨W.heap.size, 0, none⟩) 1 1) [x] :=
  Kd.R_of_own (yA W W.heap.size e [x] (Nat.le_refl _) (by simp)) (fun _ _ => trivial)
 have hb1 : Below W.heap.size W (W.alloc (.cells #[enc x] e)) := zc (Below.refl _ _) _
 have h2 := jo h (Fr.of_below hb1 (fun _ => False)) (fun _ _ _ _ h => h)
 have hbb : Below w.heap.size w (W.alloc (.cells #[enc x] e)) := hb.trans (hb1.mono hb.size)
 obtain ⟨v', W', hrun, hR, hg, hat⟩ := zR (P := P) enc d0 (W.alloc (.cells #[enc x] e)) w.heap.size t t e z bytes ht hinfo hzs (ys := [x]) (c := 1) h2 (R_C hlit) hn hb0 hbb.size (fun _ _ => trivial)
 obtain ⟨B, d, rfl⟩ := Kd.R_slice hR
 rw [List.length_append] at hrun hR
 exact ⟨B, d, W', hrun, hR, hbb.grown hg hbb.size (fun i hi => Kd.R_base h2 i hi)⟩
theorem zdV {P : Program} {α : Type} (enc : α → Value) (d0 : α) {h1 : ∀ x, (enc x).oneCell' = true} (wr w : World) (t e : TypeId) (z : Value) (bytes : Nat) (ht : P.underlying t = some (.slice e))
 (hinfo : (P.info? e).map (fun i => (i.zero, i.size, i.bytes)) = some (some z, 1, bytes)) (hzs : z.cells.size = 1) {v : Value} {xs : List α} (h : Kd.R (Kd.scalar enc h1) e wr w.heap.size (fun _ => True) v xs) (hb : Below w.heap.size w wr) (x : α) (k : Nat) (ys : List α) (hk : xs.length = k) (hys : ys = xs ++ [x])
 (hn : (k + 1) * bytes ≤ 140737488355328) (hb0 : 0 < bytes) : za (∀ W, Below wr.heap.size wr W →
 ∃ B d W', (Builtin.append_ #[t, t] t #[v, .slice (some ⟨W.heap.size, 0, none⟩) 1 1]).run P (W.alloc (.cells #[enc x] e)) = .ok (.slice B (k + 1) d) W' ∧ za (Kd.R (Kd.scalar enc h1) e W' w.heap.size (fun _ => True) (.slice B (k + 1) d) ys) ∧ za (Below w.heap.size w W')) := ⟨fun W hW => by
 subst hk
 subst hys
 obtain ⟨B, d, W', h1, h2, h3⟩ := zii (P := P) enc d0 (h1 := h1) W w t e z bytes ht hinfo hzs (jo h (Fr.of_below hW (fun _ => False)) (fun _ _ _ _ h => h)) (hb.trans (hW.mono hb.size)) x hn hb0
 exact ⟨B, d, W', h1, ⟨h2⟩, ⟨h3⟩⟩⟩
def zks (n : Nat) : Value := .int .i64 (n : Int)
abbrev kn : Kd Nat := Kd.scalar zks (fun _ => rfl)
theorem zeJ : (Try.prog.info? 3).map (fun i => (i.zero, i.size, i.bytes)) = some (some (.int .i64 0), 1, 8) := by kernel_rfl
def zv (N T K E Rm : Int) : Value := .agg #[.int .i64 N, .int .i64 T, .int .i64 K, .int .i64 E, .int .i64 Rm]
set_option maxRecDepth 100000 in
set_option maxHeartbeats 800000 in
theorem zne (w : World) (N : Nat) (T K E Rm : Int) (hN : N ≤ 1000) :
 Calls Try.prog 124 #[zv N T K E Rm] w fun e w' => ∃ B d, e = .returned (.slice B N d) ∧ Kd.R kn 3 w' w.heap.size (fun _ => True) (.slice B N d) (List.range N) ∧ Below w.heap.size w w' := by
 have hmk := fun W : World => zjn (P := Try.prog) 50 3 (.int .i64 0) 8 Try.underlying50 zeJ rfl (by omega) N (by omega) W
 unfold zv
 have hu48 := Try.underlying48
 go_enter Try.func124, Try.ntmps124
 go_wp2
 have HR0 := za.mk (zdA (enc := zks) (h1 := fun _ => rfl) (w.alloc (Obj.cells #[Value.int IntKind.i64 ↑N, Value.int IntKind.i64 T, Value.int IntKind.i64 K, Value.int IntKind.i64 E, Value.int IntKind.i64 Rm] 48)) w.heap.size 3 N (.int .i64 0) (by omega) (by simp))
 have hb0 : Below w.heap.size w (w.alloc (Obj.cells #[Value.int IntKind.i64 ↑N, Value.int IntKind.i64 T, Value.int IntKind.i64 K, Value.int IntKind.i64 E, Value.int IntKind.i64 Rm] 48)) := zc (Below.refl _ _) _
 have HB0 := za.mk (zc hb0 (Obj.cells (Array.replicate N (Value.int IntKind.i64 0)) 3))
 clear hb0 hmk
 go_loopw [3, 10] (fun v3 v10 wr => ∃ (k d : Nat) (B : Option Addr), k ≤ N ∧ v10 = .int .i64 k ∧ v3 = .slice B k d ∧ za (Kd.R kn 3 wr w.heap.size (fun _ => True) (.slice B k d) (List.range k)) ∧ za (Below w.heap.size w wr)) (fun _ v10 _ => N - (intOf v10).toNat)
 case atStart => exact ⟨0, N, _, by omega, rfl, rfl, ⟨by simpa using HR0.out⟩, HB0⟩
 clear HR0 HB0
 obtain ⟨k, d, B, hk, rfl, rfl, HR, HB⟩ := hrel
 by_cases hlt : k < N
 ·obtain ⟨B', d', W', hrun, hR', hb'⟩ := zii (P := Try.prog) zks 0 (h1 := fun _ => rfl) wr w 50 3 (.int .i64 0) 8 Try.underlying50 zeJ rfl HR.out HB.out k (by rw [List.length_range]; omega) (by omega)
  rw [List.length_range] at hrun hR'
  rw [← List.range_succ] at hR'
  have HR' := za.mk hR'
  have HB' := za.mk hb'
  have HX := za.mk hrun
  clear hrun hR' hb'
  go_wp2_with (at_builtin; refine zm rfl _ _ _ _ rfl rfl rfl HX.out ?_)
  go_roundw
  case rel => exact ⟨k + 1, d', B', by omega, by go_num, rfl, HR', HB'⟩
  simp [intOf]; omega
 obtain rfl : k = N := by omega
 go_wp2
 go_ret
 exact ⟨B, d, rfl, HR.out, HB.out⟩
def ptF (h : Nat) : F := ⟨(h % 256 + 1) % 256, Nat.mod_lt _ (by decide)⟩
theorem zjx (h : Nat) : ((ptF h).v : Int) = ((h : Int) % 256 + 1) % 256 := by
 show (((h % 256 + 1) % 256 : Nat) : Int) = _
 omega
theorem zaO (w : World) (h : Nat) : Calls Try.prog 81 #[.int .i64 (h : Int)] w fun e w' => e = .returned (.int .u8 ((ptF h).v : Int)) ∧ zq w w' := by
 rw [zjx]
 exact PDealPoints.deal_Point.calls _ _ w rfl
theorem zoB {w wr : World} {A : Option Addr} {n : Nat} {p : List Nat} {S : Nat → Prop} (h : Kd.C kn w A n p) (hf : Fr S w wr) (hS : ∀ j, S j → w.heap.size ≤ j) (k : Nat) (hk : k < n) : ∃ ad, A = some ad ∧ wr.cell? (ad.add k) = some (.int .i64 ((p.getD k 0 : Nat) : Int)) := by
 obtain ⟨ad, e, hc⟩ := (Kd.reads_of_C (enc := zks) (d := (0 : Nat)) (h1 := fun _ => rfl) h).2.2 (by omega)
 refine ⟨ad, e, hf.cell (hc k hk) (fun hb => ?_)⟩
 have h1 := World.block_lt_of_cell? w _ (hc k hk)
 have := hS _ hb
 omega
theorem zK {α : Type} (d : α) (l : List α) (k : Nat) (h : k < l.length) : l.take (k + 1) = l.take k ++ [l.getD k d] := by
 rw [List.take_add_one, List.getElem?_eq_getElem h, List.getD_eq_getElem?_getD, List.getElem?_eq_getElem h]
 rfl
theorem Zv {α β : Type} (f : α → β) (d : α) (l : List α) (k : Nat) (h : k < l.length) : (l.take (k + 1)).map f = (l.take k).map f ++ [f (l.getD k d)] := by
 rw [zK d l k h, List.map_append, List.map_singleton]
set_option maxRecDepth 100000 in
set_option maxHeartbeats 800000 in
theorem zdH (w : World) (N T K E Rm : Int) (A : Option Addr) (n c : Nat) (hs : List Nat) (hC : Kd.C kn w A n hs) (hn : n ≤ 274877906944) :
 Calls Try.prog 45 #[zv N T K E Rm, .slice A n c] w fun e w' => ∃ B d, e = .returned (.slice B n d) ∧ Kd.R fk 5 w' w.heap.size (fun _ => True) (.slice B n d) (hs.map ptF) ∧ Below w.heap.size w w' := by
 have hmk := fun W : World => zjn (P := Try.prog) 36 5 (.int .u8 0) 1 Try.underlying36 yJ rfl (by omega) n (by omega) W
 have HCL := za.mk (Kd.C_len hC)
 have HC := za.mk hC
 unfold zv
 have hu48 := Try.underlying48
 clear hC
 go_enter Try.func45, Try.ntmps45
 go_wp2
 have HR0 := za.mk (zdA (enc := zZ) (h1 := fun _ => rfl) (w.alloc (Obj.cells #[Value.int IntKind.i64 N, Value.int IntKind.i64 T, Value.int IntKind.i64 K, Value.int IntKind.i64 E, Value.int IntKind.i64 Rm] 48)) w.heap.size 5 n (.int .u8 0) (by omega) (by simp))
 have hb0 : Below w.heap.size w (w.alloc (Obj.cells #[Value.int IntKind.i64 N, Value.int IntKind.i64 T, Value.int IntKind.i64 K, Value.int IntKind.i64 E, Value.int IntKind.i64 Rm] 48)) := zc (Below.refl _ _) _
 have HB0 := za.mk (zc hb0 (Obj.cells (Array.replicate n (Value.int IntKind.u8 0)) 5))
 clear hb0 hmk
 go_loopw [5, 13] (fun v5 v13 wr => ∃ (k d : Nat) (B : Option Addr), k ≤ n ∧ v13 = .int .i64 k ∧ v5 = .slice B k d ∧ za (Kd.R fk 5 wr w.heap.size (fun _ => True) (.slice B k d) ((hs.take k).map ptF)) ∧ za (Below w.heap.size w wr)) (fun _ v13 _ => n - (intOf v13).toNat)
 case atStart => exact ⟨0, n, _, by omega, rfl, rfl, ⟨by simpa using HR0.out⟩, HB0⟩
 clear HR0 HB0
 obtain ⟨k, d, B, hk, rfl, rfl, HR, HB⟩ := hrel
 by_cases hlt : k < n
 ·obtain ⟨ad, rfl, hcell⟩ := zoB HC.out (Fr.of_below HB.out (fun _ => False)) (fun _ h => h.elim) k hlt
  have HSN := za.mk (Zv ptF 0 hs k (by rw [HCL.out]; exact hlt))
  obtain ⟨m, hm⟩ : ∃ m, m = hs.getD k 0 := ⟨_, rfl⟩
  rw [← hm] at hcell HSN
  clear hm
  have HP := za.mk (fun W => zaO W m)
  obtain ⟨x, hx⟩ : ∃ x, x = ptF m := ⟨_, rfl⟩
  rw [← hx] at HP HSN
  clear hx
  have HPU := zdV (P := Try.prog) zZ 0 (h1 := fun _ => rfl) wr w 36 5 (.int .u8 0) 1 Try.underlying36 yJ rfl HR.out HB.out x k _ (by rw [List.length_map, List.length_take, HCL.out]; omega) HSN.out (by omega) (by omega)
  go_wp2_with (first | (go_at_call 81; refine (HP.out _).mono ?_; rintro e W1 ⟨rfl, hd⟩; obtain ⟨B', d', W', hX, HR', HB'⟩ := HPU.out W1 hd.below; unfold zZ at hX; replace hX := za.mk hX; clear hd) | (at_builtin; refine zm rfl _ _ _ _ rfl rfl rfl hX.out ?_))
  go_roundw
  case rel => exact ⟨k + 1, d', B', by omega, by go_num, rfl, HR', HB'⟩
  simp [intOf]; omega
 obtain rfl : k = n := by omega
 go_wp2
 go_ret
 have e : hs.take k = hs := List.take_of_length_le (by rw [HCL.out]; exact Nat.le_refl _)
 have h2 := HR.out
 rw [e] at h2
 exact ⟨B, d, rfl, h2, HB.out⟩
def zN (N K : Nat) : List F := (List.range K).map fun n => ptF (N + n)
theorem zfl (N K : Nat) : zN N (K + 1) = zN N K ++ [ptF (N + K)] := by simp [zN, List.range_succ]
theorem zH (N K : Nat) : (zN N K).length = K := by simp [zN]
set_option maxRecDepth 100000 in
set_option maxHeartbeats 800000 in
theorem Zz (w : World) (N K : Nat) (T E Rm : Int) (hN : N ≤ 1000) (hK : K ≤ 1000) :
 Calls Try.prog 47 #[zv N T K E Rm] w fun e w' => ∃ B d, e = .returned (.slice B K d) ∧ Kd.R fk 5 w' w.heap.size (fun _ => True) (.slice B K d) (zN N K) ∧ Below w.heap.size w w' := by
 have hmk := fun W : World => zjn (P := Try.prog) 36 5 (.int .u8 0) 1 Try.underlying36 yJ rfl (by omega) K (by omega) W
 unfold zv
 have hu48 := Try.underlying48
 go_enter Try.func47, Try.ntmps47
 go_wp2
 obtain ⟨w1, hw1⟩ : ∃ w1, w1 = (w.alloc (Obj.cells #[Value.int IntKind.i64 N, Value.int IntKind.i64 T, Value.int IntKind.i64 K, Value.int IntKind.i64 E, Value.int IntKind.i64 Rm] 48)) := ⟨_, rfl⟩
 have hb0 : Below w.heap.size w w1 := by rw [hw1]; exact zc (Below.refl _ _) _
 have hz1 : w1.heap.size = w.heap.size + 1 := by rw [hw1]; simp
 have hg1 : w1.heap[w.heap.size]? = some (Obj.cells #[Value.int IntKind.i64 N, Value.int IntKind.i64 T, Value.int IntKind.i64 K, Value.int IntKind.i64 E, Value.int IntKind.i64 Rm] 48) := by rw [hw1]; exact yw _ _
 have hR0 := zdA (enc := zZ) (h1 := fun _ => rfl) w1 w1.heap.size 5 K (.int .u8 0) (by omega) (Nat.le_refl _)
 rw [hz1] at hR0
 have HR0 := za.mk hR0
 have HB0 := za.mk (zc (Below.refl w1.heap.size w1) (Obj.cells (Array.replicate K (Value.int IntKind.u8 0)) 5))
 obtain ⟨s, hs⟩ : ∃ s, s = w.heap.size := ⟨_, rfl⟩
 rw [← hw1]
 rw [← hs] at hg1 hz1 HR0 ⊢
 rw [← hz1] at HR0
 have HG1 := za.mk hg1
 have HS := za.mk hs
 have HZ1 := za.mk hz1
 have HBW := za.mk hb0
 clear hw1 hb0 hmk hg1 hR0 hs hz1
 go_loopw [3, 10] (fun v3 v10 wr => ∃ (k d : Nat) (B : Option Addr), k ≤ K ∧ v10 = .int .i64 k ∧ v3 = .slice B k d ∧ za (Kd.R fk 5 wr w1.heap.size (fun _ => True) (.slice B k d) (zN N k)) ∧ za (Below w1.heap.size w1 wr)) (fun _ v10 _ => K - (intOf v10).toNat)
 case atStart => exact ⟨0, K, _, by omega, rfl, rfl, ⟨by simpa [zN, HZ1.out] using HR0.out⟩, HB0⟩
 clear HR0 HB0
 obtain ⟨k, d, B, hk, rfl, rfl, HR, HB⟩ := hrel
 by_cases hlt : k < K
 ·have c0 : wr.cell? ⟨s, 0, none⟩ = some (.int .i64 (N : Int)) := zh (zl HG1.out HB.out) rfl
  have hw : IntKind.i64.wrap ((N : Int) + (k : Int)) = ((N + k : Nat) : Int) := by
   rw [IntWalk.i64_in _ ⟨by omega, by omega⟩]; omega
  have HSN := za.mk (zfl N k)
  have HP := za.mk (fun W => zaO W (N + k))
  obtain ⟨x, hx⟩ : ∃ x, x = ptF (N + k) := ⟨_, rfl⟩
  rw [← hx] at HP HSN
  clear hx
  have HPU := zdV (P := Try.prog) zZ 0 (h1 := fun _ => rfl) wr w1 36 5 (.int .u8 0) 1 Try.underlying36 yJ rfl HR.out HB.out x k _ (zH N k) HSN.out (by omega) (by omega)
  go_wp2_with (first | (go_at_call 81; refine (HP.out _).mono ?_; rintro e W1 ⟨rfl, hd⟩; obtain ⟨B', d', W', hX, HR', HB'⟩ := HPU.out W1 hd.below; unfold zZ at hX; replace hX := za.mk hX; clear hd) | (at_builtin; refine zm rfl _ _ _ _ rfl rfl rfl hX.out ?_))
  go_roundw
  case rel => exact ⟨k + 1, d', B', by omega, by go_num, rfl, HR', HB'⟩
  simp [intOf]; omega
 obtain rfl : k = K := by omega
 go_wp2
 go_ret
 exact ⟨B, d, rfl, Kd.R_lower HR.out HBW.out.size, HBW.out.trans (HB.out.mono HBW.out.size)⟩
set_option maxRecDepth 100000 in
set_option maxHeartbeats 800000 in
theorem zio (w : World) (g : Nat) (A X : Option Addr) (n c m cx : Nat) (p xs : List F) (hF : Fld w g) (hp : Kd.C fk w A n p) (hx : Kd.C fk w X m xs) (hn : n ≤ 1099511627776) (hm : m ≤ 1000) :
 Calls Try.prog 125 #[.pointer (some ⟨g, 0, none⟩), .slice A n c, .slice X m cx] w fun e w' => ∃ B d, e = .returned (.slice B m d) ∧ Kd.R fk 5 w' w.heap.size (fun _ => True) (.slice B m d) (xs.map (ev p)) ∧ Below w.heap.size w w' := by
 have hmk := fun W : World => zjn (P := Try.prog) 36 5 (.int .u8 0) 1 Try.underlying36 yJ rfl (by omega) m (by omega) W
 have HCL := za.mk (Kd.C_len hx)
 have HC := za.mk hx
 have HP := za.mk hp
 have HF := za.mk hF
 clear hx hp hF
 have HR0 := za.mk (zdA (enc := zZ) (h1 := fun _ => rfl) w w.heap.size 5 m (.int .u8 0) (by omega) (Nat.le_refl _))
 have HB0 := za.mk (zc (Below.refl w.heap.size w) (Obj.cells (Array.replicate m (Value.int IntKind.u8 0)) 5))
 go_enter Try.func125, Try.ntmps125
 go_wp2
 clear hmk
 go_loopw [7, 15] (fun v7 v15 wr => ∃ (k d : Nat) (B : Option Addr), k ≤ m ∧ v15 = .int .i64 k ∧ v7 = .slice B k d ∧ za (Kd.R fk 5 wr w.heap.size (fun _ => True) (.slice B k d) ((xs.take k).map (ev p))) ∧ za (Below w.heap.size w wr)) (fun _ v15 _ => m - (intOf v15).toNat)
 case atStart => exact ⟨0, m, _, by omega, rfl, rfl, ⟨by simpa using HR0.out⟩, HB0⟩
 clear HR0 HB0
 obtain ⟨k, d, B, hk, rfl, rfl, HR, HB⟩ := hrel
 by_cases hlt : k < m
 ·obtain ⟨ad, rfl, hcell⟩ := Jc HC.out (Fr.of_below HB.out (fun _ => False)) (fun _ h => h.elim) k hlt
  have HSN := za.mk (Zv (ev p) 0 xs k (by rw [HCL.out]; exact hlt))
  obtain ⟨y, hy⟩ : ∃ y, y = xs.getD k 0 := ⟨_, rfl⟩
  rw [← hy] at hcell HSN
  clear hy
  have HE := za.mk (zhd wr g A n c p y (HF.out.fr (Fr.of_below HB.out (fun _ => False)) (fun h => h)) (Kd.C_below HP.out HB.out) hn)
  obtain ⟨x, hx⟩ : ∃ x, x = ev p y := ⟨_, rfl⟩
  rw [← hx] at HE HSN
  clear hx
  have HPU := zdV (P := Try.prog) zZ 0 (h1 := fun _ => rfl) wr w 36 5 (.int .u8 0) 1 Try.underlying36 yJ rfl HR.out HB.out x k _ (by rw [List.length_map, List.length_take, HCL.out]; omega) HSN.out (by omega) (by omega)
  go_wp2_with (first | (go_at_call 122; refine HE.out.mono ?_; rintro e W1 ⟨rfl, hd⟩; obtain ⟨B', d', W', hX, HR', HB'⟩ := HPU.out W1 (hd.below (Nat.le_refl _) (fun _ h => h.elim)); unfold zZ at hX; replace hX := za.mk hX; clear hd) | (at_builtin; refine zm rfl _ _ _ _ rfl rfl rfl hX.out ?_))
  go_roundw
  case rel => exact ⟨k + 1, d', B', by omega, by go_num, rfl, HR', HB'⟩
  simp [intOf]; omega
 obtain rfl : k = m := by omega
 go_wp2
 go_ret
 have e : xs.take k = xs := List.take_of_length_le (by rw [HCL.out]; exact Nat.le_refl _)
 have h2 := HR.out
 rw [e] at h2
 exact ⟨B, d, rfl, h2, HB.out⟩
end Go.Proofs.Ytpeiejkcoadhfaa
