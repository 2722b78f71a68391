/- What the view's laws take, Vt19: QRound, PzT, PzG. -/
import Derived.Test.YtpeiejkcoadhfaaVt05
import Derived.Test.YtpeiejkcoadhfaaVt16
import Derived.Test.YtpeiejkcoadhfaaVt17
import Derived.Test.YtpeiejkcoadhfaaVt18
import Derived.Deep.Quiet
import Derived.RangeFuncCalls
set_option linter.all false
namespace Go.Proofs.Ytpeiejkcoadhfaa
open Go.RowKit Go.Shelf
section
variable {P : Program} {ops : Array Oper} {md : Region.Mode} {C : World → Prop}
theorem opIn_of_quiet {o : Oper} {a : Act} {K : Act → Prop} {K' : Act → World → Prop} {Q : Exit → Act → World → Prop} {w : World} {n : Nat} (l : Nat) (hp : plainOp o = true) (hw : C w) (h : ∀ a w', C w' → K a → K' a w') (hh : o.quiet P a C K) :
    o.wpIn (Fence.wide.inRound l) n P a w K' Q := by
  obtain ⟨v, h1, h2⟩ := hh
  have h3 := h1 w hw
  unfold Oper.quietAt at h3
  refine ⟨fun _ _ => trivial, ?_⟩
  rw [Fence.inRound_round, Oper.semAt_some l _ o (plainOp_spec hp)]
  generalize (execOp a.eval o).run P w = r at *
  cases r with
  | ok x w' =>
    cases x <;> simp only [Oper.quietUpon] at h3 <;> simp only [Oper.uponIn]
    case value u => rw [h3.1, h3.2]; exact h _ _ hw h2
    case skip => rw [h3.1, ← h3.2]; exact h _ _ hw h2
    case enter f args =>
      rw [h3.1]
      refine ⟨fun hd => ?_, (CallsIn.inRound l (callsIn_wide.2 h3.2)).mono fun e w'' ⟨he, hw''⟩ => by subst he; exact h _ _ hw'' h2⟩
      simp [Fence.wide] at hd
  | halt x w' => simp only [Oper.quietUpon] at h3
theorem wpOpIn_of_qOp {i : Nat} {a : Act} {K : Act → Prop} {K' : Act → World → Prop} {Q : Exit → Act → World → Prop} {w : World} {n : Nat} (l : Nat) (hp : ∀ (i : Nat) (o : Oper), ops[i]? = some o → plainOp o = true) (hC : C w) (h : ∀ a w', C w' → K a → K' a w') (hh : qOp P ops C i K a) :
    wpOpIn (Fence.wide.inRound l) n P ops Q i K' a w := by
  unfold qOp at hh
  unfold wpOpIn
  cases ho : ops[i]? with
  | none => simp only [ho] at hh ⊢; exact h _ _ hC hh
  | some o =>
    simp only [ho] at hh ⊢
    split
    · rename_i hw; simp only [hw, if_true] at hh; exact opIn_of_quiet l (hp i o ho) hC h hh
    · rename_i hw; simp only [hw] at hh; exact ⟨fun _ _ => trivial, h _ _ hC hh⟩
theorem wpAnyIn_of_quiet {R : Act → Prop} {Q : Exit → Act → World → Prop} {n : Nat} (l : Nat) (hp : ∀ (i : Nat) (o : Oper), ops[i]? = some o → plainOp o = true) (hQ : ∀ a w, C w → R a → Q .normal a w) : ∀ (fuel : Nat) (done : Array Bool) (a : Act) (w : World), C w →
    wpAnyQ P md ops C R fuel done a → wpAnyIn (Fence.wide.inRound l) n P md ops Q fuel done a w
  | 0, _, _, _, hw, h => ⟨h.1, hQ _ _ hw h.2⟩
  | fuel + 1, _, _, _, hw, h => ⟨fun h0 => hQ _ _ hw (h.1 h0), fun i hi => wpOpIn_of_qOp l hp hw (fun a' w' hw' => wpAnyIn_of_quiet l hp hQ fuel _ a' w' hw') (h.2 i hi)⟩
theorem region_round_quiet {id n : Nat} {Q : Exit → Act → World → Prop} {a : Act} {w : World} {ol : List Oper} (l : Nat) (hm : P.follows .mixedOrders = true) (hp : ol.toArray.all plainOp = true) (hB : Region.lexB .any ol.toArray = true) (hC : C w.drew)
    (h : wpQuiet P ol.toArray C (fun a' => ∀ w', C w' → Q .normal a' w') ol a) : (Code.region id ol.toArray true).wpIn (Fence.wide.inRound l) n P Q a w := by
  simp only [Region.lexB, Bool.and_eq_true] at hB
  refine wpIn_region_any hm (wpAnyIn_of_quiet (R := fun a' => ∀ w', C w' → Q .normal a' w') l (fun i o ho => ?_) (fun _ w' hw' h => h w' hw') _ _ _ _ hC ?_)
  · rw [Array.all_eq_true] at hp
    obtain ⟨hi, rfl⟩ := Array.getElem?_eq_some_iff.1 ho
    exact hp i hi
  · have := wpAnyQ_lex (C := C) (md := .any) hB.1 ol 0 (Array.replicate ol.toArray.size false) a (by simp) (by simpa using hB.2) h
    simpa using this
end
end Go.Proofs.Ytpeiejkcoadhfaa
namespace Go.Proofs.Ytpeiejkcoadhfaa
open Go.RowKit Go.Shelf Go.Proofs.YtpeiejkcoadhfaaW.PrintWords Go.Proofs.YtpeiejkcoadhfaaW.PrintMore
open Go.BigFrame
attribute [local go_sem] Oper.semAt_some
theorem others_any (w : World) (v u : Value) (hv : v.oneCell' = true) (hu : u.oneCell' = true) : Calls Try.prog 121 #[v, u] w fun e w' => e = .returned (.func (.func 132) #[] #[.pointer (some ⟨w.heap.size, 0, none⟩), .pointer (some ⟨w.heap.size + 1, 0, none⟩)]) ∧ w' = (w.alloc (.cells #[v] 23)).alloc (.cells #[u] 36) := by
  go_enter Try.func121, Try.ntmps121
  go_wp2
  go_ret
  exact ⟨rfl, rfl⟩
theorem RF_abd {w w1 : World} {base b0 : Nat} {B : Option Addr} {q : List F} (h : RF w base B q) (hf : Fr (fun k => b0 ≤ k ∧ ∃ o, w.heap[k]? = some o ∧ o.isCells = false) w w1) : RF w1 base B q := by
  have hn : 0 < q.length → ∀ j, OB B j → ¬ (b0 ≤ j ∧ ∃ o, w.heap[j]? = some o ∧ o.isCells = false) := fun hp j hj ⟨_, o, ho, hc⟩ => by
    obtain ⟨_, cells, h2⟩ := h.2 hp j hj
    rw [h2] at ho
    injection ho with ho
    rw [← ho] at hc
    simp [Obj.isCells] at hc
  refine ⟨C_fr' h.1 hf (fun j hj hp => hn hp j hj), fun hp j hj => ?_⟩
  obtain ⟨h1, cells, h2⟩ := h.2 hp j hj
  exact ⟨h1, cells, hf.blk h2 (hn hp j hj)⟩
theorem RF_nil (w : World) (base : Nat) : RF w base none [] := ⟨Kd.C_nil _ _, fun h => absurd h (by simp)⟩
theorem DivF (w : World) (g : Nat) (a b : F) (hF : Fld w g) (hb : b ≠ 0) : Calls Try.prog 33 #[.pointer (some ⟨g, 0, none⟩), .int .u8 (a.v : Int), .int .u8 (b.v : Int)] w fun e w' => e = .returned (.tuple #[.int .u8 ((a * b.inv).v : Int), .bool true]) ∧ Drawn0 w w' := by
  have h := Div_any w g a.v b.v hF a.lt b.lt
  have hd : decide (b.v ≠ 0) = true := by
    rw [decide_eq_true_eq]
    intro e
    exact hb (F.ext e)
  rw [hd] at h
  exact h
def ThrI (xs ys : List F) (w2 : World) (o : Nat) (pre : List Oth) (W : World) : Prop := ∃ D sm, W.heap[o]? = some (.cells #[.slice D sm.length sm.length] 36 (0, 0)) ∧ RF W w2.heap.size D sm ∧ ThruTo xs ys sm pre.length ∧ Fr (fun k => k = o) w2 W
set_option maxRecDepth 100000 in
set_option maxHeartbeats 1600000 in
theorem Through_any (w : World) (g : Nat) (A B : Option Addr) (n c d : Nat) (xs ys : List F) (hF : Fld w g) (hx : Kd.C fk w A n xs) (hy : Kd.C fk w B n ys) (hl : n ≤ 1000) (hu : Unl xs) :
    Calls Try.prog 85 #[.pointer (some ⟨g, 0, none⟩), .slice A n c, .slice B n d] w fun e w' => ∃ D s, e = .returned (.tuple #[.slice D s.length s.length, .bool true]) ∧ RF w' w.heap.size D s ∧ Thru xs ys s ∧ Fr (fun _ => False) w w' := by
  obtain rfl : xs.length = n := Kd.C_len hx
  have HYL := Aside0.mk (Kd.C_len hy)
  have HX := Aside0.mk hx
  have HY := Aside0.mk hy
  have HF := Aside0.mk hF
  have HU := Aside0.mk hu
  clear hx hy hF hu
  refine (callsIn_wide (n := 3)).1 (callsIn_of_wp_marks Try.func85 rfl trivial ?_ rfl)
  simp only [Try.ntmps85, List.size_toArray, List.length_cons, List.length_nil, Nat.reduceAdd, Nat.reduceSub, Array.replicate_succ, Array.replicate_zero, List.push_toArray, List.append_toArray, List.nil_append, List.cons_append]
  gi_wp2_with (refine ⟨trivial, ?_⟩; gi_at_call 121; refine (callsIn_wide.2 (others_any _ _ _ rfl rfl)).mono ?_; rintro e W' ⟨rfl, rfl⟩)
  obtain ⟨w1, hw1, hz1, a0, a1, a2, a3, hb1⟩ := heap4 w (Obj.cells #[Value.pointer (some { block := g, off := 0 })] 23) (Obj.cells #[Value.slice A xs.length c] 36) (Obj.cells #[Value.slice B xs.length d] 36) (Obj.cells #[Value.slice none 0 0] 36)
  obtain ⟨w2, hw2, hz2, a4, a5, a6, a7, hb2⟩ := heap4 w1 (Obj.cells #[Value.bool false] 4) (Obj.cells #[Value.slice none 0 0] 36) (Obj.cells #[Value.pointer (some { block := g, off := 0 })] 23) (Obj.cells #[Value.slice A xs.length c] 36)
  rw [← hw1, ← hw2]
  clear hw1 hw2
  have hAs : ∀ (C : Option Addr) (p : List F), Kd.C fk w C xs.length p → ∀ j, OB C j → 0 < xs.length → j < w.heap.size := fun C p hC j hj hn => by
    obtain ⟨ad, e, rfl⟩ := hj
    obtain ⟨ad', e', hc⟩ := (Kd.reads_of_C (enc := encF) (d := (0 : F)) (h1 := fun _ => rfl) hC).2.2 hn
    rw [e] at e'
    injection e' with e'
    subst e'
    have h1 := World.block_lt_of_cell? w _ (hc 0 hn)
    rwa [add_zero'] at h1
  have hA1 := hAs A xs HX.out
  have hgs : g < w.heap.size := fld_lt HF.out
  have hbw : Below w.heap.size w w2 := hb1.trans (hb2.mono (by omega))
  have HB := Aside0.mk hbw
  have HF2 := Aside0.mk (HF.out.fr (Fr.of_below hbw (fun _ => False)) (fun h => h))
  have HX2 := Aside0.mk (Kd.C_below HX.out hbw)
  have HY2 := Aside0.mk (Kd.C_below HY.out hbw)
  have HYB := Aside0.mk (hAs B ys HY.out)
  obtain ⟨s, hs⟩ : ∃ s, s = w.heap.size := ⟨_, rfl⟩
  have hz3 : w1.heap.size = s + 1 + 1 + 1 + 1 := by omega
  have hz4 : w2.heap.size = s + 1 + 1 + 1 + 1 + 1 + 1 + 1 + 1 := by omega
  rw [hz3] at a4 a5 a6 a7
  rw [← hs] at a0 a1 a2 a3 hgs hA1 ⊢
  have b0 := blk_below a0 hb2
  have b1 := blk_below a1 hb2
  have b2 := blk_below a2 hb2
  have b3 := blk_below a3 hb2
  clear a0 a1 a2 a3 hz1 hz2 hb1 hb2 hz3 hAs hbw
  refine range_g (P := Try.prog) (gf := 132) (lb := #[.pointer (some ⟨s + 1 + 1 + 1 + 1 + 1 + 1, 0, none⟩), .pointer (some ⟨s + 1 + 1 + 1 + 1 + 1 + 1 + 1, 0, none⟩)]) rfl (fun _ _ => rfl) (encs := encO) (Rel := RelO xs w2.heap.size) (S := fun j => j = s + 1 + 1 + 1 + 1 + 1) (Full := fun ys => ys.length = xs.length)
    (others_seq _ w2 (s + 1 + 1 + 1 + 1 + 1 + 1) (s + 1 + 1 + 1 + 1 + 1 + 1 + 1) g A xs.length c xs HF2.out HX2.out hl HU.out (fun j hj => by omega) (by omega) (fun j hj hn => by have := hA1 j hj hn; omega) a6 a7 (by omega) (by omega)) (fun _ => by rfl) (fun j hj => by omega)
    (ThrI xs ys w2 (s + 1 + 1 + 1 + 1 + 1)) ?_ ?_ ⟨none, [], a5, RF_nil _ _, thru_start _ _, Fr.refl _ _⟩
    (fun y => { tmps := #[Value.pointer (some { block := g, off := 0 }), Value.slice A xs.length c, Value.slice B xs.length d, Value.pointer (some { block := s, off := 0 }), Value.pointer (some { block := s + 1, off := 0 }), Value.pointer (some { block := s + 1 + 1, off := 0 }), Value.pointer (some { block := s + 1 + 1 + 1, off := 0 }), Value.pointer (some { block := s + 1 + 1 + 1 + 1, off := 0 }), Value.pointer (some { block := s + 1 + 1 + 1 + 1 + 1, off := 0 }),
          .int .i64 (y.1 : Int), .slice y.2.1 y.2.2.length y.2.2.length, undef, undef, Value.slice A xs.length c, Value.int IntKind.i64 xs.length, Value.slice B xs.length d,
          Value.int IntKind.i64 xs.length, Value.bool false, Value.pointer (some { block := g, off := 0 }), Value.slice A xs.length c,
          Value.func (Fn.func 132) #[] #[Value.pointer (some { block := s + 1 + 1 + 1 + 1 + 1 + 1, off := 0 }), Value.pointer (some { block := s + 1 + 1 + 1 + 1 + 1 + 1 + 1, off := 0 })], .int .i64 (y.1 : Int), .slice y.2.1 y.2.2.length y.2.2.length, undef, undef, undef, undef, undef, undef, undef, undef, undef, undef, undef, undef, undef, undef, undef, undef, undef, undef, undef, undef, undef, undef, undef, undef, undef, undef], defers := [] }) ?_ ?_ ?_
  · rintro pre W W' ⟨D, sm, hv, hr, ht, hf⟩ hk
    exact ⟨D, sm, hk.blk hv (fun h => by omega), RF_abd hr hk, ht, hf.trans hk (fun k h => .inr h.1)⟩
  · rintro pre x W W' ⟨h1, h2, h3, h4, h5⟩ hk
    exact ⟨h1, h2, RF_abd h3 hk, h4, h5⟩
  · intro l pre y W K hr hK
    clear hr
    subst hs
    rw [show encO y = #[.int .i64 (y.1 : Int), .slice y.2.1 y.2.2.length y.2.2.length] from rfl, zip2]
    gi_wp2
    exact hK
  · rintro l pre ⟨k, X, p⟩ W hsz ⟨D, sm, hv, hr, ht, hf⟩ ⟨hlt, rfl, hX, hbas, hpl⟩
    dsimp only at hX hbas hpl ⊢
    obtain ⟨m, hm⟩ : ∃ m, m = pre.length := ⟨_, rfl⟩
    rw [← hm] at hlt ht hbas ⊢
    have hfw := (Fr.of_below HB.out (fun j => j = s + 1 + 1 + 1 + 1 + 1)).trans' hf
    obtain ⟨adx, hAe, hcx⟩ := C_at HX.out hfw (fun j hj => by omega) m hlt
    obtain ⟨ady, hBe, hcy⟩ := C_at HY.out hfw (fun j hj => by omega) m hlt
    subst hAe
    subst hBe
    obtain ⟨x, hx⟩ : ∃ x, x = xs.getD m 0 := ⟨_, rfl⟩
    obtain ⟨y, hy⟩ : ∃ y, y = ys.getD m 0 := ⟨_, rfl⟩
    rw [← hx] at hcx
    rw [← hy] at hcy
    have c0 : W.cell? ⟨s, 0, none⟩ = some (.pointer (some ⟨g, 0, none⟩)) := cell_at (hf.blk b0 (by omega)) rfl
    have c1 : W.cell? ⟨s + 1, 0, none⟩ = some (.slice (some adx) xs.length c) := cell_at (hf.blk b1 (by omega)) rfl
    have c2 : W.cell? ⟨s + 1 + 1, 0, none⟩ = some (.slice (some ady) xs.length d) := cell_at (hf.blk b2 (by omega)) rfl
    have c5 : W.cell? ⟨s + 1 + 1 + 1 + 1 + 1, 0, none⟩ = some (.slice D sm.length sm.length) := cell_at hv rfl
    have hFW : Fld W g := HF2.out.fr hf (by omega)
    have hne : ev p x ≠ 0 := by rw [hx]; exact hbas.2.2
    have k0 : ∀ n : After W, n.w.cell? ⟨s, 0, none⟩ = some (.pointer (some ⟨g, 0, none⟩)) := fun n => (Fr.of_below n.below (fun _ => False)).cell c0 (fun h => h)
    have k1 : ∀ n : After W, n.w.cell? ⟨s + 1, 0, none⟩ = some (.slice (some adx) xs.length c) := fun n => (Fr.of_below n.below (fun _ => False)).cell c1 (fun h => h)
    have k2 : ∀ n : After W, n.w.cell? ⟨s + 1 + 1, 0, none⟩ = some (.slice (some ady) xs.length d) := fun n => (Fr.of_below n.below (fun _ => False)).cell c2 (fun h => h)
    have k3 : ∀ n : After W, n.w.cell? (adx.add m) = some (.int .u8 (x.v : Int)) := fun n => (Fr.of_below n.below (fun _ => False)).cell hcx (fun h => h)
    have k4 : ∀ n : After W, n.w.cell? (ady.add m) = some (.int .u8 (y.v : Int)) := fun n => (Fr.of_below n.below (fun _ => False)).cell hcy (fun h => h)
    have HE : Aside0 (∀ n : After W, Calls Try.prog 122 #[.pointer (some ⟨g, 0, none⟩), .slice X p.length p.length, .int .u8 (x.v : Int)] n.w fun e w'' => e = .returned (.int .u8 ((ev p x).v : Int)) ∧ ∃ m : After W, w'' = m.w) :=
      ⟨fun n => after_call ((Eval_any n.w g X p.length p.length p x (hFW.fr (Fr.of_below n.below (fun _ => False)) (fun h => h)) (Kd.C_below hX.1 n.below) (by omega)).mono (fun _ _ ⟨he, hf⟩ => ⟨he, hf.below (Nat.le_refl _) (fun _ h => h.elim)⟩))⟩
    have HD : Aside0 (∀ n : After W, Calls Try.prog 33 #[.pointer (some ⟨g, 0, none⟩), .int .u8 (y.v : Int), .int .u8 ((ev p x).v : Int)] n.w fun e w'' => e = .returned (.tuple #[.int .u8 ((y * (ev p x).inv).v : Int), .bool true]) ∧ ∃ m : After W, w'' = m.w) :=
      ⟨fun n => after_drawn (DivF n.w g y (ev p x) (hFW.fr (Fr.of_below n.below (fun _ => False)) (fun h => h)) hne)⟩
    have hmI : (m : Int) < (xs.length : Int) := by omega
    have HS := Aside0.mk (show ∀ q, Eqv q (mulP p [y * (ev p x).inv]) → ThruTo xs ys (trimP (addP sm q)) (m + 1) from fun q hq => thru_step ht hlt hbas (by rw [← hx, ← hy]; exact hq))
    have HSL := Aside0.mk ht.2.1
    obtain ⟨z, hz⟩ : ∃ z, z = y * (ev p x).inv := ⟨_, rfl⟩
    obtain ⟨e, he⟩ : ∃ e, e = ev p x := ⟨_, rfl⟩
    rw [← hz] at HD HS
    rw [← he] at HE HD
    have HM := Aside0.mk hm
    have HP := Aside0.mk (And.intro hX hpl)
    have HR := Aside0.mk hr
    have HFr := Aside0.mk hf
    have HV := Aside0.mk hv
    have HFW := Aside0.mk hFW
    have HSS := Aside0.mk hs
    clear hs hx hy hz he hm hX hpl hr hf hfw hv hFW hne hbas ht hsz a4 a5 a6 a7 b0 b1 b2 b3 hcx hcy
    have mixed : Try.prog.follows .mixedOrders = true := by kernel_rfl
    gi_wp2
    refine region_round_quiet (C := fun w' => ∃ n : After W, w' = n.w) l mixed (by kernel_rfl) (by kernel_rfl) ⟨⟨_, below_drew (Below.refl _ W)⟩, rfl⟩ ?_
    repeat (first | go_big_quiet_skip | (go_big_quiet_want; go_big_quiet_op; first | go_big_quiet_on | (apply Exists.intro; refine ⟨fun t => ?_, ?_⟩; (first | (go_at_call 122; exact HE.out t) | (go_at_call 33; exact HD.out t)); go_big_quiet_on)))
    refine wpQuiet_nil ?_
    rintro _ ⟨t, rfl⟩
    have q0 := k0 t
    have q8 : t.w.cell? ⟨s + 1 + 1 + 1 + 1 + 1, 0, none⟩ = some (.slice D sm.length sm.length) := (Fr.of_below t.below (fun _ => False)).cell c5 (fun h => h)
    have HT := Aside0.mk t.below
    obtain ⟨V, hV⟩ : ∃ V, V = t.w := ⟨_, rfl⟩
    rw [← hV] at q0 q8 HT ⊢
    have q9 : (V.alloc (Obj.cells #[.int .u8 (z.v : Int)] 5)).cell? ⟨s, 0, none⟩ = some (.pointer (some ⟨g, 0, none⟩)) := (Fr.of_below (below_alloc (Below.refl _ V) _) (fun _ => False)).cell q0 (fun h => h)
    have q10 : (V.alloc (Obj.cells #[.int .u8 (z.v : Int)] 5)).cell? ⟨s + 1 + 1 + 1 + 1 + 1, 0, none⟩ = some (.slice D sm.length sm.length) := (Fr.of_below (below_alloc (Below.refl _ V) _) (fun _ => False)).cell q8 (fun h => h)
    obtain ⟨V1, hV1⟩ : ∃ V1, V1 = (V.alloc (Obj.cells #[.int .u8 (z.v : Int)] 5)) := ⟨_, rfl⟩
    have hbV : Below V.heap.size V V1.drew := by rw [hV1]; exact below_drew (below_alloc (Below.refl _ V) _)
    have hbWV : Below W.heap.size W V1.drew := HT.out.trans (hbV.mono HT.out.size)
    have HMU : Aside0 (Calls Try.prog 87 #[.pointer (some ⟨g, 0, none⟩), .slice X p.length p.length, .slice (some ⟨V.heap.size, 0, none⟩) 1 1] V1.drew fun e w' => ∃ D, e = .returned (.slice D (trimP (mulP p [z])).length (trimP (mulP p [z])).length) ∧ RF w' V1.drew.heap.size D (trimP (mulP p [z])) ∧ Fr (fun _ => False) V1.drew w') :=
      ⟨MulP_any V1.drew g X (some ⟨V.heap.size, 0, none⟩) p.length 1 p.length 1 p [z] (HFW.out.fr (Fr.of_below hbWV (fun _ => False)) (fun h => h)) (Kd.C_below HP.out.1.1 hbWV)
        (by rw [hV1]; exact R_C (R_fr (R_litF V V.heap.size (fun _ => True) [z] (by simp) (Nat.le_refl _) trivial) ((Fr.refl (fun _ => False) _).drew) (fun _ _ _ _ h => h))) (by have := HP.out.2; omega)⟩
    have hb5 : V1.drew.heap[s + 1 + 1 + 1 + 1 + 1]? = some (.cells #[.slice D sm.length sm.length] 36 (0, 0)) := (Fr.of_below hbWV (fun _ => False)).blk HV.out (fun h => h)
    have hsz : w2.heap.size ≤ W.heap.size := HFr.out.size
    have hml : (trimP (mulP p [z])).length ≤ xs.length := trim_le (fun i hi => cf_mul_ge p [z] xs.length 1 (fun j hj => cf_ge _ _ (by have := HP.out.2; omega)) (fun j hj => cf_ge _ _ (by simp only [List.length_cons, List.length_nil]; omega)) i (by omega) (by omega))
    have HAD : Aside0 (∀ M W3, RF W3 V1.drew.heap.size M (trimP (mulP p [z])) → Fr (fun _ => False) V1.drew W3 → W3.cell? ⟨s + 1 + 1 + 1 + 1 + 1, 0, none⟩ = some (.slice D sm.length sm.length) ∧
        Calls Try.prog 86 #[.slice D sm.length sm.length, .slice M (trimP (mulP p [z])).length (trimP (mulP p [z])).length] W3 fun e w' => ∃ E, e = .returned (.slice E (trimP (addP sm (trimP (mulP p [z])))).length (trimP (addP sm (trimP (mulP p [z])))).length) ∧
          w'.cell? ⟨s + 1 + 1 + 1 + 1 + 1, 0, none⟩ = some (.slice D sm.length sm.length) ∧ w'.frozen? ⟨s + 1 + 1 + 1 + 1 + 1, 0, none⟩ = false ∧
          ∀ v', v' = w'.setCell ⟨s + 1 + 1 + 1 + 1 + 1, 0, none⟩ (.slice E (trimP (addP sm (trimP (mulP p [z])))).length (trimP (addP sm (trimP (mulP p [z])))).length) → Fr (fun j => j = s + 1 + 1 + 1 + 1 + 1) W v' ∧ ThrI xs ys w2 (s + 1 + 1 + 1 + 1 + 1) (pre ++ [(m, X, p)]) v') := ⟨fun M W3 hM hf3 => by
      have hb3 := hf3.blk hb5 (fun h => h)
      have hf0 : Fr (fun _ => False) W W3 := (Fr.of_below hbWV (fun _ => False)).trans' hf3
      have hD3 : RF W3 w2.heap.size D sm := RF_fr HR.out hf0 (fun _ _ _ h => h)
      refine ⟨cell_at hb3 rfl, (Add_any W3 D M sm.length (trimP (mulP p [z])).length sm.length (trimP (mulP p [z])).length sm (trimP (mulP p [z])) hD3.1 hM.1 (by have := HSL.out; omega) (by omega)).mono ?_⟩
      rintro e W4 ⟨E, rfl, hE, hf4⟩
      have hb4 := hf4.blk hb3 (fun h => h)
      refine ⟨E, rfl, cell_at hb4 rfl, frozen_at hb4, ?_⟩
      rintro v' rfl
      have hf5 : Fr (fun j => j = s + 1 + 1 + 1 + 1 + 1) W W4 := (hf0.trans' hf4).mono (fun _ h => h.elim)
      have hf6 : Fr (fun j => j = s + 1 + 1 + 1 + 1 + 1) W (W4.setCell ⟨s + 1 + 1 + 1 + 1 + 1, 0, none⟩ (.slice E (trimP (addP sm (trimP (mulP p [z])))).length (trimP (addP sm (trimP (mulP p [z])))).length)) := hf5.set_ (p := ⟨s + 1 + 1 + 1 + 1 + 1, 0, none⟩) (.inl rfl) _
      refine ⟨hf6, E, _, blk_set hb4 0 _, ?_, ?_, HFr.out.trans' hf6⟩
      · have h1 : RF W4 W3.heap.size E (trimP (addP sm (trimP (mulP p [z])))) := hE
        have h3 : w2.heap.size ≤ W3.heap.size := Nat.le_trans hsz hf0.size
        exact RF_lower (RF_fr h1 ((Fr.refl (fun j => j = s + 1 + 1 + 1 + 1 + 1) W4).set_ (p := ⟨s + 1 + 1 + 1 + 1 + 1, 0, none⟩) (.inl rfl) _) (fun j hj _ he => by omega)) h3
      · rw [List.length_append, ← HM.out]
        exact HS.out _ (cf_trim _)⟩
    rw [hV1] at HMU HAD
    clear hV k0 k1 k2 k3 k4 c0 c1 c2 c5 HE HD hV1 hbV hbWV hb5 hsz hml
    gi_wp2
    refine region_inRound l mixed rfl (by kernel_rfl) ?_
    repeat' (first
      | exact AllReadyIn.nil
      | refine wpAnyIn_done (by decide +kernel) ?_ _
      | (refine wpAnyIn_take (i := 2) (v := ?_) rfl rfl (by kernel_rfl) (by decide +kernel) (by decide +kernel) (fun _ _ _ h => h) ⟨Or.inl ⟨by rfl, ?_⟩, fun _ => rfl⟩ ?_; rotate_left 1; focus (intro w; go_simp; (try with_reducible rfl); done))
      | (refine wpAnyIn_take (i := 3) (v := ?_) rfl rfl (by kernel_rfl) (by decide +kernel) (by decide +kernel) (fun _ _ _ h => h) ⟨Or.inl ⟨by rfl, ?_⟩, fun _ => rfl⟩ ?_; rotate_left 1; focus (intro w; go_simp; (try with_reducible rfl); done))
      | refine wpAnyIn_ready (rs := [0, 1, 4]) (by decide +kernel) (by simp) ?_
      | refine wpAnyIn_ready (rs := [0, 1]) (by decide +kernel) (by simp) ?_
      | refine wpAnyIn_ready (rs := [0, 4]) (by decide +kernel) (by simp) ?_
      | refine wpAnyIn_ready (rs := [1, 4]) (by decide +kernel) (by simp) ?_
      | refine wpAnyIn_ready (rs := [0]) (by decide +kernel) (by simp) ?_
      | refine wpAnyIn_ready (rs := [1]) (by decide +kernel) (by simp) ?_
      | refine wpAnyIn_ready (rs := [4]) (by decide +kernel) (by simp) ?_
      | refine wpAnyIn_ready (rs := [0, 5]) (by decide +kernel) (by simp) ?_
      | refine wpAnyIn_ready (rs := [5]) (by decide +kernel) (by simp) ?_
      | refine wpAnyIn_ready (rs := [6]) (by decide +kernel) (by simp) ?_
      | refine wpAnyIn_ready (rs := [7]) (by decide +kernel) (by simp) ?_
      | refine AllReadyIn.cons rfl (fun K hK => ?_) ?_
      | (rw [if_pos (by rfl)]; go_simp; refine ⟨trivial, ?_⟩; gi_at_call 87; refine (callsIn_wide.2 HMU.out).mono ?_; rintro e W3 ⟨M, rfl, hM, hf3⟩; obtain ⟨q11, hA⟩ := HAD.out M W3 hM hf3; replace hA := Aside0.mk hA; clear hM hf3; go_simp; refine hK _ _ ?_; clear hK K)
      | (rw [if_pos (by rfl)]; go_simp; refine ⟨trivial, ?_⟩; gi_at_call 86; refine (callsIn_wide.2 hA.out).mono ?_; rintro e W4 ⟨E, rfl, q12, q13, hfin⟩; replace hfin := Aside0.mk hfin; clear hA; go_simp; refine hK _ _ ?_; clear hK K)
      | (go_simp; refine hK _ _ ?_; clear hK K))
    all_goals (gi_wp2; exact hfin.out _ rfl)
  · rintro zs W hzs ⟨D, sm, hv, hr, ht, hf⟩ hK
    have HT := Aside0.mk (thru_end ht hzs)
    have c5 : W.cell? ⟨s + 1 + 1 + 1 + 1 + 1, 0, none⟩ = some (.slice D sm.length sm.length) := cell_at hv rfl
    have h3 := hf.blk b3 (by omega)
    have h4 := hf.blk a4 (by omega)
    have c3 : W.cell? ⟨s + 1 + 1 + 1, 0, none⟩ = some (.slice none 0 0) := cell_at h3 rfl
    have z3 : W.frozen? ⟨s + 1 + 1 + 1, 0, none⟩ = false := frozen_at h3
    have c4 : W.cell? ⟨s + 1 + 1 + 1 + 1, 0, none⟩ = some (.bool false) := cell_at h4 rfl
    have z4 : W.frozen? ⟨s + 1 + 1 + 1 + 1, 0, none⟩ = false := frozen_at h4
    have hn34 : s + 1 + 1 + 1 ≠ s + 1 + 1 + 1 + 1 := by omega
    have HFW := Aside0.mk ((Fr.of_below HB.out (fun j => j = s + 1 + 1 + 1 + 1 + 1)).trans' hf)
    obtain ⟨K, hKK⟩ : ∃ K, K = w2.heap.size := ⟨_, rfl⟩
    have HR := Aside0.mk (RF_lower hr (show w.heap.size ≤ w2.heap.size by omega))
    have HKB := Aside0.mk (show w.heap.size ≤ s + 1 + 1 + 1 by omega)
    have HKS := Aside0.mk hr
    rw [← hKK] at hK hz4
    rw [hKK] at hz4
    have HSS := Aside0.mk hs
    have HZ4 := Aside0.mk hz4
    have hf' := hf
    clear hs hz4 hr ht hf hv a4 a5 a6 a7 b0 b1 b2 b3
    rw [← hKK]
    have HKK := Aside0.mk hKK
    clear hKK
    gi_wp2
    obtain ⟨Wf, hWf⟩ : ∃ Wf, Wf = ((W.setCell ⟨s + 1 + 1 + 1, 0, none⟩ (Value.slice D sm.length sm.length)).setCell ⟨s + 1 + 1 + 1 + 1, 0, none⟩ (Value.bool true)) := ⟨_, rfl⟩
    have hWf' : ((W.setCell ⟨s + 1 + 1 + 1, 0, none⟩ (Value.slice D sm.length sm.length)).setCell ⟨s + 1 + 1 + 1 + 1, 0, none⟩ (Value.bool true)) = Wf := hWf.symm
    rw [hWf']
    have hf2 : Fr (fun j => j = s + 1 + 1 + 1 ∨ j = s + 1 + 1 + 1 + 1) W Wf := by
      rw [hWf]
      exact ((Fr.refl _ W).set_ (p := ⟨s + 1 + 1 + 1, 0, none⟩) (.inl (.inl rfl)) _).set_ (p := ⟨s + 1 + 1 + 1 + 1, 0, none⟩) (.inl (.inr rfl)) _
    have hKf := hf2.blk hK (by have := HZ4.out; have := HKK.out; omega)
    refine ⟨by simp, .inl ⟨_, _, rfl, run_takeDeferred hKf, ?_⟩⟩
    have hcf3 : Wf.heap[s + 1 + 1 + 1]? = some (.cells #[.slice D sm.length sm.length] 36 (0, 0)) := by
      rw [hWf]
      exact ((Fr.refl (fun j => j = s + 1 + 1 + 1 + 1) _).set_ (p := ⟨s + 1 + 1 + 1 + 1, 0, none⟩) (.inl rfl) _).blk (blk_set h3 0 _) (by omega)
    have hcf4 : Wf.heap[s + 1 + 1 + 1 + 1]? = some (.cells #[.bool true] 4 (0, 0)) := by
      rw [hWf]
      exact blk_set (((Fr.refl (fun j => j = s + 1 + 1 + 1) W).set_ (p := ⟨s + 1 + 1 + 1, 0, none⟩) (.inl rfl) _).blk h4 (by omega)) 0 _
    have hKne : K = s + 1 + 1 + 1 + 1 + 1 + 1 + 1 + 1 := by have := HZ4.out; have := HKK.out; omega
    refine ⟨.tuple #[.slice D sm.length sm.length, .bool true], results_cell2 rfl _ _ _ rfl rfl (load36 (cell_at ((World.putObj_heap_other (by omega)).trans hcf3) rfl)) (load4 (cell_at ((World.putObj_heap_other (by omega)).trans hcf4) rfl)), D, sm, rfl, ?_, HT.out, ?_⟩
    · have h5 := RF_fr HKS.out hf2 (fun j hj _ h => by have := HZ4.out; omega)
      have h6 := RF_abd (b0 := 0) h5 (w1 := Wf.putObj K (Obj.deferred none)) ⟨rfl, rfl, rfl, by simp, fun k _ hk => World.putObj_heap_other (fun e => hk (by subst e; exact ⟨by omega, _, hKf, rfl⟩))⟩
      exact RF_lower h6 (by have := HZ4.out; have := HSS.out; omega)
    · have h1 : Fr (fun _ => False) w W := (Fr.of_below HB.out _).trans hf' (fun k hk => .inr (by have := HSS.out; omega))
      exact (h1.trans hf2 (fun k hk => .inr (by have := HSS.out; omega))).trans (fr_shut Wf K _) (fun k hk => .inr (by have := HSS.out; omega))
end Go.Proofs.Ytpeiejkcoadhfaa
namespace Go.Proofs.Ytpeiejkcoadhfaa
open Go.RowKit Go.Shelf Go.Proofs.YtpeiejkcoadhfaaW.PrintWords Go.Proofs.YtpeiejkcoadhfaaW.PrintMore
theorem make0 {P : Program} (t e : TypeId) (z : Value) (bytes : Nat) (ht : P.underlying t = some (.slice e)) (hinfo : (P.info? e).map (fun i => (i.zero, i.size, i.bytes)) = some (some z, 1, bytes)) (hz : z.cells = #[z]) (hb : bytes ≤ 1024) (k : Nat) (hk : k ≤ 274877906944) (W : World) :
    (Instr.makeSlice t (.int .i64 0) (.int .i64 (k : Int))).run P W = .ok (.slice (some ⟨W.heap.size, 0, none⟩) 0 k) (W.alloc (.cells (Array.replicate k z) e)) := by
  obtain ⟨i0, hi, hz0, hz1, hz2⟩ := info_parts hinfo
  have hr := run_make (P := P) W t e i0 _ ht hi hz0 .i64 .i64 (0 : Int) (k : Int) (by omega) (by omega) (by rw [hz2]; have := Nat.mul_le_mul hb hk; rw [← Int.natCast_mul]; omega) (by omega)
  simp only [Int.toNat_natCast] at hr
  rw [hz1] at hr
  have hzc : madeCells (Value.cells z) (k * 1) = Array.replicate k z := by
    rw [hz]
    apply Array.ext
    · simp [madeCells]
    · intro i h1 h2
      simp [madeCells, Nat.mod_one]
  rw [hzc] at hr
  exact hr
theorem R_made0 {α : Type} {enc : α → Value} {h1 : ∀ x, (enc x).oneCell' = true} (W : World) (base e k : Nat) (z : Value) (hk : k ≤ 1099511627776) (hb : base ≤ W.heap.size) : Kd.R (Kd.scalar enc h1) e (W.alloc (.cells (Array.replicate k z) e)) base (fun _ => True) (.slice (some ⟨W.heap.size, 0, none⟩) 0 k) ([] : List α) := by
  refine Kd.R_of_own ?_ (fun j _ => trivial)
  exact ⟨by simp [encs], .inr ⟨W.heap.size, k, Array.replicate k z, by simp, hb, blk_new _ _, by simp, by simp only [maxLen]; omega, by simp, by simp [encs]⟩⟩
theorem R_push {P : Program} {α : Type} (enc : α → Value) (d0 : α) {h1 : ∀ x, (enc x).oneCell' = true} (W w : World) (t e : TypeId) (z : Value) (bytes : Nat) (ht : P.underlying t = some (.slice e))
    (hinfo : (P.info? e).map (fun i => (i.zero, i.size, i.bytes)) = some (some z, 1, bytes)) (hzs : z.cells.size = 1) {v : Value} {xs : List α} (h : Kd.R (Kd.scalar enc h1) e W w.heap.size (fun _ => True) v xs) (hb : Below w.heap.size w W) (x : α)
    (hn : (xs.length + 1) * bytes ≤ 140737488355328) (hb0 : 0 < bytes) :
    ∃ B d W', (Builtin.append_ #[t, t] t #[v, .slice (some ⟨W.heap.size, 0, none⟩) 1 1]).run P (W.alloc (.cells #[enc x] e)) = .ok (.slice B (xs.length + 1) d) W' ∧ Kd.R (Kd.scalar enc h1) e W' w.heap.size (fun _ => True) (.slice B (xs.length + 1) d) (xs ++ [x]) ∧ Below w.heap.size w W' := by
  have hlit : Kd.R (Kd.scalar enc h1) e (W.alloc (.cells #[enc x] e)) W.heap.size (fun _ => True) (.slice (some ⟨W.heap.size, 0, none⟩) 1 1) [x] :=
    Kd.R_of_own (own_lit_of W W.heap.size e [x] (Nat.le_refl _) (by simp)) (fun _ _ => trivial)
  have hb1 : Below W.heap.size W (W.alloc (.cells #[enc x] e)) := below_alloc (Below.refl _ _) _
  have h2 := R_fr h (Fr.of_below hb1 (fun _ => False)) (fun _ _ _ _ h => h)
  have hbb : Below w.heap.size w (W.alloc (.cells #[enc x] e)) := hb.trans (hb1.mono hb.size)
  obtain ⟨v', W', hrun, hR, hg, hat⟩ := R_append_row (P := P) enc d0 (W.alloc (.cells #[enc x] e)) w.heap.size t t e z bytes ht hinfo hzs (ys := [x]) (c := 1) h2 (R_C hlit) hn hb0 hbb.size (fun _ _ => trivial)
  obtain ⟨B, d, rfl⟩ := Kd.R_slice hR
  rw [List.length_append] at hrun hR
  exact ⟨B, d, W', hrun, hR, hbb.grown hg hbb.size (fun i hi => Kd.R_base h2 i hi)⟩
theorem R_pushes {P : Program} {α : Type} (enc : α → Value) (d0 : α) {h1 : ∀ x, (enc x).oneCell' = true} (wr w : World) (t e : TypeId) (z : Value) (bytes : Nat) (ht : P.underlying t = some (.slice e))
    (hinfo : (P.info? e).map (fun i => (i.zero, i.size, i.bytes)) = some (some z, 1, bytes)) (hzs : z.cells.size = 1) {v : Value} {xs : List α} (h : Kd.R (Kd.scalar enc h1) e wr w.heap.size (fun _ => True) v xs) (hb : Below w.heap.size w wr) (x : α) (k : Nat) (ys : List α) (hk : xs.length = k) (hys : ys = xs ++ [x])
    (hn : (k + 1) * bytes ≤ 140737488355328) (hb0 : 0 < bytes) : Aside0 (∀ W, Below wr.heap.size wr W →
    ∃ B d W', (Builtin.append_ #[t, t] t #[v, .slice (some ⟨W.heap.size, 0, none⟩) 1 1]).run P (W.alloc (.cells #[enc x] e)) = .ok (.slice B (k + 1) d) W' ∧ Aside0 (Kd.R (Kd.scalar enc h1) e W' w.heap.size (fun _ => True) (.slice B (k + 1) d) ys) ∧ Aside0 (Below w.heap.size w W')) := ⟨fun W hW => by
  subst hk
  subst hys
  obtain ⟨B, d, W', h1, h2, h3⟩ := R_push (P := P) enc d0 (h1 := h1) W w t e z bytes ht hinfo hzs (R_fr h (Fr.of_below hW (fun _ => False)) (fun _ _ _ _ h => h)) (hb.trans (hW.mono hb.size)) x hn hb0
  exact ⟨B, d, W', h1, ⟨h2⟩, ⟨h3⟩⟩⟩
def encN (n : Nat) : Value := .int .i64 (n : Int)
abbrev kn : Kd Nat := Kd.scalar encN (fun _ => rfl)
theorem info3' : (Try.prog.info? 3).map (fun i => (i.zero, i.size, i.bytes)) = some (some (.int .i64 0), 1, 8) := by kernel_rfl
def parV (N T K E Rm : Int) : Value := .agg #[.int .i64 N, .int .i64 T, .int .i64 K, .int .i64 E, .int .i64 Rm]
set_option maxRecDepth 100000 in
set_option maxHeartbeats 800000 in
theorem all_any (w : World) (N : Nat) (T K E Rm : Int) (hN : N ≤ 1000) :
    Calls Try.prog 124 #[parV N T K E Rm] w fun e w' => ∃ B d, e = .returned (.slice B N d) ∧ Kd.R kn 3 w' w.heap.size (fun _ => True) (.slice B N d) (List.range N) ∧ Below w.heap.size w w' := by
  have hmk := fun W : World => make0 (P := Try.prog) 50 3 (.int .i64 0) 8 Try.underlying50 info3' rfl (by omega) N (by omega) W
  unfold parV
  have hu48 := Try.underlying48
  go_enter Try.func124, Try.ntmps124
  go_wp2
  have HR0 := Aside0.mk (R_made0 (enc := encN) (h1 := fun _ => rfl) (w.alloc (Obj.cells #[Value.int IntKind.i64 ↑N, Value.int IntKind.i64 T, Value.int IntKind.i64 K, Value.int IntKind.i64 E, Value.int IntKind.i64 Rm] 48)) w.heap.size 3 N (.int .i64 0) (by omega) (by simp))
  have hb0 : Below w.heap.size w (w.alloc (Obj.cells #[Value.int IntKind.i64 ↑N, Value.int IntKind.i64 T, Value.int IntKind.i64 K, Value.int IntKind.i64 E, Value.int IntKind.i64 Rm] 48)) := below_alloc (Below.refl _ _) _
  have HB0 := Aside0.mk (below_alloc hb0 (Obj.cells (Array.replicate N (Value.int IntKind.i64 0)) 3))
  clear hb0 hmk
  go_loopw [3, 10] (fun v3 v10 wr => ∃ (k d : Nat) (B : Option Addr), k ≤ N ∧ v10 = .int .i64 k ∧ v3 = .slice B k d ∧ Aside0 (Kd.R kn 3 wr w.heap.size (fun _ => True) (.slice B k d) (List.range k)) ∧ Aside0 (Below w.heap.size w wr)) (fun _ v10 _ => N - (intOf v10).toNat)
  case atStart => exact ⟨0, N, _, by omega, rfl, rfl, ⟨by simpa using HR0.out⟩, HB0⟩
  case round =>
    clear HR0 HB0
    obtain ⟨k, d, B, hk, rfl, rfl, HR, HB⟩ := hrel
    by_cases hlt : k < N
    · obtain ⟨B', d', W', hrun, hR', hb'⟩ := R_push (P := Try.prog) encN 0 (h1 := fun _ => rfl) wr w 50 3 (.int .i64 0) 8 Try.underlying50 info3' rfl HR.out HB.out k (by rw [List.length_range]; omega) (by omega)
      rw [List.length_range] at hrun hR'
      rw [← List.range_succ] at hR'
      have HR' := Aside0.mk hR'
      have HB' := Aside0.mk hb'
      have HX := Aside0.mk hrun
      clear hrun hR' hb'
      go_wp2_with (at_builtin; refine wpList_append_run rfl _ _ _ _ rfl rfl rfl HX.out ?_)
      go_roundw
      case rel => exact ⟨k + 1, d', B', by omega, by go_num, rfl, HR', HB'⟩
      case measure => simp [intOf]; omega
    · obtain rfl : k = N := by omega
      go_wp2
      go_ret
      exact ⟨B, d, rfl, HR.out, HB.out⟩
def ptF (h : Nat) : F := ⟨(h % 256 + 1) % 256, Nat.mod_lt _ (by decide)⟩
theorem ptF_v (h : Nat) : ((ptF h).v : Int) = ((h : Int) % 256 + 1) % 256 := by
  show (((h % 256 + 1) % 256 : Nat) : Int) = _
  omega
theorem Point_any (w : World) (h : Nat) : Calls Try.prog 81 #[.int .i64 (h : Int)] w fun e w' => e = .returned (.int .u8 ((ptF h).v : Int)) ∧ Drawn0 w w' := by
  rw [ptF_v]
  exact PDealPoints.deal_Point.calls _ _ w rfl
theorem nat_at {w wr : World} {A : Option Addr} {n : Nat} {p : List Nat} {S : Nat → Prop} (h : Kd.C kn w A n p) (hf : Fr S w wr) (hS : ∀ j, S j → w.heap.size ≤ j) (k : Nat) (hk : k < n) : ∃ ad, A = some ad ∧ wr.cell? (ad.add k) = some (.int .i64 ((p.getD k 0 : Nat) : Int)) := by
  obtain ⟨ad, e, hc⟩ := (Kd.reads_of_C (enc := encN) (d := (0 : Nat)) (h1 := fun _ => rfl) h).2.2 (by omega)
  refine ⟨ad, e, hf.cell (hc k hk) (fun hb => ?_)⟩
  have h1 := World.block_lt_of_cell? w _ (hc k hk)
  have := hS _ hb
  omega
theorem take_snoc {α : Type} (d : α) (l : List α) (k : Nat) (h : k < l.length) : l.take (k + 1) = l.take k ++ [l.getD k d] := by
  rw [List.take_add_one, List.getElem?_eq_getElem h, List.getD_eq_getElem?_getD, List.getElem?_eq_getElem h]
  rfl
theorem map_take_snoc {α β : Type} (f : α → β) (d : α) (l : List α) (k : Nat) (h : k < l.length) : (l.take (k + 1)).map f = (l.take k).map f ++ [f (l.getD k d)] := by
  rw [take_snoc d l k h, List.map_append, List.map_singleton]
set_option maxRecDepth 100000 in
set_option maxHeartbeats 800000 in
theorem Points_any (w : World) (N T K E Rm : Int) (A : Option Addr) (n c : Nat) (hs : List Nat) (hC : Kd.C kn w A n hs) (hn : n ≤ 274877906944) :
    Calls Try.prog 45 #[parV N T K E Rm, .slice A n c] w fun e w' => ∃ B d, e = .returned (.slice B n d) ∧ Kd.R fk 5 w' w.heap.size (fun _ => True) (.slice B n d) (hs.map ptF) ∧ Below w.heap.size w w' := by
  have hmk := fun W : World => make0 (P := Try.prog) 36 5 (.int .u8 0) 1 Try.underlying36 info5 rfl (by omega) n (by omega) W
  have HCL := Aside0.mk (Kd.C_len hC)
  have HC := Aside0.mk hC
  unfold parV
  have hu48 := Try.underlying48
  clear hC
  go_enter Try.func45, Try.ntmps45
  go_wp2
  have HR0 := Aside0.mk (R_made0 (enc := encF) (h1 := fun _ => rfl) (w.alloc (Obj.cells #[Value.int IntKind.i64 N, Value.int IntKind.i64 T, Value.int IntKind.i64 K, Value.int IntKind.i64 E, Value.int IntKind.i64 Rm] 48)) w.heap.size 5 n (.int .u8 0) (by omega) (by simp))
  have hb0 : Below w.heap.size w (w.alloc (Obj.cells #[Value.int IntKind.i64 N, Value.int IntKind.i64 T, Value.int IntKind.i64 K, Value.int IntKind.i64 E, Value.int IntKind.i64 Rm] 48)) := below_alloc (Below.refl _ _) _
  have HB0 := Aside0.mk (below_alloc hb0 (Obj.cells (Array.replicate n (Value.int IntKind.u8 0)) 5))
  clear hb0 hmk
  go_loopw [5, 13] (fun v5 v13 wr => ∃ (k d : Nat) (B : Option Addr), k ≤ n ∧ v13 = .int .i64 k ∧ v5 = .slice B k d ∧ Aside0 (Kd.R fk 5 wr w.heap.size (fun _ => True) (.slice B k d) ((hs.take k).map ptF)) ∧ Aside0 (Below w.heap.size w wr)) (fun _ v13 _ => n - (intOf v13).toNat)
  case atStart => exact ⟨0, n, _, by omega, rfl, rfl, ⟨by simpa using HR0.out⟩, HB0⟩
  case round =>
    clear HR0 HB0
    obtain ⟨k, d, B, hk, rfl, rfl, HR, HB⟩ := hrel
    by_cases hlt : k < n
    · obtain ⟨ad, rfl, hcell⟩ := nat_at HC.out (Fr.of_below HB.out (fun _ => False)) (fun _ h => h.elim) k hlt
      have HSN := Aside0.mk (map_take_snoc ptF 0 hs k (by rw [HCL.out]; exact hlt))
      obtain ⟨m, hm⟩ : ∃ m, m = hs.getD k 0 := ⟨_, rfl⟩
      rw [← hm] at hcell HSN
      clear hm
      have HP := Aside0.mk (fun W => Point_any W m)
      obtain ⟨x, hx⟩ : ∃ x, x = ptF m := ⟨_, rfl⟩
      rw [← hx] at HP HSN
      clear hx
      have HPU := R_pushes (P := Try.prog) encF 0 (h1 := fun _ => rfl) wr w 36 5 (.int .u8 0) 1 Try.underlying36 info5 rfl HR.out HB.out x k _ (by rw [List.length_map, List.length_take, HCL.out]; omega) HSN.out (by omega) (by omega)
      go_wp2_with (first | (go_at_call 81; refine (HP.out _).mono ?_; rintro e W1 ⟨rfl, hd⟩; obtain ⟨B', d', W', hX, HR', HB'⟩ := HPU.out W1 hd.below; unfold encF at hX; replace hX := Aside0.mk hX; clear hd) | (at_builtin; refine wpList_append_run rfl _ _ _ _ rfl rfl rfl hX.out ?_))
      go_roundw
      case rel => exact ⟨k + 1, d', B', by omega, by go_num, rfl, HR', HB'⟩
      case measure => simp [intOf]; omega
    · obtain rfl : k = n := by omega
      go_wp2
      go_ret
      have e : hs.take k = hs := List.take_of_length_le (by rw [HCL.out]; exact Nat.le_refl _)
      have h2 := HR.out
      rw [e] at h2
      exact ⟨B, d, rfl, h2, HB.out⟩
def secL (N K : Nat) : List F := (List.range K).map fun n => ptF (N + n)
theorem secL_snoc (N K : Nat) : secL N (K + 1) = secL N K ++ [ptF (N + K)] := by simp [secL, List.range_succ]
theorem secL_length (N K : Nat) : (secL N K).length = K := by simp [secL]
set_option maxRecDepth 100000 in
set_option maxHeartbeats 800000 in
theorem Secrets_any (w : World) (N K : Nat) (T E Rm : Int) (hN : N ≤ 1000) (hK : K ≤ 1000) :
    Calls Try.prog 47 #[parV N T K E Rm] w fun e w' => ∃ B d, e = .returned (.slice B K d) ∧ Kd.R fk 5 w' w.heap.size (fun _ => True) (.slice B K d) (secL N K) ∧ Below w.heap.size w w' := by
  have hmk := fun W : World => make0 (P := Try.prog) 36 5 (.int .u8 0) 1 Try.underlying36 info5 rfl (by omega) K (by omega) W
  unfold parV
  have hu48 := Try.underlying48
  go_enter Try.func47, Try.ntmps47
  go_wp2
  obtain ⟨w1, hw1⟩ : ∃ w1, w1 = (w.alloc (Obj.cells #[Value.int IntKind.i64 N, Value.int IntKind.i64 T, Value.int IntKind.i64 K, Value.int IntKind.i64 E, Value.int IntKind.i64 Rm] 48)) := ⟨_, rfl⟩
  have hb0 : Below w.heap.size w w1 := by rw [hw1]; exact below_alloc (Below.refl _ _) _
  have hz1 : w1.heap.size = w.heap.size + 1 := by rw [hw1]; simp
  have hg1 : w1.heap[w.heap.size]? = some (Obj.cells #[Value.int IntKind.i64 N, Value.int IntKind.i64 T, Value.int IntKind.i64 K, Value.int IntKind.i64 E, Value.int IntKind.i64 Rm] 48) := by rw [hw1]; exact blk_new _ _
  have hR0 := R_made0 (enc := encF) (h1 := fun _ => rfl) w1 w1.heap.size 5 K (.int .u8 0) (by omega) (Nat.le_refl _)
  rw [hz1] at hR0
  have HR0 := Aside0.mk hR0
  have HB0 := Aside0.mk (below_alloc (Below.refl w1.heap.size w1) (Obj.cells (Array.replicate K (Value.int IntKind.u8 0)) 5))
  obtain ⟨s, hs⟩ : ∃ s, s = w.heap.size := ⟨_, rfl⟩
  rw [← hw1]
  rw [← hs] at hg1 hz1 HR0 ⊢
  rw [← hz1] at HR0
  have HG1 := Aside0.mk hg1
  have HS := Aside0.mk hs
  have HZ1 := Aside0.mk hz1
  have HBW := Aside0.mk hb0
  clear hw1 hb0 hmk hg1 hR0 hs hz1
  go_loopw [3, 10] (fun v3 v10 wr => ∃ (k d : Nat) (B : Option Addr), k ≤ K ∧ v10 = .int .i64 k ∧ v3 = .slice B k d ∧ Aside0 (Kd.R fk 5 wr w1.heap.size (fun _ => True) (.slice B k d) (secL N k)) ∧ Aside0 (Below w1.heap.size w1 wr)) (fun _ v10 _ => K - (intOf v10).toNat)
  case atStart => exact ⟨0, K, _, by omega, rfl, rfl, ⟨by simpa [secL, HZ1.out] using HR0.out⟩, HB0⟩
  case round =>
    clear HR0 HB0
    obtain ⟨k, d, B, hk, rfl, rfl, HR, HB⟩ := hrel
    by_cases hlt : k < K
    · have c0 : wr.cell? ⟨s, 0, none⟩ = some (.int .i64 (N : Int)) := cell_at (blk_below HG1.out HB.out) rfl
      have hw : IntKind.i64.wrap ((N : Int) + (k : Int)) = ((N + k : Nat) : Int) := by
        rw [IntWalk.i64_in _ ⟨by omega, by omega⟩]; omega
      have HSN := Aside0.mk (secL_snoc N k)
      have HP := Aside0.mk (fun W => Point_any W (N + k))
      obtain ⟨x, hx⟩ : ∃ x, x = ptF (N + k) := ⟨_, rfl⟩
      rw [← hx] at HP HSN
      clear hx
      have HPU := R_pushes (P := Try.prog) encF 0 (h1 := fun _ => rfl) wr w1 36 5 (.int .u8 0) 1 Try.underlying36 info5 rfl HR.out HB.out x k _ (secL_length N k) HSN.out (by omega) (by omega)
      go_wp2_with (first | (go_at_call 81; refine (HP.out _).mono ?_; rintro e W1 ⟨rfl, hd⟩; obtain ⟨B', d', W', hX, HR', HB'⟩ := HPU.out W1 hd.below; unfold encF at hX; replace hX := Aside0.mk hX; clear hd) | (at_builtin; refine wpList_append_run rfl _ _ _ _ rfl rfl rfl hX.out ?_))
      go_roundw
      case rel => exact ⟨k + 1, d', B', by omega, by go_num, rfl, HR', HB'⟩
      case measure => simp [intOf]; omega
    · obtain rfl : k = K := by omega
      go_wp2
      go_ret
      exact ⟨B, d, rfl, Kd.R_lower HR.out HBW.out.size, HBW.out.trans (HB.out.mono HBW.out.size)⟩
set_option maxRecDepth 100000 in
set_option maxHeartbeats 800000 in
theorem Encode_any (w : World) (g : Nat) (A X : Option Addr) (n c m cx : Nat) (p xs : List F) (hF : Fld w g) (hp : Kd.C fk w A n p) (hx : Kd.C fk w X m xs) (hn : n ≤ 1099511627776) (hm : m ≤ 1000) :
    Calls Try.prog 125 #[.pointer (some ⟨g, 0, none⟩), .slice A n c, .slice X m cx] w fun e w' => ∃ B d, e = .returned (.slice B m d) ∧ Kd.R fk 5 w' w.heap.size (fun _ => True) (.slice B m d) (xs.map (ev p)) ∧ Below w.heap.size w w' := by
  have hmk := fun W : World => make0 (P := Try.prog) 36 5 (.int .u8 0) 1 Try.underlying36 info5 rfl (by omega) m (by omega) W
  have HCL := Aside0.mk (Kd.C_len hx)
  have HC := Aside0.mk hx
  have HP := Aside0.mk hp
  have HF := Aside0.mk hF
  clear hx hp hF
  have HR0 := Aside0.mk (R_made0 (enc := encF) (h1 := fun _ => rfl) w w.heap.size 5 m (.int .u8 0) (by omega) (Nat.le_refl _))
  have HB0 := Aside0.mk (below_alloc (Below.refl w.heap.size w) (Obj.cells (Array.replicate m (Value.int IntKind.u8 0)) 5))
  go_enter Try.func125, Try.ntmps125
  go_wp2
  clear hmk
  go_loopw [7, 15] (fun v7 v15 wr => ∃ (k d : Nat) (B : Option Addr), k ≤ m ∧ v15 = .int .i64 k ∧ v7 = .slice B k d ∧ Aside0 (Kd.R fk 5 wr w.heap.size (fun _ => True) (.slice B k d) ((xs.take k).map (ev p))) ∧ Aside0 (Below w.heap.size w wr)) (fun _ v15 _ => m - (intOf v15).toNat)
  case atStart => exact ⟨0, m, _, by omega, rfl, rfl, ⟨by simpa using HR0.out⟩, HB0⟩
  case round =>
    clear HR0 HB0
    obtain ⟨k, d, B, hk, rfl, rfl, HR, HB⟩ := hrel
    by_cases hlt : k < m
    · obtain ⟨ad, rfl, hcell⟩ := C_at HC.out (Fr.of_below HB.out (fun _ => False)) (fun _ h => h.elim) k hlt
      have HSN := Aside0.mk (map_take_snoc (ev p) 0 xs k (by rw [HCL.out]; exact hlt))
      obtain ⟨y, hy⟩ : ∃ y, y = xs.getD k 0 := ⟨_, rfl⟩
      rw [← hy] at hcell HSN
      clear hy
      have HE := Aside0.mk (Eval_any wr g A n c p y (HF.out.fr (Fr.of_below HB.out (fun _ => False)) (fun h => h)) (Kd.C_below HP.out HB.out) hn)
      obtain ⟨x, hx⟩ : ∃ x, x = ev p y := ⟨_, rfl⟩
      rw [← hx] at HE HSN
      clear hx
      have HPU := R_pushes (P := Try.prog) encF 0 (h1 := fun _ => rfl) wr w 36 5 (.int .u8 0) 1 Try.underlying36 info5 rfl HR.out HB.out x k _ (by rw [List.length_map, List.length_take, HCL.out]; omega) HSN.out (by omega) (by omega)
      go_wp2_with (first | (go_at_call 122; refine HE.out.mono ?_; rintro e W1 ⟨rfl, hd⟩; obtain ⟨B', d', W', hX, HR', HB'⟩ := HPU.out W1 (hd.below (Nat.le_refl _) (fun _ h => h.elim)); unfold encF at hX; replace hX := Aside0.mk hX; clear hd) | (at_builtin; refine wpList_append_run rfl _ _ _ _ rfl rfl rfl hX.out ?_))
      go_roundw
      case rel => exact ⟨k + 1, d', B', by omega, by go_num, rfl, HR', HB'⟩
      case measure => simp [intOf]; omega
    · obtain rfl : k = m := by omega
      go_wp2
      go_ret
      have e : xs.take k = xs := List.take_of_length_le (by rw [HCL.out]; exact Nat.le_refl _)
      have h2 := HR.out
      rw [e] at h2
      exact ⟨B, d, rfl, h2, HB.out⟩
end Go.Proofs.Ytpeiejkcoadhfaa
