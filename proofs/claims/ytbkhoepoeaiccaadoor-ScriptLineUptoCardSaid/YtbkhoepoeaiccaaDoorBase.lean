/- Words of this work: what a call may have turned (Fr); appends onto rows of the call's own, of whatever is read. -/
import Derived.Test.YtbkhoepoeaiccaaDoorProg
import Derived.Test.YtbkhoepoeaiccaaDoorWWords
import Derived.Test.YtbkhoepoeaiccaaDoorWMore
import Derived.Test.YtbkhoepoeaiccaaDoorWArr
import Derived.WalkKit
import Derived.KernelRfl
import Derived.WalkSpells
import Derived.WalkLawsBesides
import Derived.Deep.QuietTactic
import Derived.BigQuiet
namespace Go.Proofs.YtbkhoepoeaiccaaDoor
open Go.RowKit Go.Proofs.YtbkhoepoeaiccaaDoorW.PrintWords

/-- w' is w with new blocks, and with blocks in S turned. -/
structure Fr (S : Nat → Prop) (w w' : World) : Prop where
  os : w'.os = w.os
  tape : w'.tape = w.tape
  output : w'.output = w.output
  size : w.heap.size ≤ w'.heap.size
  block : ∀ k, k < w.heap.size → ¬ S k → w'.heap[k]? = w.heap[k]?

section
variable {S S' : Nat → Prop} {w w1 w2 : World}
theorem Fr.refl (S : Nat → Prop) (w : World) : Fr S w w := ⟨rfl, rfl, rfl, Nat.le_refl _, fun _ _ _ => rfl⟩
theorem Fr.mono (h : Fr S w w1) (hs : ∀ k, S k → S' k) : Fr S' w w1 := ⟨h.os, h.tape, h.output, h.size, fun k hk hn => h.block k hk (fun hS => hn (hs k hS))⟩
theorem Fr.trans (h : Fr S w w1) (k : Fr S' w1 w2) (hs : ∀ k, S' k → S k ∨ w.heap.size ≤ k) : Fr S w w2 :=
  ⟨k.os.trans h.os, k.tape.trans h.tape, k.output.trans h.output, Nat.le_trans h.size k.size, fun i hi hn =>
    (k.block i (Nat.lt_of_lt_of_le hi h.size) (fun hS => (hs i hS).elim hn (fun hle => by omega))).trans (h.block i hi hn)⟩
theorem Fr.trans' (h : Fr S w w1) (k : Fr S w1 w2) : Fr S w w2 := h.trans k (fun _ hk => .inl hk)
theorem Fr.of_below (h : Below w.heap.size w w1) (S : Nat → Prop) : Fr S w w1 := ⟨h.os, h.tape, h.output, h.size, fun k hk _ => h.block k hk⟩
theorem Fr.of_grown {row : Option Nat} (h : w.grownBy w1 row) (hr : ∀ k, row = some k → S k ∨ w.heap.size ≤ k) : Fr S w w1 :=
  ⟨h.os, h.tape, h.output, h.size, fun k hk hn => h.block k hk (fun e => (hr k e.symm).elim hn (fun hle => by omega))⟩
theorem Fr.below {B : Nat} (h : Fr S w w1) (hB : B ≤ w.heap.size) (hs : ∀ k, S k → B ≤ k) : Below B w w1 :=
  ⟨h.os, h.tape, h.output, h.size, fun k hk => h.block k (by omega) (fun hS => by have := hs k hS; omega)⟩
theorem Fr.set_ (h : Fr S w w1) {p : Addr} (hp : S p.block ∨ w.heap.size ≤ p.block) (u : Value) : Fr S w (w1.setCell p u) :=
  h.trans (S' := fun k => k = p.block) ⟨rfl, rfl, rfl, by simp [World.setCell], fun k _ hn => Below.heap_setCell w1 p u k hn⟩ (fun k hk => by subst hk; exact hp)
theorem Fr.alloc (h : Fr S w w1) (o : Obj) : Fr S w (w1.alloc o) := h.trans' (Fr.of_below (below_alloc (Below.refl _ _) o) S)
theorem Fr.drewN (h : Fr S w w1) (n : Nat) : Fr S w (w1.drewN n) := ⟨h.os, h.tape, h.output, h.size, h.block⟩
theorem Fr.drew (h : Fr S w w1) : Fr S w w1.drew := ⟨h.os, h.tape, h.output, h.size, h.block⟩
theorem Fr.below_ (h : Fr S w w1) (k : Below w1.heap.size w1 w2) : Fr S w w2 := h.trans' (Fr.of_below k S)
theorem Fr.blk (h : Fr S w w1) {g : Nat} {o : Obj} (hb : w.heap[g]? = some o) (hg : ¬ S g) : w1.heap[g]? = some o := (h.block g (blk_lt hb) hg).trans hb
theorem Fr.cell (h : Fr S w w1) {p : Addr} {v : Value} (hc : w.cell? p = some v) (hg : ¬ S p.block) : w1.cell? p = some v :=
  (World.cell?_of_block (w := w) (h.block p.block (World.block_lt_of_cell? w p hc) hg)).trans hc
end

section
variable {P : Program}
/-- The law at an append whose run is known. -/
theorem wpList_append_run {ops : Array Oper} {rest : List Oper} {o : Oper} {a : Act} {Q : Exit → Act → World → Prop} {w w' : World} {v y v' : Value} (hgd : o.guard = none) (s x : Operand) (t t' : TypeId)
    (ho : o.op = .call { callee := .builtin .append, args := #[s, x], argTypes := #[t, t'] }) (hs : a.eval s = v) (hx : a.eval x = y) (hrun : (Builtin.append_ #[t, t'] o.type #[v, y]).run P w = .ok v' w')
    (h : wpList P ops Q rest (a.put o.dst v') w') : wpList P ops Q (o :: rest) a w :=
  Kd.event_run hgd (by unfold execOp; simp only [ho, resolve, invoke, builtin, Sem.run_bind, Sem.run_pure, Result.andThen_ok, List.map_toArray, List.map_cons, List.map_nil, hs, hx, hrun]) h

theorem append_nothing (W : World) (t ty e : TypeId) (i : TypeInfo) (ht : P.underlying t = some (.slice e)) (hi : P.info? e = some i) {base n size : Nat} {v : Value} {xs : List Value}
    (h : QRow W base e size v n xs) (A : Option Addr) (c : Nat) : (Builtin.append_ #[t, t] ty #[v, .slice A 0 c]).run P W = .ok v W := by
  rcases h.2 with ⟨h0, B, rfl, _⟩ | ⟨g, off, cap, cur, rfl, _, _, hnc, _⟩
  · cases A <;> cases B <;> simp [Builtin.append_, run_underlying ht, sizeOf, typeInfo, hi, Builtin.lenOf, Builtin.firstCells, loadCells, loadCellsFrom, storeCells]
  · cases A <;> simp [Builtin.append_, run_underlying ht, sizeOf, typeInfo, hi, Builtin.lenOf, Builtin.firstCells, loadCells, loadCellsFrom, hnc, storeCells]

/-- append(v, ys...), v a row of one's own that may begin inside its block, ys read; elements of one cell. -/
theorem Q_append_row {α : Type} (enc : α → Value) (d0 : α) {h1 : ∀ x, (enc x).oneCell' = true} (W : World) (base : Nat) (t ty e : TypeId) (z : Value) (bytes : Nat) (ht : P.underlying t = some (.slice e))
    (hinfo : (P.info? e).map (fun i => (i.zero, i.size, i.bytes)) = some (some z, 1, bytes)) (hzs : z.cells.size = 1)
    {v : Value} {xs ys : List α} {A : Option Addr} {c : Nat} {ok : Nat → Prop} (h : Kd.Q (Kd.scalar enc h1) e W base ok v xs) (hr : Kd.C (Kd.scalar enc h1) W A ys.length ys)
    (hn : (xs.length + ys.length) * bytes ≤ 140737488355328) (hb0 : 0 < bytes) (hbase : base ≤ W.heap.size) (hok : ∀ k, W.heap.size ≤ k → ok k) :
    ∃ v' W', (Builtin.append_ #[t, t] ty #[v, .slice A ys.length c]).run P W = .ok v' W' ∧ Kd.Q (Kd.scalar enc h1) e W' base ok v' (xs ++ ys) ∧ W.grownBy W' v.ownBlock ∧ (v'.ownBlock = v.ownBlock ∨ ∃ b, v'.ownBlock = some b ∧ W.heap.size ≤ b) := by
  obtain ⟨i, hi, hz, hs, hb⟩ := info_parts hinfo
  obtain ⟨h0, inner, hq, hreps⟩ := h
  have hin : inner = encs enc xs := Kd.reps_encs hreps
  subst hin
  have hle : xs.length + ys.length ≤ (xs.length + ys.length) * bytes := Nat.le_mul_of_pos_right _ hb0
  rcases Nat.eq_zero_or_pos ys.length with hl | hl
  · have hy : ys = [] := List.eq_nil_of_length_eq_zero hl
    subst hy
    refine ⟨v, W, append_nothing W t ty e i ht hi hq A c, ?_, World.grownBy.refl _ _, .inl rfl⟩
    rw [List.append_nil]
    exact ⟨h0, _, hq, hreps⟩
  · have hro := Kd.reads_of_C (enc := enc) (d := d0) (h1 := h1) hr
    obtain ⟨ad, rfl, hc⟩ := hro.2.2 hl
    obtain ⟨v', W', hrun, hq', hg, hat⟩ := q_append W base t ty e i _ 1 bytes ht hi hz hs hb hzs (by omega) v xs.length _ hq ad ys.length c (encs enc ys) (by rw [encs_length]; omega)
      (fun j u hu => by
        have hj : j < ys.length := by have := (List.getElem?_eq_some_iff.1 hu).1; rwa [encs_length] at this
        rw [encs_get (d := d0) ys j hj] at hu
        injection hu with hu
        rw [← hu]; exact hc j hj)
      (fun u hu => by
        obtain ⟨x, _, rfl⟩ := List.mem_map.1 hu
        exact h1 x) hl (by unfold maxLen; omega) hn hbase
    refine ⟨v', W', hrun, ⟨?_, encs enc (xs ++ ys), ?_, ?_⟩, hg, hat⟩
    · intro k hk
      rcases hat with e1 | ⟨b, e1, hbb⟩
      · exact h0 k (by rw [← e1]; exact hk)
      · rw [e1] at hk
        injection hk with hk
        subst hk
        exact hok _ hbb
    · rw [← encs_append, ← List.length_append] at hq'
      exact hq'
    · exact Kd.reps_scalar _
end

section
variable {P : Program}
theorem own_nothing (W : World) (t ty e : TypeId) (i : TypeInfo) (ht : P.underlying t = some (.slice e)) (hi : P.info? e = some i) {base n size : Nat} {v : Value} {xs : List Value}
    (h : W.ownsRow base e size v n xs) (A : Option Addr) (c : Nat) : (Builtin.append_ #[t, t] ty #[v, .slice A 0 c]).run P W = .ok v W := append_nothing W t ty e i ht hi (q_of_own h) A c
/-- append(v, ys...), v a row of one's own, ys read; elements of one cell. -/
theorem R_append_row {α : Type} (enc : α → Value) (d0 : α) {h1 : ∀ x, (enc x).oneCell' = true} (W : World) (base : Nat) (t ty e : TypeId) (z : Value) (bytes : Nat) (ht : P.underlying t = some (.slice e))
    (hinfo : (P.info? e).map (fun i => (i.zero, i.size, i.bytes)) = some (some z, 1, bytes)) (hzs : z.cells.size = 1)
    {v : Value} {xs ys : List α} {A : Option Addr} {c : Nat} {ok : Nat → Prop} (h : Kd.R (Kd.scalar enc h1) e W base ok v xs) (hr : Kd.C (Kd.scalar enc h1) W A ys.length ys)
    (hn : (xs.length + ys.length) * bytes ≤ 140737488355328) (hb0 : 0 < bytes) (hbase : base ≤ W.heap.size) (hok : ∀ k, W.heap.size ≤ k → ok k) :
    ∃ v' W', (Builtin.append_ #[t, t] ty #[v, .slice A ys.length c]).run P W = .ok v' W' ∧ Kd.R (Kd.scalar enc h1) e W' base ok v' (xs ++ ys) ∧ W.grownBy W' v.ownBlock ∧ (v'.ownBlock = v.ownBlock ∨ ∃ b, v'.ownBlock = some b ∧ W.heap.size ≤ b) := by
  obtain ⟨i, hi, hz, hs, hb⟩ := info_parts hinfo
  have ho := Kd.own_of_R h
  have hle : xs.length + ys.length ≤ (xs.length + ys.length) * bytes := Nat.le_mul_of_pos_right _ hb0
  rcases Nat.eq_zero_or_pos ys.length with hl | hl
  · have hy : ys = [] := List.eq_nil_of_length_eq_zero hl
    subst hy
    refine ⟨v, W, own_nothing W t ty e i ht hi ho A c, ?_, World.grownBy.refl _ _, .inl rfl⟩
    rw [List.append_nil]
    exact h
  · have hro := Kd.reads_of_C (enc := enc) (d := d0) (h1 := h1) hr
    obtain ⟨ad, rfl, hc⟩ := hro.2.2 hl
    obtain ⟨v', W', hrun, hq', hg, _, hat⟩ := run_append_own_at (P := P) W base t ty e i _ 1 bytes ht hi hz hs hb hzs (by omega) v xs.length _ ho ad ys.length c (encs enc ys) (by rw [encs_length]; omega)
      (fun j u hu => by
        have hj : j < ys.length := by have := (List.getElem?_eq_some_iff.1 hu).1; rwa [encs_length] at this
        rw [encs_get (d := d0) ys j hj] at hu
        injection hu with hu
        rw [← hu]; exact hc j hj)
      (fun u hu => by
        obtain ⟨x, _, rfl⟩ := List.mem_map.1 hu
        exact h1 x) (by unfold maxLen; omega) hn hbase
    rw [← encs_append, ← List.length_append] at hq'
    refine ⟨v', W', hrun, Kd.R_of_own hq' (fun k hk => ?_), hg, ?_⟩
    · rcases hat with e1 | e1
      · exact h.1 k (by rw [← e1]; exact hk)
      · rw [e1] at hk
        injection hk with hk
        subst hk
        exact hok _ (Nat.le_refl _)
    · rcases hat with e1 | e1
      · exact .inl e1
      · exact .inr ⟨_, e1, Nat.le_refl _⟩
/-- An empty literal: '[]T{}'. -/
theorem R_empty {α : Type} (d : Kd α) (e : Nat) (W : World) (base : Nat) (hb : base ≤ W.heap.size) : Kd.R d e (W.alloc (.cells #[] e)) base (fun _ => True) (.slice (some ⟨W.heap.size, 0, none⟩) 0 0) ([] : List α) :=
  ⟨fun _ _ => trivial, [], ⟨by simp, .inr ⟨W.heap.size, 0, #[], rfl, hb, blk_new _ _, Nat.le_refl _, by simp [maxLen], by simp, by simp⟩⟩, Reps.none _ _⟩
end

theorem quiet_add_left {P : Program} {f : FuncId} {args : Array Value} {w : World} {a n : Nat} {v : Value}
    (h : Calls P f args (w.drewN (a + n)) fun e w' => e = .returned v ∧ w.drewN (a + n) = w') :
    Calls P f args (w.drewN (a + n)) fun e w'' => e = .returned v ∧ ∃ m, w'' = w.drewN (a + m) :=
  h.mono fun _ _ ⟨he, hm⟩ => ⟨he, n, hm.symm⟩
theorem quiet_left {P : Program} {f : FuncId} {args : Array Value} {w : World} {n : Nat} {v : Value}
    (h : Calls P f args (w.drewN n) fun e w' => e = .returned v ∧ w.drewN n = w') : Calls P f args (w.drewN n) fun e w'' => e = .returned v ∧ ∃ m, w'' = w.drewN m :=
  h.mono fun _ _ ⟨he, hm⟩ => ⟨he, n, hm.symm⟩
theorem quiet_drawn {P : Program} {f : FuncId} {args : Array Value} {w : World} {n : Nat} {v : Value}
    (h : Calls P f args (w.drewN n) fun e w' => e = .returned v ∧ Drawn0 (w.drewN n) w') : Calls P f args (w.drewN n) fun e w'' => e = .returned v ∧ ∃ m, w'' = w.drewN m :=
  h.mono fun _ _ ⟨he, ⟨m, hm⟩⟩ => ⟨he, n + m, by rw [hm, World.drewN_drewN]⟩
theorem quiet_add_drawn {P : Program} {f : FuncId} {args : Array Value} {w : World} {a n : Nat} {v : Value}
    (h : Calls P f args (w.drewN (a + n)) fun e w' => e = .returned v ∧ Drawn0 (w.drewN (a + n)) w') : Calls P f args (w.drewN (a + n)) fun e w'' => e = .returned v ∧ ∃ m, w'' = w.drewN (a + m) :=
  h.mono fun _ _ ⟨he, ⟨m, hm⟩⟩ => ⟨he, n + m, by rw [hm, World.drewN_drewN, Nat.add_assoc]⟩
theorem below_drawN {B : Nat} {w W : World} (h : Below B w W) (n : Nat) : Below B w (W.drewN n) := ⟨h.os, h.tape, h.output, h.size, h.block⟩
theorem C_drewN {α : Type} {d : Kd α} {w : World} {A : Option Addr} {n : Nat} {xs : List α} (h : d.C w A n xs) (m : Nat) : d.C (w.drewN m) A n xs := Kd.C_below h (pw_below_drewN (Below.refl _ _) m)

theorem Q_C {α : Type} {d : Kd α} {e : Nat} {w : World} {base : Nat} {ok : Nat → Prop} {A : Option Addr} {n c : Nat} {xs : List α} (h : d.Q e w base ok (.slice A n c) xs) : d.C w A n xs := by
  obtain ⟨h1, _, h2⟩ := Kd.Q_reads' h
  rw [h1]; exact h2
theorem R_C {α : Type} {d : Kd α} {e : Nat} {w : World} {base : Nat} {ok : Nat → Prop} {A : Option Addr} {n c : Nat} {xs : List α} (h : d.R e w base ok (.slice A n c) xs) : d.C w A n xs := Q_C (Kd.Q_of_R h)

theorem R_fr {α : Type} {d : Kd α} {e : Nat} {w w1 : World} {base : Nat} {ok S : Nat → Prop} {v : Value} {xs : List α} (h : d.R e w base ok v xs) (hf : Fr S w w1) (hs : ∀ k, ok k → base ≤ k → k < w.heap.size → ¬ S k) : d.R e w1 base ok v xs :=
  Kd.R_mono (Kd.R_move (Kd.R_bound h) (fun k hk => hf.block k hk.2.2.1 (hs k hk.1 hk.2.1 hk.2.2.1))) (fun _ hk => hk.1)
theorem Q_fr {α : Type} {d : Kd α} {e : Nat} {w w1 : World} {base : Nat} {ok S : Nat → Prop} {v : Value} {xs : List α} (h : d.Q e w base ok v xs) (hf : Fr S w w1) (hs : ∀ k, ok k → base ≤ k → k < w.heap.size → ¬ S k) : d.Q e w1 base ok v xs :=
  Kd.Q_mono (Kd.Q_move (Kd.Q_bound h) (fun k hk => hf.block k hk.2.2.1 (hs k hk.1 hk.2.1 hk.2.2.1))) (fun _ hk => hk.1)

/-- The block of a slice's address. -/
def OB (B : Option Addr) (k : Nat) : Prop := ∃ a, B = some a ∧ k = a.block
theorem ob_base {α : Type} {d : Kd α} {e : Nat} {w : World} {base : Nat} {ok : Nat → Prop} {B : Option Addr} {n c : Nat} {xs : List α} (h : d.Q e w base ok (.slice B n c) xs) : ∀ k, OB B k → base ≤ k ∧ k < w.heap.size ∧ ok k := by
  rintro k ⟨a, rfl, rfl⟩
  exact ⟨Kd.Q_base h a.block (by simp [Value.ownBlock]), Kd.Q_lt h a.block (by simp [Value.ownBlock]), h.1 a.block (by simp [Value.ownBlock])⟩
theorem own_ob {B : Option Addr} {n c k : Nat} (h : (Value.slice B n c).ownBlock = some k) : OB B k := by
  cases B with
  | none => simp [Value.ownBlock] at h
  | some a => exact ⟨a, rfl, by simpa [Value.ownBlock] using h.symm⟩
theorem ob_own {B : Option Addr} {n c k : Nat} (h : OB B k) : (Value.slice B n c).ownBlock = some k := by
  obtain ⟨a, rfl, rfl⟩ := h
  simp [Value.ownBlock]
theorem R_tight {α : Type} {enc : α → Value} {h1 : ∀ x, (enc x).oneCell' = true} {e : Nat} {w : World} {base : Nat} {ok : Nat → Prop} {B : Option Addr} {n c : Nat} {xs : List α} (h : (Kd.scalar enc h1).R e w base ok (.slice B n c) xs) :
    (Kd.scalar enc h1).R e w base (OB B) (.slice B n c) xs := Kd.R_of_own (Kd.own_of_R h) (fun _ hk => own_ob hk)
/-- .. behind a frame that does not hold its block. -/
theorem R_fr1 {α : Type} {enc : α → Value} {h1 : ∀ x, (enc x).oneCell' = true} {e : Nat} {w w1 : World} {base : Nat} {ok S : Nat → Prop} {B : Option Addr} {n c : Nat} {xs : List α} (h : (Kd.scalar enc h1).R e w base ok (.slice B n c) xs) (hf : Fr S w w1) (hs : ∀ k, OB B k → ¬ S k) :
    (Kd.scalar enc h1).R e w1 base ok (.slice B n c) xs :=
  Kd.R_mono (R_fr (R_tight h) hf (fun k hk _ _ => hs k hk)) (fun k hk => (ob_base (Kd.Q_of_R h) k hk).2.2)
/-- Element k of a row of one's own: it is read, and it may be written. -/
theorem R_at {α : Type} {enc : α → Value} (d0 : α) {h1 : ∀ x, (enc x).oneCell' = true} {e : Nat} {w : World} {base : Nat} {ok : Nat → Prop} {B : Option Addr} {n c : Nat} {xs : List α} (h : (Kd.scalar enc h1).R e w base ok (.slice B n c) xs) (k : Nat) (hk : k < n) :
    ∃ g, B = some ⟨g, 0, none⟩ ∧ base ≤ g ∧ g < w.heap.size ∧ ok g ∧ w.cell? ⟨g, k, none⟩ = some (enc (xs.getD k d0)) ∧ w.frozen? ⟨g, k, none⟩ = false ∧
      ∀ x, (Kd.scalar enc h1).R e (w.setCell ⟨g, k, none⟩ (enc x)) base ok (.slice B n c) (xs.set k x) := by
  have hn : n = xs.length := (Kd.Q_reads' (Kd.Q_of_R h)).1
  obtain ⟨g, cap, hv, hb, hlt, _⟩ := Kd.R_form h (by omega)
  injection hv with h1' _ h3
  subst h1'; subst h3
  obtain ⟨h4, h5⟩ := Kd.R_celln d0 h (k : Int) (by omega) (by omega)
  rw [Int.toNat_natCast] at h4 h5
  refine ⟨g, rfl, hb, hlt, h.1 g (by simp [Value.ownBlock]), ?_, h5, fun x => ?_⟩
  · rw [h4]; simp [rdOf]
  · have := (Kd.R_putg h (k : Int) x).1
    rwa [Int.toNat_natCast] at this

/-- The worlds behind a world: new blocks, draws. A REGION THAT DRAWS ITS ORDER, whose calls make memory and change none, is walked once in the order of its text: 'refine wp_region_after W (by kernel_rfl) (by kernel_rfl) hW ?_'. -/
def After (W : World) : Type := { w' : World // Below W.heap.size W w' }
instance (W : World) : Nonempty (After W) := ⟨⟨W, Below.refl _ _⟩⟩
def After.w {W : World} (n : After W) : World := n.1
theorem After.below {W : World} (n : After W) : Below W.heap.size W n.w := n.2
theorem wp_region_after {P : Program} {id : Nat} {Q : Exit → Act → World → Prop} {a : Act} {w : World} {l : List Oper} (W : World) (hm : P.follows .mixedOrders = true) (hB : Region.lexB .any l.toArray = true) (hW : Below W.heap.size W w)
    (h : wpQuiet P l.toArray (fun w' => ∃ n : After W, w' = n.w) (fun a' => ∀ w', (∃ n : After W, w' = n.w) → Q .normal a' w') l a) : (Code.region id l.toArray true).wp P Q a w :=
  wp_region_quiet (C := fun w' => ∃ n : After W, w' = n.w) hm hB ⟨⟨_, below_drew hW⟩, rfl⟩ (by simpa using h)
theorem after_call {P : Program} {f : FuncId} {args : Array Value} {W : World} {n : After W} {v : Value} (h : Calls P f args n.w fun e w' => e = .returned v ∧ Below n.w.heap.size n.w w') :
    Calls P f args n.w fun e w'' => e = .returned v ∧ ∃ m : After W, w'' = m.w :=
  h.mono fun _ _ ⟨he, hb⟩ => ⟨he, ⟨_, n.2.trans (hb.mono n.2.size)⟩, rfl⟩
theorem after_same {P : Program} {f : FuncId} {args : Array Value} {W : World} {n : After W} {v : Value} (h : Calls P f args n.w fun e w' => e = .returned v ∧ n.w = w') :
    Calls P f args n.w fun e w'' => e = .returned v ∧ ∃ m : After W, w'' = m.w := h.mono fun _ _ ⟨he, hb⟩ => ⟨he, n, hb.symm⟩
theorem after_drawn {P : Program} {f : FuncId} {args : Array Value} {W : World} {n : After W} {v : Value} (h : Calls P f args n.w fun e w' => e = .returned v ∧ Drawn0 n.w w') :
    Calls P f args n.w fun e w'' => e = .returned v ∧ ∃ m : After W, w'' = m.w :=
  h.mono fun _ _ ⟨he, ⟨m, hm⟩⟩ => ⟨he, ⟨_, by rw [hm]; exact pw_below_drewN n.2 m⟩, rfl⟩

/-- Where a slice begins that is cut at a. -/
def cutA (A : Option Addr) (c a : Nat) : Option Addr := if c = a then A else A.map (·.add a)
theorem cutA_ob {A : Option Addr} {c a : Nat} : ∀ k, OB (cutA A c a) k → OB A k := by
  intro k hk
  obtain ⟨x, hx, rfl⟩ := hk
  unfold cutA at hx
  split at hx
  · exact ⟨x, hx, rfl⟩
  · cases A with
    | none => simp at hx
    | some y =>
      refine ⟨y, rfl, ?_⟩
      have : y.add a = x := by simpa using hx
      rw [← this]
      unfold Addr.add
      split <;> rfl
section
variable {P : Program} {α : Type} {enc : α → Value} {h1 : ∀ x, (enc x).oneCell' = true}
/-- Cuts of a row that is read: 'xs[a:b]', 'xs[a:]', 'xs[:b]'. -/
theorem mid_run (t e : TypeId) {i : TypeInfo} (ht : P.underlying t = some (.slice e)) (hi : P.info? e = some i) (hsz : i.size = 1) (A : Option Addr) (n c a b : Nat) (hab : a ≤ b) (hb : b ≤ n) (hc : n ≤ c) (W : World) :
    (Instr.slice t (.slice A n c) (some (.int .i64 (a : Int))) (some (.int .i64 (b : Int))) none).run P W = .ok (.slice (cutA A c a) (b - a) (c - a)) W := by
  have hel : P.elem t = e := by simp [Program.elem, ht]
  have hu : P.underlying t = some (.slice (P.elem t)) := by rw [hel]; exact ht
  rw [run_slice_lh W t A n c hu .i64 .i64 (a : Int) (b : Int) (by omega) (by omega) (by omega), hel]
  simp [sizeOf, typeInfo, hi, hsz, sliced, Result.andThen, cutA]
theorem from_run (t e : TypeId) {i : TypeInfo} (ht : P.underlying t = some (.slice e)) (hi : P.info? e = some i) (hsz : i.size = 1) (A : Option Addr) (n c a : Nat) (hb : a ≤ n) (W : World) :
    (Instr.slice t (.slice A n c) (some (.int .i64 (a : Int))) none none).run P W = .ok (.slice (cutA A c a) (n - a) (c - a)) W := by
  have h := cut_from (P := P) t e .i64 ht hi 1 hsz A n c (a : Int) (by omega) (by omega) W
  rw [h, Int.toNat_natCast, Nat.mul_one]
  rfl
theorem to_run (t e : TypeId) {i : TypeInfo} (ht : P.underlying t = some (.slice e)) (hi : P.info? e = some i) (A : Option Addr) (n c b : Nat) (hb : b ≤ n) (hc : n ≤ c) (W : World) :
    (Instr.slice t (.slice A n c) none (some (.int .i64 (b : Int))) none).run P W = .ok (.slice A b c) W := by
  have h := cut_to (P := P) t e .i64 ht hi A n c (b : Int) (by omega) (by omega) hc W
  rw [h, Int.toNat_natCast]
theorem mid_C (d0 : α) {w : World} {xs : List α} {A : Option Addr} {n : Nat} (c a b : Nat) (h : Kd.C (Kd.scalar enc h1) w A n xs) (hab : a ≤ b) (hb : b ≤ n) (hc : n ≤ c) : Kd.C (Kd.scalar enc h1) w (cutA A c a) (b - a) ((xs.drop a).take (b - a)) := by
  have hr := Kd.reads_of_C (enc := enc) (d := d0) (h1 := h1) h
  have h2 := (hr.take_ b hb).drop_ (c := c) a hab (by omega)
  rw [List.drop_take] at h2
  exact Kd.C_of_reads (d := d0) h2
theorem from_C (d0 : α) {w : World} {xs : List α} {A : Option Addr} {n : Nat} (c a : Nat) (h : Kd.C (Kd.scalar enc h1) w A n xs) (hb : a ≤ n) (hc : n ≤ c) : Kd.C (Kd.scalar enc h1) w (cutA A c a) (n - a) (xs.drop a) :=
  Kd.C_of_reads (d := d0) ((Kd.reads_of_C (enc := enc) (d := d0) (h1 := h1) h).drop_ (c := c) a hb hc)
theorem to_C (d0 : α) {w : World} {xs : List α} {A : Option Addr} {n : Nat} (b : Nat) (h : Kd.C (Kd.scalar enc h1) w A n xs) (hb : b ≤ n) : Kd.C (Kd.scalar enc h1) w A b (xs.take b) :=
  Kd.C_of_reads (d := d0) ((Kd.reads_of_C (enc := enc) (d := d0) (h1 := h1) h).take_ b hb)
end

/-- A row of scalars that is read, behind a frame: its block is not among the turned ones. -/
theorem C_fr {α : Type} {enc : α → Value} (d0 : α) {h1 : ∀ x, (enc x).oneCell' = true} {S : Nat → Prop} {w w1 : World} {A : Option Addr} {n : Nat} {xs : List α} (h : Kd.C (Kd.scalar enc h1) w A n xs) (hf : Fr S w w1)
    (hs : ∀ ad, A = some ad → 0 < n → ¬ S ad.block) : Kd.C (Kd.scalar enc h1) w1 A n xs := by
  have hr := Kd.reads_of_C (enc := enc) (d := d0) (h1 := h1) h
  refine Kd.C_of_reads (d := d0) ⟨hr.1, hr.2.1, fun hn => ?_⟩
  obtain ⟨ad, rfl, hc⟩ := hr.2.2 hn
  refine ⟨ad, rfl, fun j hj => hf.cell (hc j hj) ?_⟩
  rw [show (ad.add j).block = ad.block from by unfold Addr.add; split <;> rfl]
  exact hs ad rfl hn
end Go.Proofs.YtbkhoepoeaiccaaDoor
