/- What the view's laws take, Vu05: Base, Open, Rng, Gf1, RngT, RunT, St1, StA. -/
import Derived.Test.YtpeiejkcoadhfaaVu01
import Derived.Test.YtpeiejkcoadhfaaVu02
import Derived.Test.YtpeiejkcoadhfaaVu03
import Derived.Test.YtpeiejkcoadhfaaVu04
import Derived.Test.YtpeiejkcoadhfaaProg
import Derived.WalkKit
import Derived.KernelRfl
import Derived.WalkSpells
import Derived.WalkLawsBesides
import Derived.Deep.QuietTactic
import Derived.BigQuiet
import Derived.Test.YtpeiejkcoadhfaaRows
import Derived.ProofKit
import Derived.OpenShut
import Derived.ChangeOld
import Derived.Deep.Slices
import Derived.RangeFuncWrites
import Derived.RangeFuncLeaves
import Derived.RangeFuncCalls
import Derived.RangeFuncBound
import Derived.Shelf.Abstract
import Derived.OwnWalkIn
import Derived.TacticsInMore
import Derived.LoopNIn
import Derived.LoopIn
import Derived.OrdersIn
import Derived.RegionIn
import Derived.Laws.CopyRow
import Derived.Laws.IdiomCopy
set_option linter.all false
namespace Go.Proofs.Ytpeiejkcoadhfaa
open Go.RowKit Go.Proofs.YtpeiejkcoadhfaaW.PrintWords
structure Fr (S : Nat → Prop) (w w' : World) : Prop where
 os : w'.os = w.os
 tape : w'.tape = w.tape
 output : w'.output = w.output
 size : w.heap.size ≤ w'.heap.size
 block : ∀ k, k < w.heap.size → ¬ S k → w'.heap[k]? = w.heap[k]?
section
variable {S S' : Nat → Prop} {w w1 w2 : World}
theorem Fr.refl (S : Nat → Prop) (w : World) : Fr S w w := ⟨rfl, rfl, rfl, Nat.le_refl _, fun _ _ _ => rfl⟩
theorem Fr.mono (h : Fr S w w1) (hs : ∀ k, S k → S' k) : Fr S' w w1 := ⟨h.os, h.tape, h.output, h.size, fun k hk hn => h.block k hk (fun hS => hn (hs k hS))⟩
theorem Fr.trans (h : Fr S w w1) (k : Fr S' w1 w2) (hs : ∀ k, S' k → S k ∨ w.heap.size ≤ k) : Fr S w w2 :=
 ⟨k.os.trans h.os, k.tape.trans h.tape, k.output.trans h.output, Nat.le_trans h.size k.size, fun i hi hn =>
   (k.block i (Nat.lt_of_lt_of_le hi h.size) (fun hS => (hs i hS).elim hn (fun hle => by omega))).trans (h.block i hi hn)⟩
theorem Fr.trans' (h : Fr S w w1) (k : Fr S w1 w2) : Fr S w w2 := h.trans k (fun _ hk => .inl hk)
theorem Fr.of_below (h : Below w.heap.size w w1) (S : Nat → Prop) : Fr S w w1 := ⟨h.os, h.tape, h.output, h.size, fun k hk _ => h.block k hk⟩
theorem Fr.of_grown {row : Option Nat} (h : w.grownBy w1 row) (hr : ∀ k, row = some k → S k ∨ w.heap.size ≤ k) : Fr S w w1 :=
 ⟨h.os, h.tape, h.output, h.size, fun k hk hn => h.block k hk (fun e => (hr k e.symm).elim hn (fun hle => by omega))⟩
theorem Fr.below {B : Nat} (h : Fr S w w1) (hB : B ≤ w.heap.size) (hs : ∀ k, S k → B ≤ k) : Below B w w1 :=
 ⟨h.os, h.tape, h.output, h.size, fun k hk => h.block k (by omega) (fun hS => by have := hs k hS; omega)⟩
theorem Fr.set_ (h : Fr S w w1) {p : Addr} (hp : S p.block ∨ w.heap.size ≤ p.block) (u : Value) : Fr S w (w1.setCell p u) :=
 h.trans (S' := fun k => k = p.block) ⟨rfl, rfl, rfl, by simp [World.setCell], fun k _ hn => Below.heap_setCell w1 p u k hn⟩ (fun k hk => by subst hk; exact hp)
theorem Fr.alloc (h : Fr S w w1) (o : Obj) : Fr S w (w1.alloc o) := h.trans' (Fr.of_below (zc (Below.refl _ _) o) S)
theorem Fr.drewN (h : Fr S w w1) (n : Nat) : Fr S w (w1.drewN n) := ⟨h.os, h.tape, h.output, h.size, h.block⟩
theorem Fr.drew (h : Fr S w w1) : Fr S w w1.drew := ⟨h.os, h.tape, h.output, h.size, h.block⟩
theorem Fr.below_ (h : Fr S w w1) (k : Below w1.heap.size w1 w2) : Fr S w w2 := h.trans' (Fr.of_below k S)
theorem Fr.blk (h : Fr S w w1) {g : Nat} {o : Obj} (hb : w.heap[g]? = some o) (hg : ¬ S g) : w1.heap[g]? = some o := (h.block g (yB hb) hg).trans hb
theorem Fr.cell (h : Fr S w w1) {p : Addr} {v : Value} (hc : w.cell? p = some v) (hg : ¬ S p.block) : w1.cell? p = some v :=
 (World.cell?_of_block (w := w) (h.block p.block (World.block_lt_of_cell? w p hc) hg)).trans hc
end
section
variable {P : Program}
theorem zm {ops : Array Oper} {rest : List Oper} {o : Oper} {a : Act} {Q : Exit → Act → World → Prop} {w w' : World} {v y v' : Value} (hgd : o.guard = none) (s x : Operand) (t t' : TypeId)
 (ho : o.op = .call { callee := .builtin .append, args := #[s, x], argTypes := #[t, t'] }) (hs : a.eval s = v) (hx : a.eval x = y) (hrun : (Builtin.append_ #[t, t'] o.type #[v, y]).run P w = .ok v' w')
 (h : wpList P ops Q rest (a.put o.dst v') w') : wpList P ops Q (o :: rest) a w :=
 Kd.event_run hgd (by unfold execOp; simp only [ho, resolve, invoke, builtin, Sem.run_bind, Sem.run_pure, Result.andThen_ok, List.map_toArray, List.map_cons, List.map_nil, hs, hx, hrun]) h
theorem zdR (W : World) (t ty e : TypeId) (i : TypeInfo) (ht : P.underlying t = some (.slice e)) (hi : P.info? e = some i) {base n size : Nat} {v : Value} {xs : List Value}
 (h : zhG W base e size v n xs) (A : Option Addr) (c : Nat) : (Builtin.append_ #[t, t] ty #[v, .slice A 0 c]).run P W = .ok v W := by
 rcases h.2 with ⟨h0, B, rfl, _⟩ | ⟨g, off, cap, cur, rfl, _, _, hnc, _⟩
 ·cases A <;> cases B <;> simp [Builtin.append_, run_underlying ht, sizeOf, typeInfo, hi, Builtin.lenOf, Builtin.firstCells, loadCells, loadCellsFrom, storeCells]
 cases A <;> simp [Builtin.append_, run_underlying ht, sizeOf, typeInfo, hi, Builtin.lenOf, Builtin.firstCells, loadCells, loadCellsFrom, hnc, storeCells]
end
section
variable {P : Program}
theorem zhL (W : World) (t ty e : TypeId) (i : TypeInfo) (ht : P.underlying t = some (.slice e)) (hi : P.info? e = some i) {base n size : Nat} {v : Value} {xs : List Value}
 (h : W.ownsRow base e size v n xs) (A : Option Addr) (c : Nat) : (Builtin.append_ #[t, t] ty #[v, .slice A 0 c]).run P W = .ok v W := zdR W t ty e i ht hi (zhD h) A c
theorem zR {α : Type} (enc : α → Value) (d0 : α) {h1 : ∀ x, (enc x).oneCell' = true} (W : World) (base : Nat) (t ty e : TypeId) (z : Value) (bytes : Nat) (ht : P.underlying t = some (.slice e))
 (hinfo : (P.info? e).map (fun i => (i.zero, i.size, i.bytes)) = some (some z, 1, bytes)) (hzs : z.cells.size = 1)
 {v : Value} {xs ys : List α} {A : Option Addr} {c : Nat} {ok : Nat → Prop} (h : Kd.R (Kd.scalar enc h1) e W base ok v xs) (hr : Kd.C (Kd.scalar enc h1) W A ys.length ys)
 (hn : (xs.length + ys.length) * bytes ≤ 140737488355328) (hb0 : 0 < bytes) (hbase : base ≤ W.heap.size) (hok : ∀ k, W.heap.size ≤ k → ok k) :
 ∃ v' W', (Builtin.append_ #[t, t] ty #[v, .slice A ys.length c]).run P W = .ok v' W' ∧ Kd.R (Kd.scalar enc h1) e W' base ok v' (xs ++ ys) ∧ W.grownBy W' v.ownBlock ∧ (v'.ownBlock = v.ownBlock ∨ ∃ b, v'.ownBlock = some b ∧ W.heap.size ≤ b) := by
 obtain ⟨i, hi, hz, hs, hb⟩ := info_parts hinfo
 have ho := Kd.own_of_R h
 have hle : xs.length + ys.length ≤ (xs.length + ys.length) * bytes := Nat.le_mul_of_pos_right _ hb0
 rcases Nat.eq_zero_or_pos ys.length with hl | hl
 ·have hy : ys = [] := List.eq_nil_of_length_eq_zero hl
  subst hy
  refine ⟨v, W, zhL W t ty e i ht hi ho A c, ?_, World.grownBy.refl _ _, .inl rfl⟩
  rw [List.append_nil]
  exact h
 have hro := Kd.reads_of_C (enc := enc) (d := d0) (h1 := h1) hr
 obtain ⟨ad, rfl, hc⟩ := hro.2.2 hl
 obtain ⟨v', W', hrun, hq', hg, _, hat⟩ := run_append_own_at (P := P) W base t ty e i _ 1 bytes ht hi hz hs hb hzs (by omega) v xs.length _ ho ad ys.length c (encs enc ys) (by rw [zO]; omega)
  (fun j u hu => by
    have hj : j < ys.length := by have := (List.getElem?_eq_some_iff.1 hu).1; rwa [zO] at this
    rw [zdD (d := d0) ys j hj] at hu
    injection hu with hu
    rw [← hu]; exact hc j hj)
  (fun u hu => by
    obtain ⟨x, _, rfl⟩ := List.mem_map.1 hu
    exact h1 x) (by unfold maxLen; omega) hn hbase
 rw [← zai, ← List.length_append] at hq'
 refine ⟨v', W', hrun, Kd.R_of_own hq' (fun k hk => ?_), hg, ?_⟩
 ·rcases hat with e1 | e1
  ·exact h.1 k (by rw [← e1]; exact hk)
  rw [e1] at hk
  injection hk with hk
  subst hk
  exact hok _ (Nat.le_refl _)
 rcases hat with e1 | e1
 ·exact .inl e1
 exact .inr ⟨_, e1, Nat.le_refl _⟩
theorem zdv {α : Type} (d : Kd α) (e : Nat) (W : World) (base : Nat) (hb : base ≤ W.heap.size) : Kd.R d e (W.alloc (.cells #[] e)) base (fun _ => True) (.slice (some ⟨W.heap.size, 0, none⟩) 0 0) ([] : List α) :=
 ⟨fun _ _ => trivial, [], ⟨by simp, .inr ⟨W.heap.size, 0, #[], rfl, hb, yw _ _, Nat.le_refl _, by simp [maxLen], by simp, by simp⟩⟩, Zo.none _ _⟩
end
theorem jW {P : Program} {f : FuncId} {args : Array Value} {w : World} {n : Nat} {v : Value}
 (h : Calls P f args (w.drewN n) fun e w' => e = .returned v ∧ zq (w.drewN n) w') : Calls P f args (w.drewN n) fun e w'' => e = .returned v ∧ ∃ m, w'' = w.drewN m :=
 h.mono fun _ _ ⟨he, ⟨m, hm⟩⟩ => ⟨he, n + m, by rw [hm, World.drewN_drewN]⟩
theorem yu {B : Nat} {w W : World} (h : Below B w W) (n : Nat) : Below B w (W.drewN n) := ⟨h.os, h.tape, h.output, h.size, h.block⟩
theorem C_drewN {α : Type} {d : Kd α} {w : World} {A : Option Addr} {n : Nat} {xs : List α} (h : d.C w A n xs) (m : Nat) : d.C (w.drewN m) A n xs := Kd.C_below h (zb (Below.refl _ _) m)
theorem Q_C {α : Type} {d : Kd α} {e : Nat} {w : World} {base : Nat} {ok : Nat → Prop} {A : Option Addr} {n c : Nat} {xs : List α} (h : d.Q e w base ok (.slice A n c) xs) : d.C w A n xs := by
 obtain ⟨h1, _, h2⟩ := Kd.Q_reads' h
 rw [h1]; exact h2
theorem R_C {α : Type} {d : Kd α} {e : Nat} {w : World} {base : Nat} {ok : Nat → Prop} {A : Option Addr} {n c : Nat} {xs : List α} (h : d.R e w base ok (.slice A n c) xs) : d.C w A n xs := Q_C (Kd.Q_of_R h)
theorem jo {α : Type} {d : Kd α} {e : Nat} {w w1 : World} {base : Nat} {ok S : Nat → Prop} {v : Value} {xs : List α} (h : d.R e w base ok v xs) (hf : Fr S w w1) (hs : ∀ k, ok k → base ≤ k → k < w.heap.size → ¬ S k) : d.R e w1 base ok v xs :=
 Kd.R_mono (Kd.R_move (Kd.R_bound h) (fun k hk => hf.block k hk.2.2.1 (hs k hk.1 hk.2.1 hk.2.2.1))) (fun _ hk => hk.1)
def OB (B : Option Addr) (k : Nat) : Prop := ∃ a, B = some a ∧ k = a.block
theorem jK {α : Type} {d : Kd α} {e : Nat} {w : World} {base : Nat} {ok : Nat → Prop} {B : Option Addr} {n c : Nat} {xs : List α} (h : d.Q e w base ok (.slice B n c) xs) : ∀ k, OB B k → base ≤ k ∧ k < w.heap.size ∧ ok k := by
 rintro k ⟨a, rfl, rfl⟩
 exact ⟨Kd.Q_base h a.block (by simp [Value.ownBlock]), Kd.Q_lt h a.block (by simp [Value.ownBlock]), h.1 a.block (by simp [Value.ownBlock])⟩
theorem JP {B : Option Addr} {n c k : Nat} (h : (Value.slice B n c).ownBlock = some k) : OB B k := by
 cases B with
 | none => simp [Value.ownBlock] at h
 | some a => exact ⟨a, rfl, by simpa [Value.ownBlock] using h.symm⟩
theorem zV {B : Option Addr} {n c k : Nat} (h : OB B k) : (Value.slice B n c).ownBlock = some k := by
 obtain ⟨a, rfl, rfl⟩ := h
 simp [Value.ownBlock]
theorem R_tight {α : Type} {enc : α → Value} {h1 : ∀ x, (enc x).oneCell' = true} {e : Nat} {w : World} {base : Nat} {ok : Nat → Prop} {B : Option Addr} {n c : Nat} {xs : List α} (h : (Kd.scalar enc h1).R e w base ok (.slice B n c) xs) :
 (Kd.scalar enc h1).R e w base (OB B) (.slice B n c) xs := Kd.R_of_own (Kd.own_of_R h) (fun _ hk => JP hk)
theorem zdf {α : Type} {enc : α → Value} {h1 : ∀ x, (enc x).oneCell' = true} {e : Nat} {w w1 : World} {base : Nat} {ok S : Nat → Prop} {B : Option Addr} {n c : Nat} {xs : List α} (h : (Kd.scalar enc h1).R e w base ok (.slice B n c) xs) (hf : Fr S w w1) (hs : ∀ k, OB B k → ¬ S k) :
 (Kd.scalar enc h1).R e w1 base ok (.slice B n c) xs :=
 Kd.R_mono (jo (R_tight h) hf (fun k hk _ _ => hs k hk)) (fun k hk => (jK (Kd.Q_of_R h) k hk).2.2)
theorem jJ {α : Type} {enc : α → Value} (d0 : α) {h1 : ∀ x, (enc x).oneCell' = true} {e : Nat} {w : World} {base : Nat} {ok : Nat → Prop} {B : Option Addr} {n c : Nat} {xs : List α} (h : (Kd.scalar enc h1).R e w base ok (.slice B n c) xs) (k : Nat) (hk : k < n) :
 ∃ g, B = some ⟨g, 0, none⟩ ∧ base ≤ g ∧ g < w.heap.size ∧ ok g ∧ w.cell? ⟨g, k, none⟩ = some (enc (xs.getD k d0)) ∧ w.frozen? ⟨g, k, none⟩ = false ∧
   ∀ x, (Kd.scalar enc h1).R e (w.setCell ⟨g, k, none⟩ (enc x)) base ok (.slice B n c) (xs.set k x) := by
 have hn : n = xs.length := (Kd.Q_reads' (Kd.Q_of_R h)).1
 obtain ⟨g, cap, hv, hb, hlt, _⟩ := Kd.R_form h (by omega)
 injection hv with h1' _ h3
 subst h1'; subst h3
 obtain ⟨h4, h5⟩ := Kd.R_celln d0 h (k : Int) (by omega) (by omega)
 rw [Int.toNat_natCast] at h4 h5
 refine ⟨g, rfl, hb, hlt, h.1 g (by simp [Value.ownBlock]), ?_, h5, fun x => ?_⟩
 ·rw [h4]; simp [zlS]
 have := (Kd.R_putg h (k : Int) x).1
 rwa [Int.toNat_natCast] at this
def Zj (W : World) : Type := { w' : World // Below W.heap.size W w' }
instance (W : World) : Nonempty (Zj W) := ⟨⟨W, Below.refl _ _⟩⟩
def Zj.w {W : World} (n : Zj W) : World := n.1
theorem Zj.below {W : World} (n : Zj W) : Below W.heap.size W n.w := n.2
theorem ziJ {P : Program} {f : FuncId} {args : Array Value} {W : World} {n : Zj W} {v : Value} (h : Calls P f args n.w fun e w' => e = .returned v ∧ Below n.w.heap.size n.w w') :
 Calls P f args n.w fun e w'' => e = .returned v ∧ ∃ m : Zj W, w'' = m.w :=
 h.mono fun _ _ ⟨he, hb⟩ => ⟨he, ⟨_, n.2.trans (hb.mono n.2.size)⟩, rfl⟩
theorem zhH {P : Program} {f : FuncId} {args : Array Value} {W : World} {n : Zj W} {v : Value} (h : Calls P f args n.w fun e w' => e = .returned v ∧ zq n.w w') :
 Calls P f args n.w fun e w'' => e = .returned v ∧ ∃ m : Zj W, w'' = m.w :=
 h.mono fun _ _ ⟨he, ⟨m, hm⟩⟩ => ⟨he, ⟨_, by rw [hm]; exact zb n.2 m⟩, rfl⟩
def zaF (A : Option Addr) (c a : Nat) : Option Addr := if c = a then A else A.map (·.add a)
section
variable {P : Program} {α : Type} {enc : α → Value} {h1 : ∀ x, (enc x).oneCell' = true}
theorem zjQ (t e : TypeId) {i : TypeInfo} (ht : P.underlying t = some (.slice e)) (hi : P.info? e = some i) (hsz : i.size = 1) (A : Option Addr) (n c a b : Nat) (hab : a ≤ b) (hb : b ≤ n) (hc : n ≤ c) (W : World) :
 (Instr.slice t (.slice A n c) (some (.int .i64 (a : Int))) (some (.int .i64 (b : Int))) none).run P W = .ok (.slice (zaF A c a) (b - a) (c - a)) W := by
 have hel : P.elem t = e := by simp [Program.elem, ht]
 have hu : P.underlying t = some (.slice (P.elem t)) := by rw [hel]; exact ht
 rw [run_slice_lh W t A n c hu .i64 .i64 (a : Int) (b : Int) (by omega) (by omega) (by omega), hel]
 simp [sizeOf, typeInfo, hi, hsz, sliced, Result.andThen, zaF]
theorem zhM (t e : TypeId) {i : TypeInfo} (ht : P.underlying t = some (.slice e)) (hi : P.info? e = some i) (hsz : i.size = 1) (A : Option Addr) (n c a : Nat) (hb : a ≤ n) (W : World) :
 (Instr.slice t (.slice A n c) (some (.int .i64 (a : Int))) none none).run P W = .ok (.slice (zaF A c a) (n - a) (c - a)) W := by
 have h := zmy (P := P) t e .i64 ht hi 1 hsz A n c (a : Int) (by omega) (by omega) W
 rw [h, Int.toNat_natCast, Nat.mul_one]
 rfl
theorem zie (t e : TypeId) {i : TypeInfo} (ht : P.underlying t = some (.slice e)) (hi : P.info? e = some i) (A : Option Addr) (n c b : Nat) (hb : b ≤ n) (hc : n ≤ c) (W : World) :
 (Instr.slice t (.slice A n c) none (some (.int .i64 (b : Int))) none).run P W = .ok (.slice A b c) W := by
 have h := zoK (P := P) t e .i64 ht hi A n c (b : Int) (by omega) (by omega) hc W
 rw [h, Int.toNat_natCast]
theorem zot (d0 : α) {w : World} {xs : List α} {A : Option Addr} {n : Nat} (c a b : Nat) (h : Kd.C (Kd.scalar enc h1) w A n xs) (hab : a ≤ b) (hb : b ≤ n) (hc : n ≤ c) : Kd.C (Kd.scalar enc h1) w (zaF A c a) (b - a) ((xs.drop a).take (b - a)) := by
 have hr := Kd.reads_of_C (enc := enc) (d := d0) (h1 := h1) h
 have h2 := (hr.take_ b hb).drop_ (c := c) a hab (by omega)
 rw [List.drop_take] at h2
 exact Kd.C_of_reads (d := d0) h2
theorem zoY (d0 : α) {w : World} {xs : List α} {A : Option Addr} {n : Nat} (c a : Nat) (h : Kd.C (Kd.scalar enc h1) w A n xs) (hb : a ≤ n) (hc : n ≤ c) : Kd.C (Kd.scalar enc h1) w (zaF A c a) (n - a) (xs.drop a) :=
 Kd.C_of_reads (d := d0) ((Kd.reads_of_C (enc := enc) (d := d0) (h1 := h1) h).drop_ (c := c) a hb hc)
theorem zoL (d0 : α) {w : World} {xs : List α} {A : Option Addr} {n : Nat} (b : Nat) (h : Kd.C (Kd.scalar enc h1) w A n xs) (hb : b ≤ n) : Kd.C (Kd.scalar enc h1) w A b (xs.take b) :=
 Kd.C_of_reads (d := d0) ((Kd.reads_of_C (enc := enc) (d := d0) (h1 := h1) h).take_ b hb)
end
theorem zlN {α : Type} {enc : α → Value} (d0 : α) {h1 : ∀ x, (enc x).oneCell' = true} {S : Nat → Prop} {w w1 : World} {A : Option Addr} {n : Nat} {xs : List α} (h : Kd.C (Kd.scalar enc h1) w A n xs) (hf : Fr S w w1)
 (hs : ∀ ad, A = some ad → 0 < n → ¬ S ad.block) : Kd.C (Kd.scalar enc h1) w1 A n xs := by
 have hr := Kd.reads_of_C (enc := enc) (d := d0) (h1 := h1) h
 refine Kd.C_of_reads (d := d0) ⟨hr.1, hr.2.1, fun hn => ?_⟩
 obtain ⟨ad, rfl, hc⟩ := hr.2.2 hn
 refine ⟨ad, rfl, fun j hj => hf.cell (hc j hj) ?_⟩
 rw [show (ad.add j).block = ad.block from by unfold Addr.add; split <;> rfl]
 exact hs ad rfl hn
end Go.Proofs.Ytpeiejkcoadhfaa
namespace Go.Proofs.Ytpeiejkcoadhfaa
open Go.RowKit Go.ChangeShapes Go.WideShapes Go.Proofs.YtpeiejkcoadhfaaW.PrintWords
theorem zmm {H : Type} (d : DataW H) : 1 ≤ Rows.uptoBulk d := by
 cases d with
 | lit l => cases l <;> simp [Rows.uptoBulk]
 | nil => simp [Rows.uptoBulk]
 | ptr d => simp [Rows.uptoBulk]
 | slice elems spare => simp [Rows.uptoBulk]
 | agg parts => simp [Rows.uptoBulk]
 | iface t d => simp [Rows.uptoBulk]
 | map entries => simp [Rows.uptoBulk]
 | held h => simp [Rows.uptoBulk]
def ZA (P : Program) {α : Type} (d : Kd α) (t : TypeId) (wf : α → Prop) (mu : α → Nat) : Prop :=
 d.sz = P.cellsOf t ∧ ∀ (H : Type) (enc : TypeId × Value → H) (W : World) (base : Nat) (spare : Nat → Bool) (held : Bool) (fuel : Nat) (cs : List Value) (x : DataW H × List MemPlace),
  DataW.trod enc P W base spare held fuel t cs = some x → ∃ a : α, d.K W a cs ∧ wf a ∧ mu a ≤ Rows.uptoBulk x.1
section
variable {P : Program}
theorem zfu (t : TypeId) (k : IntKind) (ht : P.underlying t = some (.int k)) (hc : P.cellsOf t = 1) : ZA P (Kd.int k) t (fun x => (Lit.int k x).wf = true) (fun _ => 1) := by
 refine ⟨hc.symm, fun H enc W base spare held fuel cs x h => ?_⟩
 obtain ⟨n, rfl, rfl, hw⟩ := DataW.trod_int ht h
 exact ⟨n, rfl, hw, zmm _⟩
theorem zcT {H : Type} {α : Type} (mu : α → Nat) : ∀ (l : List α) (D : List (DataW H)), l.length = D.length → (∀ (i : Nat) (a : α) (x : DataW H), l[i]? = some a → D[i]? = some x → mu a ≤ Rows.uptoBulk x) → (l.map mu).sum ≤ Rows.uptoBulkAll D
 | [], [], _, _ => by simp [Rows.uptoBulkAll]
 | a :: l, x :: D, hl, h => by
   have h0 := h 0 a x rfl rfl
   have h1 := zcT mu l D (by simpa using hl) (fun i b y hb hy => h (i + 1) b y (by simpa using hb) (by simpa using hy))
   simp only [List.map_cons, List.sum_cons, Rows.uptoBulkAll]
   omega
 | [], _ :: _, hl, _ => by simp at hl
 | _ :: _, [], hl, _ => by simp at hl
theorem zmk {α : Type} (n : Nat) (p : Nat → α → Prop) (h : ∀ i, i < n → ∃ a, p i a) : ∃ l : List α, l.length = n ∧ ∀ (i : Nat) (a : α), l[i]? = some a → p i a := by
 induction n with
 | zero => exact ⟨[], rfl, fun i a ha => by simp at ha⟩
 | succ n ih =>
   obtain ⟨l, hl, hp⟩ := ih (fun i hi => h i (by omega))
   obtain ⟨a, ha⟩ := h n (by omega)
   refine ⟨l ++ [a], by simp [hl], fun i b hb => ?_⟩
   rcases Nat.lt_or_ge i n with hi | hi
   ·rw [List.getElem?_append_left (by omega)] at hb
    exact hp i b hb
   rw [List.getElem?_append_right (by omega)] at hb
   rcases Nat.eq_or_lt_of_le hi with he | he
   ·subst he
    rw [hl, Nat.sub_self] at hb
    have : a = b := by simpa using hb
    subst this; exact ha
   rw [List.getElem?_eq_none (by simp; omega)] at hb
   cases hb
theorem Jt {α : Type} {d : Kd α} {e : Nat} {wf : α → Prop} {mu : α → Nat} (t : TypeId) (ht : P.underlying t = some (.slice e)) (hc : P.cellsOf t = 1) (he : ZA P d e wf mu) :
 ZA P (Kd.slice e d) t (fun l => ∀ a ∈ l, wf a) (fun l => (l.map mu).sum + 1) := by
 refine ⟨hc.symm, fun H enc W base spare held fuel cs x h => ?_⟩
 rcases Go.Deep.open_slice ht h with ⟨rfl, rfl⟩ | ⟨a, len, cap, m, n, D, Pl, rfl, _, hl, hm, hmm, rfl, hi⟩
 ·refine ⟨[], ⟨none, 0, rfl, Nat.le_refl _, rfl, Nat.zero_le _, fun h => absurd h (by simp)⟩, fun a ha => (by cases ha), by simp [Rows.uptoBulk]⟩
 have hlm : len ≤ m := by rw [hmm]; split <;> omega
 obtain ⟨l, hll, hp⟩ := zmk len (fun i (b : α) => ∃ cs', W.cells? base (a.add (i * P.cellsOf e)) (P.cellsOf e) = some cs' ∧ d.K W b cs' ∧ wf b ∧ mu b ≤ Rows.uptoBulk (D i)) (fun i hlt => by
  obtain ⟨cs', h1, h2⟩ := hi i (by omega)
  obtain ⟨b, h3, h4, h5⟩ := he.2 H enc W base spare held n cs' _ h2
  exact ⟨b, cs', h1, h3, h4, h5⟩)
 refine ⟨l, ⟨some a, cap, by rw [hll], by omega, ?_⟩, fun b hb => ?_, ?_⟩
 ·refine ⟨rfl, by rw [hll]; simp only [maxLen] at hm; omega, fun _ => ⟨a, rfl, fun j p hj => ?_⟩⟩
  obtain ⟨cs', h1, h2, _, _⟩ := hp j p hj
  obtain ⟨_, hlen, hat⟩ := World.cells?_some h1
  refine ⟨cs', by rw [hlen, he.1], h2, fun i u hu => ?_⟩
  have hil : i < P.cellsOf e := by have := (List.getElem?_eq_some_iff.1 hu).1; omega
  rw [he.1, ← Go.Deep.add_add, hat i hil, hu]
 ·obtain ⟨i, hb⟩ := List.getElem?_of_mem hb
  obtain ⟨cs', _, _, h3, _⟩ := hp i b hb
  exact h3
 have := zcT (H := H) mu l ((List.range len).map D) (by simp [hll]) (fun i b y hb hy => by
  obtain ⟨cs', _, _, _, h4⟩ := hp i b hb
  have hlt : i < len := by have := (List.getElem?_eq_some_iff.1 hb).1; omega
  rw [List.getElem?_map, List.getElem?_range hlt] at hy
  have : D i = y := by simpa using hy
  rw [← this]; exact h4)
 simp only [Rows.uptoBulk]
 omega
def zgz (P : Program) {α : Type} (d : Kd α) (fs : List Field) (off : Nat) (wf : α → Prop) (mu : α → Nat) : Prop :=
 ∀ (H : Type) (enc : TypeId × Value → H) (W : World) (base : Nat) (spare : Nat → Bool) (held : Bool) (fuel : Nat) (cs : List Value) (xs : List (DataW H × List MemPlace)), xs.length = fs.length → off + d.sz ≤ cs.length →
   (∀ (i : Nat) (f : Field), fs[i]? = some f → DataW.trod enc P W base spare held fuel f.type ((cs.drop f.offset).take (P.cellsOf f.type)) = xs[i]?) → ∃ a : α, d.K W a ((cs.drop off).take d.sz) ∧ wf a ∧ mu a ≤ Rows.uptoBulkAll (xs.map (·.1))
theorem zbD {α : Type} {d : Kd α} {wf : α → Prop} {mu : α → Nat} (f : Field) (off : Nat) (ho : f.offset = off) (h : ZA P d f.type wf mu) : zgz P d [f] off wf mu := by
 intro H enc W base spare held fuel cs xs hl hlen hx
 match xs, hl with
 | [x], _ =>
   have h0 := hx 0 f rfl
   rw [ho, ← h.1] at h0
   obtain ⟨a, h1, h2, h3⟩ := h.2 H enc W base spare held fuel _ x h0
   exact ⟨a, h1, h2, by simp only [List.map_cons, List.map_nil, Rows.uptoBulkAll]; omega⟩
theorem yT {α β : Type} {d : Kd α} {d' : Kd β} {wf : α → Prop} {mu : α → Nat} {wf' : β → Prop} {mu' : β → Nat} (f : Field) (fs : List Field) (off : Nat) (ho : f.offset = off) (h : ZA P d f.type wf mu) (h' : zgz P d' fs (off + d.sz) wf' mu') :
 zgz P (Kd.pair d d') (f :: fs) off (fun p => wf p.1 ∧ wf' p.2) (fun p => mu p.1 + mu' p.2) := by
 intro H enc W base spare held fuel cs xs hl hlen hx
 match xs, hl with
 | x :: xs, hl =>
   have hsz : (Kd.pair d d').sz = d.sz + d'.sz := rfl
   rw [hsz] at hlen
   have h0 := hx 0 f rfl
   rw [ho, ← h.1] at h0
   obtain ⟨a, h1, h2, h3⟩ := h.2 H enc W base spare held fuel _ x h0
   obtain ⟨b, k1, k2, k3⟩ := h' H enc W base spare held fuel cs xs (by simpa using hl) (by omega) (fun i g hg => by have := hx (i + 1) g (by simpa using hg); simpa using this)
   refine ⟨(a, b), ⟨_, _, ?_, h1, k1⟩, ⟨h2, k2⟩, by simp only [List.map_cons, Rows.uptoBulkAll]; omega⟩
   rw [hsz, List.take_add, List.drop_drop]
theorem JZ {α β : Type} {d : Kd α} {wf : α → Prop} {mu : α → Nat} (t : TypeId) (fs : Array Field) (ht : P.underlying t = some (.struct fs)) (hc : P.cellsOf t = d.sz) (h : zgz P d fs.toList 0 wf mu) (f : β → α) (g : α → β) (hfg : ∀ a, f (g a) = a) :
 ZA P (Kd.iso d f) t (fun b => wf (f b)) (fun b => mu (f b) + 1) := by
 refine ⟨hc.symm, fun H enc W base spare held fuel cs x hx => ?_⟩
 obtain ⟨xs, n, rfl, rfl, hl, hxl, hat⟩ := DataW.trod_struct ht hx
 obtain ⟨a, h1, h2, h3⟩ := h H enc W base spare held n cs xs (by simpa using hxl) (by omega) (fun i g hg => hat i g (by simpa using hg))
 refine ⟨g a, ?_, by show wf (f (g a)); rw [hfg]; exact h2, ?_⟩
 ·show d.K W (f (g a)) cs
  rw [hfg]
  rwa [List.drop_zero, List.take_of_length_le (by omega)] at h1
 show mu (f (g a)) + 1 ≤ _
 rw [hfg]
 simp only [Rows.uptoBulk]
 omega
theorem ZT {H : Type} {enc : TypeId × Value → H} {W : World} {base : Nat} {spare : Nat → Bool} {held : Bool} {α : Type} {d : Kd α} {e t : Nat} {wf : List α → Prop} {mu : List α → Nat} {a : Option Addr} {len cap : Nat} {dd : DataW H} {p : List MemPlace}
 (ho : ZA P (Kd.slice e d) t wf mu) (h : DataW.Trod enc P W base spare held t (.slice a len cap) dd p) : ∃ l : List α, l.length = len ∧ d.C W a len l ∧ len ≤ cap ∧ wf l ∧ mu l ≤ Rows.uptoBulk dd := by
 obtain ⟨fuel, hf⟩ := h
 obtain ⟨l, ⟨A, c, hv, hle, hC⟩, hw, hm⟩ := ho.2 H enc W base spare held fuel _ _ hf
 have hv' : [Value.slice a len cap] = [.slice A l.length c] := hv
 injection hv' with hv' _
 injection hv' with h1 h2 h3
 subst h1; subst h2; subst h3
 exact ⟨l, rfl, hC, hle, hw, hm⟩
theorem zgn {H : Type} {enc : TypeId × Value → H} {W : World} {base : Nat} {spare : Nat → Bool} {held : Bool} {α : Type} {d : Kd α} {t : Nat} {wf : α → Prop} {mu : α → Nat} {cs : Array Value} {dd : DataW H} {p : List MemPlace}
 (ho : ZA P d t wf mu) (h : DataW.Trod enc P W base spare held t (.agg cs) dd p) : ∃ a : α, d.K W a cs.toList ∧ wf a ∧ mu a ≤ Rows.uptoBulk dd := by
 obtain ⟨fuel, hf⟩ := h
 obtain ⟨a, hK, hw, hm⟩ := ho.2 H enc W base spare held fuel _ _ hf
 exact ⟨a, hK, hw, hm⟩
end
end Go.Proofs.Ytpeiejkcoadhfaa
namespace Go.Proofs.Ytpeiejkcoadhfaa
open Go.RowKit Go.Shelf Go.Proofs.YtpeiejkcoadhfaaW.PrintWords
def Abd {β : Type} (B : Nat) (I : β → World → Prop) : Prop :=
 ∀ s W W', I s W → Fr (fun k => B ≤ k ∧ ∃ o, W.heap[k]? = some o ∧ o.isCells = false) W W' → I s W'
def zmP {α : Type} (P : Program) (g : Nat) (lb : Array Value) (encs : α → Array Value) (Rel : List α → α → World → Prop) (S : Nat → Prop) (Full : List α → Prop) (w : World) : Prop :=
 ∀ (l : Nat) (J : List α → World → Prop) (W : World), Below w.heap.size w W → (∀ s A B, J s A → Below A.heap.size A B → J s B) →
   (∀ pre x W1, J pre W1 → Rel pre x W1 → YieldAt Fence.wide 1 P l (encs x) W1 fun e W' => e = .returned (.bool true) ∧ J (pre ++ [x]) W' ∧ Fr (fun k => S k ∨ w.heap.size ≤ k) W1 W') →
   J [] W → CallsIn Fence.wide 2 P g (#[.func (.yield l) #[] #[]] ++ lb) W fun e W' => (∃ v, e = .returned v) ∧ ∃ xs, Full xs ∧ J xs W'
def zmr (T : World → World → Prop) (K : World → Prop) (W : World) : Exit → Act → World → Prop
 | .normal, _, W' => T W W' ∧ K W'
 | _, _, _ => False
theorem zaH {P : Program} {α : Type} {g : Operand} {ps : Array Tmp} {assign body : Code} {Q : Exit → Act → World → Prop} {a : Act} {w : World}
 {gf : Nat} {lb : Array Value} (hg : a.eval g = .func (.func gf) #[] lb) (eg : ∀ args w, (callFunc gf args).run P w = .ok (.enter gf args) w)
 {encs : α → Array Value} {Rel : List α → α → World → Prop} {S : Nat → Prop} {Full : List α → Prop} (hseq : zmP P gf lb encs Rel S Full w) (hps : ∀ x, (encs x).size = ps.size) (hS : ∀ k, S k → k < w.heap.size)
 (I : List α → World → Prop) (hI : Abd w.heap.size I) (hRel : ∀ pre, Abd w.heap.size (Rel pre)) (h0 : I [] w) (a₁ : α → Act)
 (hassign : ∀ (l : Nat) (pre : List α) (x : α) (W : World) (K : Act → World → Prop), Rel pre x W → K (a₁ x) W →
   assign.wpIn (Fence.wide.inRound l) 1 P (Exit.then K (fun _ _ _ => False)) { tmps := (ps.zip (encs x)).foldl (fun t (p, v) => t.setIfInBounds p v) a.tmps, defers := [] } W)
 (hbody : ∀ (l : Nat) (pre : List α) (x : α) (W : World), w.heap.size + 2 ≤ W.heap.size → I pre W → Rel pre x W → body.wpIn (Fence.wide.inRound l) 1 P (zmr (Fr fun k => S k ∨ w.heap.size + 2 ≤ k) (I (pre ++ [x])) W) (a₁ x) W)
 (hdone : ∀ (xs : List α) (W : World), Full xs → I xs W → W.heap[w.heap.size]? = some (.deferred (some [])) → Q .normal { a with defers := { target := .collected w.heap.size, args := #[] } :: a.defers } W) :
 (Code.rangeFunc g ps assign body).wpIn Fence.wide 3 P Q a w := by
 refine wpIn_rangeFunc ?_
 intro fn hfn
 let rec_ : LoopState → Loop := fun st => { state := st, pending := none, fn, tmps := a.tmps, params := ps, assign, body, defers := w.heap.size }
 obtain ⟨W1, hW1⟩ : ∃ W1, (w.alloc (.deferred (some []))).alloc (.loop (rec_ .ready)) = W1 := ⟨_, rfl⟩
 have hz1 : W1.heap.size = w.heap.size + 2 := by rw [← hW1]; simp
 have hb1 : Below w.heap.size w W1 := by rw [← hW1]; exact zc (zc (Below.refl _ _) _) _
 have hL1 : W1.heap[w.heap.size + 1]? = some (.loop (rec_ .ready)) := by
  rw [← hW1]
  have := World.alloc_heap_new (w.alloc (.deferred (some []))) (.loop (rec_ .ready))
  rwa [World.size_alloc] at this
 have hK1 : W1.heap[w.heap.size]? = some (.deferred (some [])) := by
  rw [← hW1]; exact (Below.heap_alloc _ _ _ (by simp)).trans (World.alloc_heap_new w _)
 refine ⟨w.heap.size + 1, [{ target := .collected w.heap.size, args := #[] }], W1, { target := .fn (.func gf) lb, args := #[.func (.yield (w.heap.size + 1)) #[] #[]] }, W1, gf,
  #[.func (.yield (w.heap.size + 1)) #[] #[]] ++ lb, W1, ?_, ?_, ?_, ?_, (fun _ => by omega), ?_⟩
 ·rw [← hW1]; exact run_enterLoop_outer _ _ _ _ _
 ·simp only [resolve, hg]
  simp [go_sem]
 ·intro f' _; exact trivial
 ·simp [invoke, go_sem, eg]
 ·
  have put : ∀ (W : World) (o o' : Obj), W.heap[w.heap.size + 1]? = some o → o.isCells = false → Fr (fun k => w.heap.size ≤ k ∧ ∃ o, W.heap[k]? = some o ∧ o.isCells = false) W (W.putObj (w.heap.size + 1) o') := fun W o o' h hc =>
   ⟨rfl, rfl, rfl, by simp, fun k _ hk => World.putObj_heap_other (fun e => hk (by subst e; exact ⟨by omega, o, h, hc⟩))⟩
  refine (hseq (w.heap.size + 1) (fun pre W => I pre W ∧ W.heap[w.heap.size + 1]? = some (.loop (rec_ .ready)) ∧ W.heap[w.heap.size]? = some (.deferred (some []))) W1 hb1 ?_ ?_ ⟨?_, hL1, hK1⟩).mono ?_
  ·rintro s A B ⟨hi, hl, hk⟩ hb
   refine ⟨hI s A B hi (Fr.of_below hb _), (hb.block _ (Array.getElem?_eq_some_iff.1 hl).1).trans hl, (hb.block _ (Array.getElem?_eq_some_iff.1 hk).1).trans hk⟩
  ·
   rintro pre x W ⟨hi, hl, hk⟩ hr
   have hlt : w.heap.size + 1 < W.heap.size := (Array.getElem?_eq_some_iff.1 hl).1
   refine ⟨fn, _, assign, body, run_yield hl (hps x), roundIn_of_wpIn hfn (hassign _ pre x W _ hr ⟨_, run_beginRound hl rfl, ?_⟩)⟩
   obtain ⟨W2, hW2⟩ : ∃ W2, W.putObj (w.heap.size + 1) (.loop (rec_ .busy)) = W2 := ⟨_, rfl⟩
   have hf2 := put W _ (.loop (rec_ .busy)) hl rfl
   have hl2 : W2.heap[w.heap.size + 1]? = some (.loop (rec_ .busy)) := by rw [← hW2]; exact World.putObj_heap_same hlt
   have hk2 : W2.heap[w.heap.size]? = some (.deferred (some [])) := by rw [← hW2]; exact (World.putObj_heap_other (by omega)).trans hk
   have hz2 : W2.heap.size = W.heap.size := by rw [← hW2]; simp
   have hf2' : Fr (fun k => S k ∨ w.heap.size ≤ k) W W2 := by rw [← hW2]; exact hf2.mono (fun k hk => .inr hk.1)
   rw [hW2] at hf2
   show body.wpIn (Fence.wide.inRound (w.heap.size + 1)) 1 P _ (a₁ x) (W.putObj (w.heap.size + 1) (.loop (rec_ .busy)))
   rw [hW2]
   refine wpIn_mono (hbody _ pre x W2 (by omega) (hI pre W W2 hi hf2) (hRel pre x W W2 hr hf2)) ?_
   intro e a3 W3 hp
   cases e with
   | normal =>
     obtain ⟨hf3, hi3⟩ := hp
     have hl3 := hf3.blk hl2 (fun h => by rcases h with h | h; exact absurd (hS _ h) (by omega); omega)
     have hk3 := hf3.blk hk2 (fun h => by rcases h with h | h; exact absurd (hS _ h) (by omega); omega)
     have hf4 := put W3 _ (.loop (rec_ .ready)) hl3 rfl
     have hlt3 : w.heap.size + 1 < W3.heap.size := (Array.getElem?_eq_some_iff.1 hl3).1
     refine ⟨_, _, run_endRound none hl3, rfl, ⟨hI _ _ _ hi3 hf4, World.putObj_heap_same hlt3, (World.putObj_heap_other (by omega)).trans hk3⟩, ?_⟩
     exact (hf2'.trans' (hf3.mono (fun k hk => hk.elim .inl (fun h => .inr (by omega))))).trans' (hf4.mono (fun k hk => .inr hk.1))
   | ret => exact hp.elim
   | exit id => exact hp.elim
   | goto t => exact hp.elim
   | panic ch => exact hp.elim
   | outgrown => exact hp.elim
  ·exact hI [] w W1 h0 (Fr.of_below hb1 _)
  ·
   rintro e W2 ⟨⟨v, rfl⟩, xs, hF, hi, hl, hk⟩
   exact ⟨none, _, run_endLoop hl (by simp [rec_]), hdone xs _ hF (hI _ _ _ hi (put W2 _ _ hl rfl)) ((World.putObj_heap_other (by omega)).trans hk)⟩
theorem zh {W : World} {g j : Nat} {cs : Array Value} {t : TypeId} {v : Value} (h : W.heap[g]? = some (.cells cs t (0, 0))) (hj : cs[j]? = some v) : W.cell? ⟨g, j, none⟩ = some v := by
 simp [World.cell?, h, hj]
theorem yV {W : World} {g j : Nat} {cs : Array Value} {t : TypeId} (h : W.heap[g]? = some (.cells cs t (0, 0))) : W.frozen? ⟨g, j, none⟩ = false := by
 simp [World.frozen?, h]
theorem zip1 (p : Tmp) (u : Value) (T : Array Value) : ((#[p] : Array Tmp).zip #[u]).foldl (fun t (x : Tmp × Value) => t.setIfInBounds x.1 x.2) T = T.setIfInBounds p u := by simp
theorem zlw (p q : Tmp) (u v : Value) (T : Array Value) : ((#[p, q] : Array Tmp).zip #[u, v]).foldl (fun t (x : Tmp × Value) => t.setIfInBounds x.1 x.2) T = (T.setIfInBounds p u).setIfInBounds q v := by simp
theorem JM (W : World) (D : Nat) (o : Obj) : Fr (fun k => k = D) W (W.putObj D o) :=
 ⟨rfl, rfl, rfl, by simp, fun k _ hk => World.putObj_heap_other hk⟩
end Go.Proofs.Ytpeiejkcoadhfaa
namespace Go.Proofs.Ytpeiejkcoadhfaa
open Go.RowKit Go.Shelf Go.Proofs.YtpeiejkcoadhfaaW.PrintWords
attribute [local go_sem] Oper.semAt_some
theorem zhR (a : Nat) (ha : a < 256) : (BitVec.ofInt 8 (a : Int)).toNat = a := by
 rw [BitVec.ofInt_natCast, BitVec.toNat_ofNat]; exact Nat.mod_eq_of_lt (by omega)
theorem zis (a b : Nat) (ha : a < 256) (hb : b < 256) : bits .xor .u8 (a : Int) (b : Int) = ((a ^^^ b : Nat) : Int) := by
 have hx : a ^^^ b < 2 ^ 8 := Nat.xor_lt_two_pow (by omega) (by omega)
 show IntKind.u8.wrap ((BitVec.ofInt 8 (a : Int) ^^^ BitVec.ofInt 8 (b : Int)).toNat : Int) = _
 rw [BitVec.toNat_xor, zhR a ha, zhR b hb]
 simp only [IntKind.wrap, IntKind.bits, IntKind.signed]
 simp
 omega
set_option maxRecDepth 100000 in
theorem zoI : ∀ a < 256, 128 ≤ a → ((2 * a) % 256) ^^^ 27 = Gf.dbl a := by decide +kernel
set_option maxRecDepth 100000 in
theorem zpb : ∀ a < 256, Gf.dbl a < 256 := by decide +kernel
set_option maxRecDepth 100000 in
theorem zpc : ∀ a < 128, (2 * a) % 256 = Gf.dbl a := by decide +kernel
set_option maxRecDepth 100000 in
theorem ziY (w : World) (a : Nat) (ha : a < 256) : Calls Try.prog 116 #[.int .u8 a] w fun e w' => e = .returned (.int .u8 (Gf.dbl a : Nat)) ∧ w = w' := by
 by_cases h : 128 ≤ a
 ·have hx : bits .xor .u8 ((a : Int) * 2 % 256) 27 = ((Gf.dbl a : Nat) : Int) := by
   have hx := zis ((2 * a) % 256) 27 (Nat.mod_lt _ (by omega)) (by omega)
   rw [zoI a ha h] at hx
   rw [← hx]
   congr 1
   omega
  have HX := za.mk hx
  clear hx
  go_enter Try.func116, Try.ntmps116
  go_wp2
  go_ret
  exact ⟨congrArg (fun z => Ending.returned (.int .u8 z)) HX.out, rfl⟩
 have hx : (a : Int) * 2 = ((Gf.dbl a : Nat) : Int) := by rw [← zpc a (by omega)]; omega
 have HX := za.mk hx
 clear hx
 go_enter Try.func116, Try.ntmps116
 go_wp2
 go_ret
 exact ⟨congrArg (fun z => Ending.returned (.int .u8 z)) HX.out, rfl⟩
def zmC (x : Nat × Nat) : Array Value := #[.int .i64 (x.1 : Int), .int .u8 (x.2 : Int)]
def ZS (k : Nat) : List (Nat × Nat) := (List.range k).map fun n => (n, Gf.E n)
theorem zgm (k : Nat) : ZS (k + 1) = ZS k ++ [(k, Gf.E k)] := by simp [ZS, List.range_succ]
theorem Jk (k : Nat) : (ZS k).length = k := by simp [ZS]
set_option maxRecDepth 100000 in
theorem ziu (S : Nat → Prop) (w : World) : zmP Try.prog 115 #[] zmC (fun pre x _ => x = (pre.length, Gf.E pre.length) ∧ pre.length < 255) S (fun xs => xs = ZS 255) w := by
 intro l J W hW hJ hY h0
 refine callsIn_of_wp Try.func115 rfl trivial ?_ rfl
 simp only [Try.ntmps115, List.size_toArray, List.length_cons, List.length_nil, Nat.reduceAdd, Nat.reduceSub, Array.replicate_succ, Array.replicate_zero, List.push_toArray, List.append_toArray, List.nil_append, List.cons_append]
 gi_wp2
 gi_loopw [2, 4] (fun v2 v4 wr => ∃ (k a : Nat), k ≤ 255 ∧ v4 = .int .i64 k ∧ v2 = .int .u8 a ∧ a < 256 ∧ (k < 255 → a = Gf.E k) ∧ J (ZS k) wr) (fun _ v4 _ => 255 - (intOf v4).toNat)
 case atStart => exact ⟨0, 1, by omega, rfl, rfl, by omega, fun _ => by decide +kernel, h0⟩
 obtain ⟨k, a, hk, rfl, rfl, ha, hae, hj⟩ := hrel
 have HY := za.mk hY
 have HJ := za.mk hJ
 have HAE := za.mk hae
 clear hY hJ hae
 by_cases hlt : k < 255
 ·obtain ⟨fn, tmps, assign, body, hy, hR⟩ := HY.out (ZS k) (k, a) wr hj ⟨by rw [Jk, HAE.out hlt], by rw [Jk]; exact hlt⟩
  have hy' : (Instr.yield l #[.int .i64 (k : Int), .int .u8 (a : Int)]).run Try.prog wr = .ok (.round l fn tmps assign body) wr := hy
  clear hy
  have hd : Gf.dbl a < 256 := zpb a ha
  have HX := za.mk (zis a (Gf.dbl a) ha hd)
  gi_wp2
  refine hR.mono ?_
  rintro e W' ⟨rfl, hj', -⟩
  gi_wp2_with (refine ⟨trivial, ?_⟩; gi_at_call 116; refine (callsIn_wide.2 (ziY _ a ha)).mono ?_; rintro e W' ⟨rfl, rfl⟩)
  rw [HX.out]
  gi_wp2
  have hs : k + 1 < 255 → Gf.E (k + 1) = a ^^^ Gf.dbl a := fun h => by rw [Gf.E_step k (by omega), ← HAE.out hlt]; rfl
  go_roundw
  case rel => exact ⟨k + 1, a ^^^ Gf.dbl a, by omega, rfl, rfl, Nat.xor_lt_two_pow (n := 8) (by omega) (by omega), fun h => (hs h).symm, by rw [zgm, ← HAE.out hlt]; exact hj'⟩
  simp only [intOf]; omega
 have hk5 : k = 255 := by omega
 subst hk5
 gi_wp2
 go_end0
 exact ⟨⟨_, rfl⟩, _, rfl, hj⟩
end Go.Proofs.Ytpeiejkcoadhfaa
namespace Go.Proofs.Ytpeiejkcoadhfaa
open Go.RowKit Go.Shelf
def ZP (o : Oper) : Bool := match o.op with | .defer _ => false | _ => true
theorem zbX {o : Oper} (h : ZP o = true) : ∀ c, o.op ≠ .defer c := fun c hc => by simp [ZP, hc] at h
theorem zgu {F : Fence} {n : Nat} {P : Program} {o : Oper} {a : Act} {w : World} {K : Act → World → Prop} {Q : Exit → Act → World → Prop} (l : Nat) (hro : F.round = none) (hp : ZP o = true)
 (h : o.wpIn F n P a w K Q) : o.wpIn (F.inRound l) n P a w K Q := by
 unfold Oper.wpIn at *
 rw [Fence.inRound_round, Oper.semAt_some l _ o (zbX hp)]
 rw [hro, Oper.semAt_none] at h
 exact h
theorem zht {F : Fence} {n : Nat} {P : Program} {md : Region.Mode} {ops : Array Oper} {Q : Exit → Act → World → Prop} (l : Nat) (hro : F.round = none) (hp : ∀ (i : Nat) (o : Oper), ops[i]? = some o → ZP o = true) :
 ∀ (fuel : Nat) (listed : Array Bool) (a : Act) (w : World), wpAnyIn F n P md ops Q fuel listed a w → wpAnyIn (F.inRound l) n P md ops Q fuel listed a w := by
 intro fuel
 induction fuel with
 | zero => exact fun _ _ _ h => h
 | succ fuel ih =>
   intro listed a w h
   refine ⟨h.1, fun i hi => ?_⟩
   have h1 := wpOpIn_mono (K' := wpAnyIn (F.inRound l) n P md ops Q fuel (listed.setIfInBounds i true)) (fun a w h => ih _ a w h) (h.2 i hi)
   unfold wpOpIn at *
   cases ho : ops[i]? with
   | none => simpa only [ho] using h1
   | some o =>
     simp only [ho] at h1 ⊢
     split
     ·rename_i hw; simp only [hw, if_true] at h1; exact zgu l hro (hp i o ho) h1
     rename_i hw; simp only [hw] at h1; exact h1
theorem jy {F : Fence} {n : Nat} {P : Program} {id : Nat} {ops : Array Oper} {Q : Exit → Act → World → Prop} {a : Act} {w : World} (l : Nat) (hm : P.follows .mixedOrders = true) (hro : F.round = none) (hp : ops.all ZP = true)
 (h : wpAnyIn F n P .any ops Q ops.size (Array.replicate ops.size false) a w.drew) : (Code.region id ops true).wpIn (F.inRound l) n P Q a w :=
 wpIn_region_any hm (zht l hro (fun i o ho => by
  rw [Array.all_eq_true] at hp
  obtain ⟨hi, rfl⟩ := Array.getElem?_eq_some_iff.1 ho
  exact hp i hi) _ _ _ _ h)
end Go.Proofs.Ytpeiejkcoadhfaa
namespace Go.Proofs.Ytpeiejkcoadhfaa
open Go.RowKit Go.Shelf Go.Proofs.YtpeiejkcoadhfaaW.PrintWords
section
variable {F : Fence} {n : Nat} {P : Program} {ops : Array Oper} {rest : List Oper} {o : Oper} {a : Act} {Q : Exit → Act → World → Prop} {w w' : World} {v y v' : Value}
theorem zbh (hgd : o.guard = none) (s x : Operand) (t t' : TypeId)
 (ho : o.op = .call { callee := .builtin .append, args := #[s, x], argTypes := #[t, t'] }) (hs : a.eval s = v) (hx : a.eval x = y) (hrun : (Builtin.append_ #[t, t'] o.type #[v, y]).run P w = .ok v' w')
 (h : wpListIn F n P ops Q rest (a.put o.dst v') w') : wpListIn F n P ops Q (o :: rest) a w := by
 refine wpListIn_plain hgd fun K hK' => ?_
 unfold Oper.wpIn
 refine ⟨?_, ?_⟩
 ·simp [Oper.about, ho, resolve, Target.leads, Sem.run_pure]
 rw [Oper.semAt_plain F _ _ (by rw [ho]; intro c hc'; cases hc')]
 simp only [execOp, ho, resolve, invoke, builtin, Sem.run_bind, Sem.run_pure, Result.andThen_ok, List.map_toArray, List.map_cons, List.map_nil, hs, hx, hrun]
 exact hK' _ _ h
end
section
variable {P : Program}
theorem zoT {α : Type} (d : Kd α) {W : World} (base : Nat) (t ty e : TypeId) (z : Value) (bytes : Nat)
 (ht : P.underlying t = some (.slice e)) (hinfo : (P.info? e).map (fun i => (i.zero, i.size, i.bytes)) = some (some z, d.sz, bytes)) (hz : z.cells.size = d.sz) (hs0 : 0 < d.sz) (hb0 : 0 < bytes)
 (v : Value) (xs : List α) (p : α) (cs : List Value) (ok okp : Nat → Prop) (hp : d.M W base okp p cs) (hokp : ∀ k, okp k → ok k ∧ some k ≠ v.ownBlock) (hfresh : ∀ k, W.heap.size ≤ k → ok k)
 (HO : d.R e W base ok v xs) (hbase : base ≤ W.heap.size) (hl : (xs.length + 1) * bytes ≤ 140737488355328) :
 ∃ v1 w1, (Builtin.append_ #[t, t] ty #[v, .slice (some ⟨W.heap.size, 0, none⟩) 1 1]).run P (W.alloc (.cells cs.toArray e)) = .ok v1 w1 ∧ d.R e w1 base ok v1 (xs ++ [p]) ∧ W.grownBy w1 v.ownBlock ∧ (v1.ownBlock = v.ownBlock ∨ ∃ b, v1.ownBlock = some b ∧ W.heap.size ≤ b) := by
 obtain ⟨h0, inner, hown, hr⟩ := HO
 obtain ⟨i0, hi, hzz⟩ := Option.map_eq_some_iff.1 hinfo
 simp only [Prod.mk.injEq] at hzz
 obtain ⟨hz0, hz1, hz2⟩ := hzz
 have hlen : xs.length + 1 ≤ 140737488355328 := Nat.le_trans (Nat.le_mul_of_pos_right _ hb0) hl
 have hcl := d.K_len (d.K_of_M hp)
 have hq : (W.alloc (.cells cs.toArray e)).ownsRow base e d.sz v xs.length inner := zhg hown (fun k hk => Below.heap_alloc W _ k (ziC hown k hk))
 obtain ⟨v1, w1, hrun, hq1, hg1, _, hat⟩ := run_append_own_at (P := P) (W.alloc (.cells cs.toArray e)) base t ty e i0 z d.sz bytes ht hi hz0 hz1 hz2 hz hs0 v xs.length inner hq ⟨W.heap.size, 0, none⟩ 1 1 cs (by rw [hcl, Nat.one_mul])
  (by simpa using World.news_of_block (cs := cs.toArray) (t := e) (fr := (0, 0)) (heap_alloc_new W (.cells cs.toArray e))) (d.K_one (d.K_of_M hp)) (by simp only [maxLen]; omega) hl (by simp; omega)
 have hg : W.grownBy w1 v.ownBlock := World.grownBy.trans (World.grownBy_alloc W _ _) hg1
 have hat' : v1.ownBlock = v.ownBlock ∨ ∃ b, v1.ownBlock = some b ∧ W.heap.size ≤ b := by
  rcases hat with hat | hat
  ·exact .inl hat
  exact .inr ⟨_, hat, by simp⟩
 exact ⟨v1, w1, hrun, Kd.R_appended h0 hr hp hokp hfresh hq1 hg hat', hg, hat'⟩
theorem zoQ {α : Type} (d : Kd α) {W : World} (base : Nat) (t ty e : TypeId) (z : Value) (bytes : Nat)
 (ht : P.underlying t = some (.slice e)) (hinfo : (P.info? e).map (fun i => (i.zero, i.size, i.bytes)) = some (some z, d.sz, bytes)) (hz : z.cells.size = d.sz) (hs0 : 0 < d.sz) (hb0 : 0 < bytes)
 (v : Value) (xs : List α) (p : α) (cs : List Value) (ok okp : Nat → Prop) (hp : d.M W base okp p cs) (hokp : ∀ k, okp k → ok k ∧ some k ≠ v.ownBlock) (hfresh : ∀ k, W.heap.size ≤ k → ok k)
 (HO : Kd.S d e W base (fun k => ok k ∧ ¬ okp k) v xs) (hbase : base ≤ W.heap.size) (hl : (xs.length + 1) * bytes ≤ 140737488355328) :
 ∃ v1 w1, (Builtin.append_ #[t, t] ty #[v, .slice (some ⟨W.heap.size, 0, none⟩) 1 1]).run P (W.alloc (.cells cs.toArray e)) = .ok v1 w1 ∧ Kd.S d e w1 base ok v1 (xs ++ [p]) ∧ W.grownBy w1 v.ownBlock ∧ (v1.ownBlock = v.ownBlock ∨ ∃ b, v1.ownBlock = some b ∧ W.heap.size ≤ b) := by
 obtain ⟨f, hf, hR⟩ := Kd.S_tag HO xs.length okp (fun _ hk h2 => h2.2 hk)
 obtain ⟨v1, w1, h1, h2, h3, h4⟩ := zoT (P := P) (Kd.tag f d) base t ty e z bytes ht hinfo hz hs0 hb0 v xs.zipIdx (p, xs.length) cs ok okp (d.M_mono (fun k hk => ⟨hk, hf k hk⟩) hp) hokp hfresh (Kd.R_mono hR (fun _ hk => hk.1)) hbase (by rw [List.length_zipIdx]; exact hl)
 rw [← Kd.zip_snoc] at h2
 exact ⟨v1, w1, h1, ⟨f, h2⟩, h3, h4⟩
theorem S_fr {α : Type} {d : Kd α} {e : Nat} {w w1 : World} {base : Nat} {ok S : Nat → Prop} {v : Value} {xs : List α} (h : Kd.S d e w base ok v xs) (hf : Fr S w w1) (hs : ∀ k, ok k → base ≤ k → k < w.heap.size → ¬ S k) : Kd.S d e w1 base ok v xs :=
 Kd.S_mono (Kd.S_move (Kd.S_bound h) (fun k hk => hf.block k hk.2.2.1 (hs k hk.1 hk.2.1 hk.2.2.1))) (fun _ hk => hk.1)
theorem zpL {α : Type} {d : Kd α} {e : Nat} {w w1 : World} {base B : Nat} {ok : Nat → Prop} {v : Value} {xs : List α} (h : Kd.S d e w base ok v xs) (hf : Fr (fun k => B ≤ k ∧ ∃ o, w.heap[k]? = some o ∧ o.isCells = false) w w1) : Kd.S d e w1 base ok v xs :=
 Kd.S_mono (Kd.S_move (Kd.S_bound h) (fun k hk => hf.block k hk.2.2.1 (fun hn => by
  obtain ⟨_, o, ho, hc⟩ := hn
  obtain ⟨_, _, _, q, _, cells, hq⟩ := hk
  rw [ho] at hq
  injection hq with hq
  subst hq
  cases hc))) (fun _ hk => hk.1)
theorem zoR {α : Type} {enc : α → Value} (d0 : α) {h1 : ∀ x, (enc x).oneCell' = true} {W : World} {base : Nat} {ok : Nat → Prop} (t t' ty e : TypeId) (ht : P.underlying t = some (.slice e)) (hi : (P.info? e).map (·.size) = some 1) {g cap : Nat} {xs ys : List α} {A : Option Addr} {c : Nat}
 (hR : (Kd.scalar enc h1).R e W base ok (.slice (some ⟨g, 0, none⟩) xs.length cap) xs) (hC : (Kd.scalar enc h1).C W A ys.length ys) (hle : ys.length ≤ xs.length) :
 ∃ W', (Builtin.copy_ #[t, t'] ty #[.slice (some ⟨g, 0, none⟩) xs.length cap, .slice A ys.length c]).run P W = .ok (.int .i64 (ys.length : Int)) W' ∧ (Kd.scalar enc h1).R e W' base ok (.slice (some ⟨g, 0, none⟩) xs.length cap) (ys ++ xs.drop ys.length) ∧ Fr (fun k => k = g) W W' := by
 have hmin : Nat.min ys.length xs.length = ys.length := Nat.min_eq_left hle
 rcases Nat.eq_zero_or_pos ys.length with hl | hl
 ·obtain rfl : ys = [] := List.eq_nil_of_length_eq_zero hl
  refine ⟨W, run_copy_none W t t' ty e _ _ _ _ _ _ ht hi (by simp), ?_, Fr.refl _ _⟩
  simpa using hR
 have ho := Kd.own_of_R hR
 obtain ⟨hlen, h2⟩ := ho
 rcases h2 with ⟨h3, _⟩ | ⟨g', cap', cur, h3, hg, hh, hnc, hcm, hcs, htk⟩
 ·injection h3 with h3; cases h3
 injection h3 with h4 _ h5
 injection h4 with h4
 injection h4 with h4 _ _
 subst h4; subst h5
 have hro := Kd.reads_of_C (enc := enc) (d := d0) (h1 := h1) hC
 obtain ⟨ad, rfl, hcell⟩ := hro.2.2 hl
 have hsrc : ∀ j u, (encs enc ys)[j]? = some u → W.cell? (ad.add j) = some u := fun j u hu => by
  have hj : j < ys.length := by have := (List.getElem?_eq_some_iff.1 hu).1; rwa [zO] at this
  rw [zdD (d := d0) ys j hj] at hu
  injection hu with hu
  rw [← hu]; exact hcell j hj
 have hrun := run_copy_row (P := P) W t t' ty e g 0 xs.length cap ad ys.length c cur e (encs enc ys) ht hi hh (by rw [zO, hmin]) hsrc (by rw [zO]; omega)
  (fun u hu => by
    obtain ⟨x, _, rfl⟩ := List.mem_map.1 hu
    exact h1 x)
 rw [zO, Nat.zero_add, List.take_zero, List.nil_append] at hrun
 refine ⟨_, hrun, ?_, rfl, rfl, rfl, by simp [World.setRow], fun k _ hk => setRow_other W g k _ hk⟩
 have hl2 : (ys ++ xs.drop ys.length).length = xs.length := by rw [List.length_append, List.length_drop]; omega
 refine Kd.R_of_own ?_ (fun k hk => hR.1 k hk)
 refine ⟨by rw [zO, Nat.mul_one], .inr ⟨g, cap, _, by rw [hl2], hg, setRow_heap W g cur _ e _ hh, by omega, hcm, ?_, ?_⟩⟩
 ·simp [zO, List.size_toArray]
  omega
 rw [hl2, Nat.mul_one, List.take_append, zai, zO, List.take_of_length_le (by rw [zO]; exact hle), ← List.drop_take]
 rw [Nat.mul_one] at htk
 rw [htk]
 simp [encs]
theorem zdB (t e : TypeId) (ht : P.underlying t = some (.slice e)) (hinfo : (P.info? e).map (fun i => (i.zero, i.size, i.bytes)) = some (some (.int .u8 0), 1, 1)) (k : Nat) (hk : k ≤ 281474976710656) (W : World) :
 (Instr.makeSlice t (.int .i64 (k : Int)) (.int .i64 (k : Int))).run P W = .ok (.slice (some ⟨W.heap.size, 0, none⟩) k k) (W.alloc (.cells (Array.replicate k (.int .u8 0)) e)) := by
 obtain ⟨i0, hi, hz0, hz1, hz2⟩ := info_parts hinfo
 have hr := run_make (P := P) W t e i0 _ ht hi hz0 .i64 .i64 (k : Int) (k : Int) (by omega) (by omega) (by rw [hz2]; omega) (by omega)
 simp only [Int.toNat_natCast] at hr
 rw [hz1] at hr
 rw [hr]
 have hz : madeCells (Value.cells (.int .u8 0)) (k * 1) = Array.replicate k (.int .u8 0) := by
  apply Array.ext
  ·simp [size_madeCells]
  intro i h1 h2
  simp [madeCells, Value.cells, Nat.mod_one]
 rw [hz]
theorem znw (W : World) (e base : Nat) (ok : Nat → Prop) (k : Nat) (hk : k ≤ 281474976710656) (hb : base ≤ W.heap.size) (hok : ok W.heap.size) : (Kd.int .u8).R e (W.alloc (.cells (Array.replicate k (.int .u8 0)) e)) base ok (.slice (some ⟨W.heap.size, 0, none⟩) k k) (List.replicate k 0) := by
 refine Kd.R_of_own ?_ (fun j hj => ?_)
 ·refine ⟨by rw [zO, Nat.mul_one], .inr ⟨W.heap.size, k, Array.replicate k (.int .u8 0), by simp, hb, yw _ _, by simp, by simp only [maxLen]; omega, by simp, ?_⟩⟩
  simp [encs]
 have : W.heap.size = j := by simpa [Value.ownBlock] using hj
 exact this ▸ hok
end
end Go.Proofs.Ytpeiejkcoadhfaa
namespace Go.Proofs.Ytpeiejkcoadhfaa
open Go.RowKit Go.Shelf Go.Proofs.YtpeiejkcoadhfaaW.PrintWords Go.Proofs.YtpeiejkcoadhfaaW.PrintMore
attribute [local go_sem] Oper.semAt_some
def zcz (x y : Nat) : Nat := if y < x then y else x
theorem zmf (k k' : IntKind) (x y : Nat) : Builtin.min2 (.int k (x : Int)) (.int k' (y : Int)) = pure (.int k (zcz x y : Int)) := by
 rw [jk]
 congr 2
 unfold zcz
 by_cases h : y < x
 ·rw [if_pos h, if_pos (by omega)]
 rw [if_neg h, if_neg (by omega)]
attribute [local go_sem] zmf jM
def ye (len k : Nat) : Nat := (len + k - 1) / k
theorem zba (j len k : Nat) (hk : 0 < k) : j < ye len k ↔ j * k < len := by
 unfold ye
 rw [Nat.lt_iff_add_one_le, Nat.le_div_iff_mul_le hk, Nat.add_mul]
 omega
theorem yJ : (Try.prog.info? 5).map (fun i => (i.zero, i.size, i.bytes)) = some (some (.int .u8 0), 1, 1) := by kernel_rfl
theorem zlp {P : Program} (t e : TypeId) {i : TypeInfo} (ht : P.underlying t = some (.slice e)) (hi : P.info? e = some i) (hsz : i.size = 1) (p : Addr) (len c a b : Nat) (hb : 0 < b) (h : a + b ≤ len) (hc : len ≤ c) (W : World) :
 (Instr.slice t (.slice (some p) len c) (some (.int .i64 (a : Int))) (some (.int .i64 ((a : Int) + (b : Int)))) (some (.int .i64 ((a : Int) + (b : Int))))).run P W = .ok (.slice (some (p.add a)) b b) W := by
 have hel : P.elem t = e := by simp [Program.elem, ht]
 have hu : P.underlying t = some (.slice (P.elem t)) := by rw [hel]; exact ht
 have e1 : ((a : Int) + (b : Int)).toNat = a + b := by omega
 have e2 : ¬ a + b = a := by omega
 have e3 : a + b - a = b := by omega
 rw [run_slice_lhm W t (some p) len c hu .i64 .i64 .i64 (a : Int) ((a : Int) + (b : Int)) ((a : Int) + (b : Int)) (by omega) (by omega) (by omega) (by omega), hel]
 simp [sizeOf, typeInfo, hi, hsz, sliced, Result.andThen, e1, e3]
 omega
theorem zkp (p : Addr) (len c i e : Nat) (he : 0 < e) (h : i + e ≤ len) (hc : len ≤ c) (W : World) :
 (Instr.slice 36 (.slice (some p) len c) (some (.int .i64 (i : Int))) (some (.int .i64 ((i : Int) + (e : Int)))) (some (.int .i64 ((i : Int) + (e : Int))))).run Try.prog W = .ok (.slice (some (p.add i)) e e) W := by
 obtain ⟨f, hi, _, hs, _⟩ := info_parts yJ
 exact zlp 36 5 Try.underlying36 hi hs p len c i e he h hc W
theorem zlE (a b : Nat) (h : a + b ≤ 281474976711000) : wrap64 ((a : Int) + (b : Int)) = (a : Int) + (b : Int) := by
 have h1 : (a : Int) + (b : Int) ≤ 281474976711000 := by omega
 unfold wrap64
 omega
theorem zlG (k r i len : Nat) (hk : 0 < k) (hr : r = len - i) (h : i < len) : 0 < zcz k r ∧ i + zcz k r ≤ len := by
 unfold zcz
 split <;> omega
def zaq (A : Option Addr) (len k j : Nat) : Value := .slice (A.map (·.add (j * k))) (zcz k (len - j * k)) (zcz k (len - j * k))
set_option maxRecDepth 100000 in
set_option maxHeartbeats 1600000 in
theorem zjS (S : Nat → Prop) (w : World) (bs bn : Nat) (A : Option Addr) (len c k : Nat) (hA : 0 < len → ∃ p, A = some p) (hk : 0 < k) (hk2 : k ≤ 255) (hl : len ≤ 281474976710656) (hc : len ≤ c)
 (hs : w.heap[bs]? = some (.cells #[.slice A len c] 36 (0, 0))) (hn : w.heap[bn]? = some (.cells #[.int .i64 k] 3 (0, 0))) (hS : ¬ S bs) (hSn : ¬ S bn) :
 zmP Try.prog 117 #[.pointer (some ⟨bs, 0, none⟩), .pointer (some ⟨bn, 0, none⟩)] (fun j => #[zaq A len k j]) (fun pre j _ => j = pre.length ∧ j * k < len) S (fun xs => xs = List.range (ye len k)) w := by
 intro l J W hW hJ hY h0
 refine callsIn_of_wp Try.func117 rfl trivial ?_ rfl
 simp only [Try.ntmps117, List.size_toArray, List.length_cons, List.length_nil, Nat.reduceAdd, Nat.reduceSub, Array.replicate_succ, Array.replicate_zero, List.push_toArray, List.append_toArray, List.nil_append, List.cons_append]
 have hbs : ∀ {W1 : World}, Fr (fun k => S k ∨ w.heap.size ≤ k) w W1 → W1.cell? ⟨bs, 0, none⟩ = some (.slice A len c) := fun hf => zh (hf.blk hs (fun h => h.elim hS (fun h => by have := yB hs; omega))) rfl
 have hbn : ∀ {W1 : World}, Fr (fun k => S k ∨ w.heap.size ≤ k) w W1 → W1.cell? ⟨bn, 0, none⟩ = some (.int .i64 k) := fun hf => zh (hf.blk hn (fun h => h.elim hSn (fun h => by have := yB hn; omega))) rfl
 have HBS0 := za.mk @hbs
 have HBN0 := za.mk @hbn
 clear hbs hbn
 gi_wp2
 have hbs := @HBS0.out
 have hbn := @HBN0.out
 clear HBS0 HBN0
 gi_loopw [4] (fun v4 wr => ∃ (j i : Nat), i = j * k ∧ j ≤ ye len k ∧ i ≤ len + 255 ∧ v4 = .int .i64 i ∧ J (List.range j) wr ∧ Fr (fun k => S k ∨ w.heap.size ≤ k) w wr) (fun v4 _ => len + 255 - (intOf v4).toNat)
 case atStart => exact ⟨0, 0, by omega, by omega, by omega, rfl, h0, Fr.of_below hW _⟩
 obtain ⟨j, i, hij, hj, hi, rfl, hJr, hfr⟩ := hrel
 have c1 := hbs hfr
 have c2 := hbn hfr
 have HBS := za.mk @hbs
 have HBN := za.mk @hbn
 have HY := za.mk hY
 have HJ := za.mk hJ
 have HJR := za.mk hJr
 have HFR := za.mk hfr
 have HIJ := za.mk hij
 have HJN := za.mk hj
 clear hbs hbn hY hJ hJr hfr hij hj hs hn hS hSn hW h0
 by_cases hlt : i < len
 ·obtain ⟨p, rfl⟩ := hA (by omega)
  obtain ⟨r, hr⟩ : ∃ r, r = len - i := ⟨_, rfl⟩
  obtain ⟨e, he, he0, he1⟩ : ∃ e, za (zcz k r = e) ∧ 0 < e ∧ i + e ≤ len := ⟨zcz k r, ⟨rfl⟩, zlG k r i len hk hr hlt⟩
  have hfrom : ∀ W : World, (Instr.slice 36 (.slice (some p) len c) (some (.int .i64 (i : Int))) none none).run Try.prog W = .ok (.slice (zaF (some p) c i) r (c - i)) W := fun W => by
   obtain ⟨f, hi, _, hs, _⟩ := info_parts yJ
   rw [hr]
   exact zhM 36 5 Try.underlying36 hi hs (some p) len c i (by omega) W
  generalize zaF (some p) c i = A' at hfrom
  generalize c - i = c' at hfrom
  have hcut := zkp p len c i e he0 he1 hc
  have hw1 := zlE i e (by omega)
  have hw2 := zlE i k (by omega)
  have HR := za.mk hr
  clear hr
  have hltI : (i : Int) < (len : Int) := by omega
  have he' := he.out
  have hJ1 : J (List.range j) wr.drew := HJ.out _ _ _ HJR.out (yf (Below.refl _ _))
  have hv : zaq (some p) len k j = .slice (some (p.add i)) e e := by
   unfold zaq
   rw [← HIJ.out, ← HR.out, he']
   rfl
  obtain ⟨fn, tmps, assign, body, hy, hR⟩ := HY.out (List.range j) j wr.drew hJ1 ⟨by simp, by rw [← HIJ.out]; exact hlt⟩
  have hy' : (Instr.yield l #[.slice (some (p.add i)) e e]).run Try.prog wr.drew = .ok (.round l fn tmps assign body) wr.drew := by rw [← hv]; exact hy
  have HFR2 := za.mk HFR.out.drew
  clear hy hJ1 hv HY
  gi_wp2
  gi_region
  gi_wp2
  refine hR.mono ?_
  rintro ee W' ⟨rfl, hj', hf'⟩
  have hf2 := HFR2.out.trans' hf'
  have c3 := HBN.out hf2
  have HF := za.mk hf2
  have HJ' := za.mk hj'
  clear hf2 hj' hf'
  gi_wp2
  go_roundw
  case rel => exact ⟨j + 1, i + k, by rw [HIJ.out, Nat.add_mul, Nat.one_mul], (zba j len k hk).2 (by rw [← HIJ.out]; exact hlt), by omega, by go_num, by rw [List.range_succ]; exact HJ'.out, HF.out⟩
  simp only [intOf]; omega
 gi_wp2
 go_end0
 refine ⟨⟨_, rfl⟩, _, rfl, ?_⟩
 have hjn : j = ye len k := by
  have h1 := HJN.out
  have h2 := zba j len k hk
  rcases Nat.lt_or_ge j (ye len k) with h3 | h3
  ·exact absurd (h2.1 h3) (by rw [← HIJ.out]; exact hlt)
  exact Nat.le_antisymm h1 h3
 rw [← hjn]
 exact HJR.out
end Go.Proofs.Ytpeiejkcoadhfaa
namespace Go.Proofs.Ytpeiejkcoadhfaa
theorem Zx (len k : Nat) (hk : 0 < k) : ye len k ≤ len := by
 rcases Nat.lt_or_ge len (ye len k) with h | h
 ·have h1 := (zba len len k hk).1 h
  have := Nat.le_mul_of_pos_right len hk
  omega
 exact h
def Zy (xs : List Int) (k j : Nat) : List Int := (xs.drop (j * k)).take k ++ List.replicate (k - ((xs.drop (j * k)).take k).length) 0
theorem zfP (xs : List Int) (k j : Nat) : (Zy xs k j).length = k := by
 unfold Zy
 rw [List.length_append, List.length_replicate]
 have : ((xs.drop (j * k)).take k).length ≤ k := by rw [List.length_take]; exact Nat.min_le_left _ _
 omega
def jd (xs : List Int) (k : Nat) : List (List Int) := (List.range (ye xs.length k)).map (Zy xs k)
theorem zbi (xs : List Int) (k : Nat) : (jd xs k).length = ye xs.length k := by simp [jd]
theorem zby (xs : List Int) (k j : Nat) (h : j < ye xs.length k) : (jd xs k)[j]? = some (Zy xs k j) := by
 unfold jd
 rw [List.getElem?_map, List.getElem?_range h]; rfl
end Go.Proofs.Ytpeiejkcoadhfaa
