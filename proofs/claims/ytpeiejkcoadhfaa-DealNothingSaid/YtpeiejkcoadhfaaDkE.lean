/- Dealing. -/
import Derived.Test.YtpeiejkcoadhfaaDkD
import Derived.Test.YtpeiejkcoadhfaaPDealPointsx1
import Derived.Test.YtpeiejkcoadhfaaPDealPointsx2
import Derived.Test.YtpeiejkcoadhfaaDkC
set_option linter.all false
/- deal.all, Points, Secrets; rs.Encode. -/
namespace Go.Proofs.Ytpeiejkcoadhfaa
open Go.RowKit Go.Shelf Go.Proofs.YtpeiejkcoadhfaaW.PrintWords Go.Proofs.YtpeiejkcoadhfaaW.PrintMore

/-- 'make([]T, 0, k)'. -/
theorem make0 {P : Program} (t e : TypeId) (z : Value) (bytes : Nat) (ht : P.underlying t = some (.slice e)) (hinfo : (P.info? e).map (fun i => (i.zero, i.size, i.bytes)) = some (some z, 1, bytes)) (hz : z.cells = #[z]) (hb : bytes ≤ 1024) (k : Nat) (hk : k ≤ 274877906944) (W : World) :
    (Instr.makeSlice t (.int .i64 0) (.int .i64 (k : Int))).run P W = .ok (.slice (some ⟨W.heap.size, 0, none⟩) 0 k) (W.alloc (.cells (Array.replicate k z) e)) := by
  obtain ⟨i0, hi, hz0, hz1, hz2⟩ := info_parts hinfo
  have hr := run_make (P := P) W t e i0 _ ht hi hz0 .i64 .i64 (0 : Int) (k : Int) (by omega) (by omega) (by rw [hz2]; have := Nat.mul_le_mul hb hk; rw [← Int.natCast_mul]; omega) (by omega)
  simp only [Int.toNat_natCast] at hr
  rw [hz1] at hr
  have hzc : madeCells (Value.cells z) (k * 1) = Array.replicate k z := by
    rw [hz]
    apply Array.ext
    · simp [madeCells]
    · intro i h1 h2
      simp [madeCells, Nat.mod_one]
  rw [hzc] at hr
  exact hr
theorem R_made0 {α : Type} {enc : α → Value} {h1 : ∀ x, (enc x).oneCell' = true} (W : World) (base e k : Nat) (z : Value) (hk : k ≤ 1099511627776) (hb : base ≤ W.heap.size) : Kd.R (Kd.scalar enc h1) e (W.alloc (.cells (Array.replicate k z) e)) base (fun _ => True) (.slice (some ⟨W.heap.size, 0, none⟩) 0 k) ([] : List α) := by
  refine Kd.R_of_own ?_ (fun j _ => trivial)
  exact ⟨by simp [encs], .inr ⟨W.heap.size, k, Array.replicate k z, by simp, hb, blk_new _ _, by simp, by simp only [maxLen]; omega, by simp, by simp [encs]⟩⟩
/-- 'append(v, x)'. -/
theorem R_push {P : Program} {α : Type} (enc : α → Value) (d0 : α) {h1 : ∀ x, (enc x).oneCell' = true} (W w : World) (t e : TypeId) (z : Value) (bytes : Nat) (ht : P.underlying t = some (.slice e))
    (hinfo : (P.info? e).map (fun i => (i.zero, i.size, i.bytes)) = some (some z, 1, bytes)) (hzs : z.cells.size = 1) {v : Value} {xs : List α} (h : Kd.R (Kd.scalar enc h1) e W w.heap.size (fun _ => True) v xs) (hb : Below w.heap.size w W) (x : α)
    (hn : (xs.length + 1) * bytes ≤ 140737488355328) (hb0 : 0 < bytes) :
    ∃ B d W', (Builtin.append_ #[t, t] t #[v, .slice (some ⟨W.heap.size, 0, none⟩) 1 1]).run P (W.alloc (.cells #[enc x] e)) = .ok (.slice B (xs.length + 1) d) W' ∧ Kd.R (Kd.scalar enc h1) e W' w.heap.size (fun _ => True) (.slice B (xs.length + 1) d) (xs ++ [x]) ∧ Below w.heap.size w W' := by
  have hlit : Kd.R (Kd.scalar enc h1) e (W.alloc (.cells #[enc x] e)) W.heap.size (fun _ => True) (.slice (some ⟨W.heap.size, 0, none⟩) 1 1) [x] :=
    Kd.R_of_own (own_lit_of W W.heap.size e [x] (Nat.le_refl _) (by simp)) (fun _ _ => trivial)
  have hb1 : Below W.heap.size W (W.alloc (.cells #[enc x] e)) := below_alloc (Below.refl _ _) _
  have h2 := R_fr h (Fr.of_below hb1 (fun _ => False)) (fun _ _ _ _ h => h)
  have hbb : Below w.heap.size w (W.alloc (.cells #[enc x] e)) := hb.trans (hb1.mono hb.size)
  obtain ⟨v', W', hrun, hR, hg, hat⟩ := R_append_row (P := P) enc d0 (W.alloc (.cells #[enc x] e)) w.heap.size t t e z bytes ht hinfo hzs (ys := [x]) (c := 1) h2 (R_C hlit) hn hb0 hbb.size (fun _ _ => trivial)
  obtain ⟨B, d, rfl⟩ := Kd.R_slice hR
  rw [List.length_append] at hrun hR
  exact ⟨B, d, W', hrun, hR, hbb.grown hg hbb.size (fun i hi => Kd.R_base h2 i hi)⟩

/-- .. in any world behind. -/
theorem R_pushes {P : Program} {α : Type} (enc : α → Value) (d0 : α) {h1 : ∀ x, (enc x).oneCell' = true} (wr w : World) (t e : TypeId) (z : Value) (bytes : Nat) (ht : P.underlying t = some (.slice e))
    (hinfo : (P.info? e).map (fun i => (i.zero, i.size, i.bytes)) = some (some z, 1, bytes)) (hzs : z.cells.size = 1) {v : Value} {xs : List α} (h : Kd.R (Kd.scalar enc h1) e wr w.heap.size (fun _ => True) v xs) (hb : Below w.heap.size w wr) (x : α) (k : Nat) (ys : List α) (hk : xs.length = k) (hys : ys = xs ++ [x])
    (hn : (k + 1) * bytes ≤ 140737488355328) (hb0 : 0 < bytes) : Aside0 (∀ W, Below wr.heap.size wr W →
    ∃ B d W', (Builtin.append_ #[t, t] t #[v, .slice (some ⟨W.heap.size, 0, none⟩) 1 1]).run P (W.alloc (.cells #[enc x] e)) = .ok (.slice B (k + 1) d) W' ∧ Aside0 (Kd.R (Kd.scalar enc h1) e W' w.heap.size (fun _ => True) (.slice B (k + 1) d) ys) ∧ Aside0 (Below w.heap.size w W')) := ⟨fun W hW => by
  subst hk
  subst hys
  obtain ⟨B, d, W', h1, h2, h3⟩ := R_push (P := P) enc d0 (h1 := h1) W w t e z bytes ht hinfo hzs (R_fr h (Fr.of_below hW (fun _ => False)) (fun _ _ _ _ h => h)) (hb.trans (hW.mono hb.size)) x hn hb0
  exact ⟨B, d, W', h1, ⟨h2⟩, ⟨h3⟩⟩⟩

def encN (n : Nat) : Value := .int .i64 (n : Int)
abbrev kn : Kd Nat := Kd.scalar encN (fun _ => rfl)
theorem info3' : (Try.prog.info? 3).map (fun i => (i.zero, i.size, i.bytes)) = some (some (.int .i64 0), 1, 8) := by kernel_rfl
/-- The params' value. -/
def parV (N T K E Rm : Int) : Value := .agg #[.int .i64 N, .int .i64 T, .int .i64 K, .int .i64 E, .int .i64 Rm]

set_option maxRecDepth 100000 in
set_option maxHeartbeats 800000 in
theorem all_any (w : World) (N : Nat) (T K E Rm : Int) (hN : N ≤ 1000) :
    Calls Try.prog 124 #[parV N T K E Rm] w fun e w' => ∃ B d, e = .returned (.slice B N d) ∧ Kd.R kn 3 w' w.heap.size (fun _ => True) (.slice B N d) (List.range N) ∧ Below w.heap.size w w' := by
  have hmk := fun W : World => make0 (P := Try.prog) 50 3 (.int .i64 0) 8 Try.underlying50 info3' rfl (by omega) N (by omega) W
  unfold parV
  have hu48 := Try.underlying48
  go_enter Try.func124, Try.ntmps124
  go_wp2
  have HR0 := Aside0.mk (R_made0 (enc := encN) (h1 := fun _ => rfl) (w.alloc (Obj.cells #[Value.int IntKind.i64 ↑N, Value.int IntKind.i64 T, Value.int IntKind.i64 K, Value.int IntKind.i64 E, Value.int IntKind.i64 Rm] 48)) w.heap.size 3 N (.int .i64 0) (by omega) (by simp))
  have hb0 : Below w.heap.size w (w.alloc (Obj.cells #[Value.int IntKind.i64 ↑N, Value.int IntKind.i64 T, Value.int IntKind.i64 K, Value.int IntKind.i64 E, Value.int IntKind.i64 Rm] 48)) := below_alloc (Below.refl _ _) _
  have HB0 := Aside0.mk (below_alloc hb0 (Obj.cells (Array.replicate N (Value.int IntKind.i64 0)) 3))
  clear hb0 hmk
  go_loopw [3, 10] (fun v3 v10 wr => ∃ (k d : Nat) (B : Option Addr), k ≤ N ∧ v10 = .int .i64 k ∧ v3 = .slice B k d ∧ Aside0 (Kd.R kn 3 wr w.heap.size (fun _ => True) (.slice B k d) (List.range k)) ∧ Aside0 (Below w.heap.size w wr)) (fun _ v10 _ => N - (intOf v10).toNat)
  case atStart => exact ⟨0, N, _, by omega, rfl, rfl, ⟨by simpa using HR0.out⟩, HB0⟩
  case round =>
    clear HR0 HB0
    obtain ⟨k, d, B, hk, rfl, rfl, HR, HB⟩ := hrel
    by_cases hlt : k < N
    · obtain ⟨B', d', W', hrun, hR', hb'⟩ := R_push (P := Try.prog) encN 0 (h1 := fun _ => rfl) wr w 50 3 (.int .i64 0) 8 Try.underlying50 info3' rfl HR.out HB.out k (by rw [List.length_range]; omega) (by omega)
      rw [List.length_range] at hrun hR'
      rw [← List.range_succ] at hR'
      have HR' := Aside0.mk hR'
      have HB' := Aside0.mk hb'
      have HX := Aside0.mk hrun
      clear hrun hR' hb'
      go_wp2_with (at_builtin; refine wpList_append_run rfl _ _ _ _ rfl rfl rfl HX.out ?_)
      go_roundw
      case rel => exact ⟨k + 1, d', B', by omega, by go_num, rfl, HR', HB'⟩
      case measure => simp [intOf]; omega
    · obtain rfl : k = N := by omega
      go_wp2
      go_ret
      exact ⟨B, d, rfl, HR.out, HB.out⟩

/-- A holder's point. -/
def ptF (h : Nat) : F := ⟨(h % 256 + 1) % 256, Nat.mod_lt _ (by decide)⟩
theorem ptF_v (h : Nat) : ((ptF h).v : Int) = ((h : Int) % 256 + 1) % 256 := by
  show (((h % 256 + 1) % 256 : Nat) : Int) = _
  omega
theorem Point_any (w : World) (h : Nat) : Calls Try.prog 81 #[.int .i64 (h : Int)] w fun e w' => e = .returned (.int .u8 ((ptF h).v : Int)) ∧ Drawn0 w w' := by
  rw [ptF_v]
  exact PDealPoints.deal_Point.calls _ _ w rfl
theorem nat_at {w wr : World} {A : Option Addr} {n : Nat} {p : List Nat} {S : Nat → Prop} (h : Kd.C kn w A n p) (hf : Fr S w wr) (hS : ∀ j, S j → w.heap.size ≤ j) (k : Nat) (hk : k < n) : ∃ ad, A = some ad ∧ wr.cell? (ad.add k) = some (.int .i64 ((p.getD k 0 : Nat) : Int)) := by
  obtain ⟨ad, e, hc⟩ := (Kd.reads_of_C (enc := encN) (d := (0 : Nat)) (h1 := fun _ => rfl) h).2.2 (by omega)
  refine ⟨ad, e, hf.cell (hc k hk) (fun hb => ?_)⟩
  have h1 := World.block_lt_of_cell? w _ (hc k hk)
  have := hS _ hb
  omega
theorem take_snoc {α : Type} (d : α) (l : List α) (k : Nat) (h : k < l.length) : l.take (k + 1) = l.take k ++ [l.getD k d] := by
  rw [List.take_add_one, List.getElem?_eq_getElem h, List.getD_eq_getElem?_getD, List.getElem?_eq_getElem h]
  rfl
theorem map_take_snoc {α β : Type} (f : α → β) (d : α) (l : List α) (k : Nat) (h : k < l.length) : (l.take (k + 1)).map f = (l.take k).map f ++ [f (l.getD k d)] := by
  rw [take_snoc d l k h, List.map_append, List.map_singleton]

set_option maxRecDepth 100000 in
set_option maxHeartbeats 800000 in
theorem Points_any (w : World) (N T K E Rm : Int) (A : Option Addr) (n c : Nat) (hs : List Nat) (hC : Kd.C kn w A n hs) (hn : n ≤ 274877906944) :
    Calls Try.prog 45 #[parV N T K E Rm, .slice A n c] w fun e w' => ∃ B d, e = .returned (.slice B n d) ∧ Kd.R fk 5 w' w.heap.size (fun _ => True) (.slice B n d) (hs.map ptF) ∧ Below w.heap.size w w' := by
  have hmk := fun W : World => make0 (P := Try.prog) 36 5 (.int .u8 0) 1 Try.underlying36 info5 rfl (by omega) n (by omega) W
  have HCL := Aside0.mk (Kd.C_len hC)
  have HC := Aside0.mk hC
  unfold parV
  have hu48 := Try.underlying48
  clear hC
  go_enter Try.func45, Try.ntmps45
  go_wp2
  have HR0 := Aside0.mk (R_made0 (enc := encF) (h1 := fun _ => rfl) (w.alloc (Obj.cells #[Value.int IntKind.i64 N, Value.int IntKind.i64 T, Value.int IntKind.i64 K, Value.int IntKind.i64 E, Value.int IntKind.i64 Rm] 48)) w.heap.size 5 n (.int .u8 0) (by omega) (by simp))
  have hb0 : Below w.heap.size w (w.alloc (Obj.cells #[Value.int IntKind.i64 N, Value.int IntKind.i64 T, Value.int IntKind.i64 K, Value.int IntKind.i64 E, Value.int IntKind.i64 Rm] 48)) := below_alloc (Below.refl _ _) _
  have HB0 := Aside0.mk (below_alloc hb0 (Obj.cells (Array.replicate n (Value.int IntKind.u8 0)) 5))
  clear hb0 hmk
  go_loopw [5, 13] (fun v5 v13 wr => ∃ (k d : Nat) (B : Option Addr), k ≤ n ∧ v13 = .int .i64 k ∧ v5 = .slice B k d ∧ Aside0 (Kd.R fk 5 wr w.heap.size (fun _ => True) (.slice B k d) ((hs.take k).map ptF)) ∧ Aside0 (Below w.heap.size w wr)) (fun _ v13 _ => n - (intOf v13).toNat)
  case atStart => exact ⟨0, n, _, by omega, rfl, rfl, ⟨by simpa using HR0.out⟩, HB0⟩
  case round =>
    clear HR0 HB0
    obtain ⟨k, d, B, hk, rfl, rfl, HR, HB⟩ := hrel
    by_cases hlt : k < n
    · obtain ⟨ad, rfl, hcell⟩ := nat_at HC.out (Fr.of_below HB.out (fun _ => False)) (fun _ h => h.elim) k hlt
      have HSN := Aside0.mk (map_take_snoc ptF 0 hs k (by rw [HCL.out]; exact hlt))
      obtain ⟨m, hm⟩ : ∃ m, m = hs.getD k 0 := ⟨_, rfl⟩
      rw [← hm] at hcell HSN
      clear hm
      have HP := Aside0.mk (fun W => Point_any W m)
      obtain ⟨x, hx⟩ : ∃ x, x = ptF m := ⟨_, rfl⟩
      rw [← hx] at HP HSN
      clear hx
      have HPU := R_pushes (P := Try.prog) encF 0 (h1 := fun _ => rfl) wr w 36 5 (.int .u8 0) 1 Try.underlying36 info5 rfl HR.out HB.out x k _ (by rw [List.length_map, List.length_take, HCL.out]; omega) HSN.out (by omega) (by omega)
      go_wp2_with (first | (go_at_call 81; refine (HP.out _).mono ?_; rintro e W1 ⟨rfl, hd⟩; obtain ⟨B', d', W', hX, HR', HB'⟩ := HPU.out W1 hd.below; unfold encF at hX; replace hX := Aside0.mk hX; clear hd) | (at_builtin; refine wpList_append_run rfl _ _ _ _ rfl rfl rfl hX.out ?_))
      go_roundw
      case rel => exact ⟨k + 1, d', B', by omega, by go_num, rfl, HR', HB'⟩
      case measure => simp [intOf]; omega
    · obtain rfl : k = n := by omega
      go_wp2
      go_ret
      have e : hs.take k = hs := List.take_of_length_le (by rw [HCL.out]; exact Nat.le_refl _)
      have h2 := HR.out
      rw [e] at h2
      exact ⟨B, d, rfl, h2, HB.out⟩

/-- The points of secrets. -/
def secL (N K : Nat) : List F := (List.range K).map fun n => ptF (N + n)
theorem secL_snoc (N K : Nat) : secL N (K + 1) = secL N K ++ [ptF (N + K)] := by simp [secL, List.range_succ]
theorem secL_length (N K : Nat) : (secL N K).length = K := by simp [secL]
set_option maxRecDepth 100000 in
set_option maxHeartbeats 800000 in
theorem Secrets_any (w : World) (N K : Nat) (T E Rm : Int) (hN : N ≤ 1000) (hK : K ≤ 1000) :
    Calls Try.prog 47 #[parV N T K E Rm] w fun e w' => ∃ B d, e = .returned (.slice B K d) ∧ Kd.R fk 5 w' w.heap.size (fun _ => True) (.slice B K d) (secL N K) ∧ Below w.heap.size w w' := by
  have hmk := fun W : World => make0 (P := Try.prog) 36 5 (.int .u8 0) 1 Try.underlying36 info5 rfl (by omega) K (by omega) W
  unfold parV
  have hu48 := Try.underlying48
  go_enter Try.func47, Try.ntmps47
  go_wp2
  obtain ⟨w1, hw1⟩ : ∃ w1, w1 = (w.alloc (Obj.cells #[Value.int IntKind.i64 N, Value.int IntKind.i64 T, Value.int IntKind.i64 K, Value.int IntKind.i64 E, Value.int IntKind.i64 Rm] 48)) := ⟨_, rfl⟩
  have hb0 : Below w.heap.size w w1 := by rw [hw1]; exact below_alloc (Below.refl _ _) _
  have hz1 : w1.heap.size = w.heap.size + 1 := by rw [hw1]; simp
  have hg1 : w1.heap[w.heap.size]? = some (Obj.cells #[Value.int IntKind.i64 N, Value.int IntKind.i64 T, Value.int IntKind.i64 K, Value.int IntKind.i64 E, Value.int IntKind.i64 Rm] 48) := by rw [hw1]; exact blk_new _ _
  have hR0 := R_made0 (enc := encF) (h1 := fun _ => rfl) w1 w1.heap.size 5 K (.int .u8 0) (by omega) (Nat.le_refl _)
  rw [hz1] at hR0
  have HR0 := Aside0.mk hR0
  have HB0 := Aside0.mk (below_alloc (Below.refl w1.heap.size w1) (Obj.cells (Array.replicate K (Value.int IntKind.u8 0)) 5))
  obtain ⟨s, hs⟩ : ∃ s, s = w.heap.size := ⟨_, rfl⟩
  rw [← hw1]
  rw [← hs] at hg1 hz1 HR0 ⊢
  rw [← hz1] at HR0
  have HG1 := Aside0.mk hg1
  have HS := Aside0.mk hs
  have HZ1 := Aside0.mk hz1
  have HBW := Aside0.mk hb0
  clear hw1 hb0 hmk hg1 hR0 hs hz1
  go_loopw [3, 10] (fun v3 v10 wr => ∃ (k d : Nat) (B : Option Addr), k ≤ K ∧ v10 = .int .i64 k ∧ v3 = .slice B k d ∧ Aside0 (Kd.R fk 5 wr w1.heap.size (fun _ => True) (.slice B k d) (secL N k)) ∧ Aside0 (Below w1.heap.size w1 wr)) (fun _ v10 _ => K - (intOf v10).toNat)
  case atStart => exact ⟨0, K, _, by omega, rfl, rfl, ⟨by simpa [secL, HZ1.out] using HR0.out⟩, HB0⟩
  case round =>
    clear HR0 HB0
    obtain ⟨k, d, B, hk, rfl, rfl, HR, HB⟩ := hrel
    by_cases hlt : k < K
    · have c0 : wr.cell? ⟨s, 0, none⟩ = some (.int .i64 (N : Int)) := cell_at (blk_below HG1.out HB.out) rfl
      have hw : IntKind.i64.wrap ((N : Int) + (k : Int)) = ((N + k : Nat) : Int) := by
        rw [IntWalk.i64_in _ ⟨by omega, by omega⟩]; omega
      have HSN := Aside0.mk (secL_snoc N k)
      have HP := Aside0.mk (fun W => Point_any W (N + k))
      obtain ⟨x, hx⟩ : ∃ x, x = ptF (N + k) := ⟨_, rfl⟩
      rw [← hx] at HP HSN
      clear hx
      have HPU := R_pushes (P := Try.prog) encF 0 (h1 := fun _ => rfl) wr w1 36 5 (.int .u8 0) 1 Try.underlying36 info5 rfl HR.out HB.out x k _ (secL_length N k) HSN.out (by omega) (by omega)
      go_wp2_with (first | (go_at_call 81; refine (HP.out _).mono ?_; rintro e W1 ⟨rfl, hd⟩; obtain ⟨B', d', W', hX, HR', HB'⟩ := HPU.out W1 hd.below; unfold encF at hX; replace hX := Aside0.mk hX; clear hd) | (at_builtin; refine wpList_append_run rfl _ _ _ _ rfl rfl rfl hX.out ?_))
      go_roundw
      case rel => exact ⟨k + 1, d', B', by omega, by go_num, rfl, HR', HB'⟩
      case measure => simp [intOf]; omega
    · obtain rfl : k = K := by omega
      go_wp2
      go_ret
      exact ⟨B, d, rfl, Kd.R_lower HR.out HBW.out.size, HBW.out.trans (HB.out.mono HBW.out.size)⟩

set_option maxRecDepth 100000 in
set_option maxHeartbeats 800000 in
theorem Encode_any (w : World) (g : Nat) (A X : Option Addr) (n c m cx : Nat) (p xs : List F) (hF : Fld w g) (hp : Kd.C fk w A n p) (hx : Kd.C fk w X m xs) (hn : n ≤ 1099511627776) (hm : m ≤ 1000) :
    Calls Try.prog 125 #[.pointer (some ⟨g, 0, none⟩), .slice A n c, .slice X m cx] w fun e w' => ∃ B d, e = .returned (.slice B m d) ∧ Kd.R fk 5 w' w.heap.size (fun _ => True) (.slice B m d) (xs.map (ev p)) ∧ Below w.heap.size w w' := by
  have hmk := fun W : World => make0 (P := Try.prog) 36 5 (.int .u8 0) 1 Try.underlying36 info5 rfl (by omega) m (by omega) W
  have HCL := Aside0.mk (Kd.C_len hx)
  have HC := Aside0.mk hx
  have HP := Aside0.mk hp
  have HF := Aside0.mk hF
  clear hx hp hF
  have HR0 := Aside0.mk (R_made0 (enc := encF) (h1 := fun _ => rfl) w w.heap.size 5 m (.int .u8 0) (by omega) (Nat.le_refl _))
  have HB0 := Aside0.mk (below_alloc (Below.refl w.heap.size w) (Obj.cells (Array.replicate m (Value.int IntKind.u8 0)) 5))
  go_enter Try.func125, Try.ntmps125
  go_wp2
  clear hmk
  go_loopw [7, 15] (fun v7 v15 wr => ∃ (k d : Nat) (B : Option Addr), k ≤ m ∧ v15 = .int .i64 k ∧ v7 = .slice B k d ∧ Aside0 (Kd.R fk 5 wr w.heap.size (fun _ => True) (.slice B k d) ((xs.take k).map (ev p))) ∧ Aside0 (Below w.heap.size w wr)) (fun _ v15 _ => m - (intOf v15).toNat)
  case atStart => exact ⟨0, m, _, by omega, rfl, rfl, ⟨by simpa using HR0.out⟩, HB0⟩
  case round =>
    clear HR0 HB0
    obtain ⟨k, d, B, hk, rfl, rfl, HR, HB⟩ := hrel
    by_cases hlt : k < m
    · obtain ⟨ad, rfl, hcell⟩ := C_at HC.out (Fr.of_below HB.out (fun _ => False)) (fun _ h => h.elim) k hlt
      have HSN := Aside0.mk (map_take_snoc (ev p) 0 xs k (by rw [HCL.out]; exact hlt))
      obtain ⟨y, hy⟩ : ∃ y, y = xs.getD k 0 := ⟨_, rfl⟩
      rw [← hy] at hcell HSN
      clear hy
      have HE := Aside0.mk (Eval_any wr g A n c p y (HF.out.fr (Fr.of_below HB.out (fun _ => False)) (fun h => h)) (Kd.C_below HP.out HB.out) hn)
      obtain ⟨x, hx⟩ : ∃ x, x = ev p y := ⟨_, rfl⟩
      rw [← hx] at HE HSN
      clear hx
      have HPU := R_pushes (P := Try.prog) encF 0 (h1 := fun _ => rfl) wr w 36 5 (.int .u8 0) 1 Try.underlying36 info5 rfl HR.out HB.out x k _ (by rw [List.length_map, List.length_take, HCL.out]; omega) HSN.out (by omega) (by omega)
      go_wp2_with (first | (go_at_call 122; refine HE.out.mono ?_; rintro e W1 ⟨rfl, hd⟩; obtain ⟨B', d', W', hX, HR', HB'⟩ := HPU.out W1 (hd.below (Nat.le_refl _) (fun _ h => h.elim)); unfold encF at hX; replace hX := Aside0.mk hX; clear hd) | (at_builtin; refine wpList_append_run rfl _ _ _ _ rfl rfl rfl hX.out ?_))
      go_roundw
      case rel => exact ⟨k + 1, d', B', by omega, by go_num, rfl, HR', HB'⟩
      case measure => simp [intOf]; omega
    · obtain rfl : k = m := by omega
      go_wp2
      go_ret
      have e : xs.take k = xs := List.take_of_length_le (by rw [HCL.out]; exact Nat.le_refl _)
      have h2 := HR.out
      rw [e] at h2
      exact ⟨B, d, rfl, h2, HB.out⟩
end Go.Proofs.Ytpeiejkcoadhfaa
/- Rows of rows by their headers; deal.shares. -/
namespace Go.Proofs.Ytpeiejkcoadhfaa
open Go.RowKit Go.Shelf Go.Proofs.YtpeiejkcoadhfaaW.PrintWords Go.Proofs.YtpeiejkcoadhfaaW.PrintMore
open Go.BigFrame

abbrev Hd : Type := Option Addr × Nat × Nat
def encHd (h : Hd) : Value := .slice h.1 h.2.1 h.2.2
abbrev kh : Kd Hd := Kd.scalar encHd (fun _ => rfl)
def hd0 : Hd := (none, 0, 0)
/-- Rows that are read. -/
def PL (W : World) (A : Option Addr) (n : Nat) (qs : List (List F)) : Prop :=
  ∃ hs : List Hd, Kd.C kh W A n hs ∧ qs.length = n ∧ ∀ i, i < n → (hs.getD i hd0).2.1 = (qs.getD i []).length ∧ (hs.getD i hd0).2.1 ≤ (hs.getD i hd0).2.2 ∧ Kd.C fk W (hs.getD i hd0).1 (qs.getD i []).length (qs.getD i [])
theorem PL_below {w W : World} {A : Option Addr} {n : Nat} {qs : List (List F)} (h : PL w A n qs) (hb : Below w.heap.size w W) : PL W A n qs := by
  obtain ⟨hs, h1, h2, h3⟩ := h
  exact ⟨hs, Kd.C_below h1 hb, h2, fun i hi => ⟨(h3 i hi).1, (h3 i hi).2.1, Kd.C_below (h3 i hi).2.2 hb⟩⟩
theorem hd_at {w : World} {A : Option Addr} {n : Nat} {p : List Hd} (h : Kd.C kh w A n p) (k : Nat) (hk : k < n) : ∃ ad, A = some ad ∧ w.cell? (ad.add k) = some (encHd (p.getD k hd0)) := by
  obtain ⟨ad, e, hc⟩ := (Kd.reads_of_C (enc := encHd) (d := hd0) (h1 := fun _ => rfl) h).2.2 (by omega)
  exact ⟨ad, e, hc k hk⟩
theorem PL_at {w : World} {A : Option Addr} {n : Nat} {qs : List (List F)} (h : PL w A n qs) (k : Nat) (hk : k < n) : ∃ ad B c, A = some ad ∧ w.cell? (ad.add k) = some (.slice B (qs.getD k []).length c) ∧ (qs.getD k []).length ≤ c ∧ Kd.C fk w B (qs.getD k []).length (qs.getD k []) := by
  obtain ⟨hs, h1, h2, h3⟩ := h
  obtain ⟨ad, e, hc⟩ := hd_at h1 k hk
  obtain ⟨e1, e2, e3⟩ := h3 k hk
  refine ⟨ad, (hs.getD k hd0).1, (hs.getD k hd0).2.2, e, ?_, by omega, e3⟩
  rw [hc, ← e1]
  rfl

/-- Rows in the making: their headers in block g, the rows in blocks of their own from b on. -/
def RowsO (W : World) (b : Nat) (ok : Nat → Prop) (g N : Nat) (rows : List (List F)) : Prop :=
  ∃ hs : List Hd, Kd.R kh 36 W g (fun k => k = g) (.slice (some ⟨g, 0, none⟩) N N) hs ∧ rows.length = N ∧ (∀ i, i < N → (hs.getD i hd0).2.1 = (rows.getD i []).length ∧ Kd.R fk 5 W b ok (encHd (hs.getD i hd0)) (rows.getD i [])) ∧
    ∀ i j, i < N → j < N → i ≠ j → ∀ k, OB (hs.getD i hd0).1 k → ¬ OB (hs.getD j hd0).1 k
theorem getD_rep {α : Type} (n i : Nat) (a d : α) (h : i < n) : (List.replicate n a).getD i d = a := by
  rw [List.getD_eq_getElem?_getD, List.getElem?_replicate, if_pos h]; rfl
theorem info36' : (Try.prog.info? 36).map (fun i => (i.zero, i.size, i.bytes)) = some (some (.slice none 0 0), 1, 24) := by kernel_rfl
theorem rows_start (w : World) (b : Nat) (ok : Nat → Prop) (N : Nat) (hN : N ≤ 1000000) : RowsO (w.alloc (.cells (Array.replicate N (.slice none 0 0)) 36)) b ok w.heap.size N (List.replicate N []) := by
  refine ⟨List.replicate N hd0, ?_, by simp, fun i hi => ?_, fun i j hi hj _ k hk => ?_⟩
  · refine Kd.R_of_own ⟨by rw [encs_length, Nat.mul_one], .inr ⟨w.heap.size, N, Array.replicate N (.slice none 0 0), by simp, Nat.le_refl _, blk_new _ _, by simp, by simp only [maxLen]; omega, by simp, ?_⟩⟩ (fun j hj => ?_)
    · simp [encs, encHd, hd0]
    · simpa [Value.ownBlock] using hj.symm
  · rw [getD_rep _ _ _ _ hi, getD_rep _ _ _ _ hi]
    exact ⟨rfl, Kd.R_nil _ _ _ _ _⟩
  · rw [getD_rep _ _ _ _ hi] at hk
    obtain ⟨a, ha, _⟩ := hk
    simp [hd0] at ha
theorem getD_set {α : Type} (l : List α) (h i : Nat) (x d : α) (hh : h < l.length) : (l.set h x).getD i d = if i = h then x else l.getD i d := by
  rw [List.getD_eq_getElem?_getD, List.getD_eq_getElem?_getD, List.getElem?_set]
  by_cases e : h = i
  · subst e
    rw [if_pos rfl, if_pos hh, if_pos rfl]; rfl
  · rw [if_neg e, if_neg (fun h' => e h'.symm)]
theorem rows_blk {W : World} {b : Nat} {ok : Nat → Prop} {g N : Nat} {rows : List (List F)} (h : RowsO W b ok g N rows) (hN : 0 < N) : g < W.heap.size := by
  obtain ⟨hs, h1, _⟩ := h
  exact Kd.R_lt h1 g (by simp [Value.ownBlock])
theorem rows_fr {W W1 : World} {b : Nat} {ok : Nat → Prop} {g N : Nat} {rows : List (List F)} (h : RowsO W b ok g N rows) (hf : Fr (fun _ => False) W W1) : RowsO W1 b ok g N rows := by
  obtain ⟨hs, h1, h2, h3, h4⟩ := h
  exact ⟨hs, R_fr h1 hf (fun _ _ _ _ h => h), h2, fun i hi => ⟨(h3 i hi).1, R_fr (h3 i hi).2 hf (fun _ _ _ _ h => h)⟩, h4⟩
theorem rows_mono {W : World} {b : Nat} {ok ok' : Nat → Prop} {g N : Nat} {rows : List (List F)} (h : RowsO W b ok g N rows) (hk : ∀ k, ok k → b ≤ k → k < W.heap.size → ok' k) : RowsO W b ok' g N rows := by
  obtain ⟨hs, h1, h2, h3, h4⟩ := h
  exact ⟨hs, h1, h2, fun i hi => ⟨(h3 i hi).1, Kd.R_mono (Kd.R_bound (h3 i hi).2) (fun k hk' => hk k hk'.1 hk'.2.1 hk'.2.2.1)⟩, h4⟩
theorem rows_lower {W : World} {b b' : Nat} {ok : Nat → Prop} {g N : Nat} {rows : List (List F)} (h : RowsO W b ok g N rows) (hb : b' ≤ b) : RowsO W b' ok g N rows := by
  obtain ⟨hs, h1, h2, h3, h4⟩ := h
  exact ⟨hs, h1, h2, fun i hi => ⟨(h3 i hi).1, Kd.R_lower (h3 i hi).2 hb⟩, h4⟩
theorem rows_PL {W : World} {b : Nat} {ok : Nat → Prop} {g N : Nat} {rows : List (List F)} (h : RowsO W b ok g N rows) : PL W (some ⟨g, 0, none⟩) N rows := by
  obtain ⟨hs, h1, h2, h3, h4⟩ := h
  refine ⟨hs, R_C h1, h2, fun i hi => ?_⟩
  obtain ⟨e, h5⟩ := h3 i hi
  have h6 := Kd.R_reads' (A := (hs.getD i hd0).1) (n := (hs.getD i hd0).2.1) (c := (hs.getD i hd0).2.2) h5
  exact ⟨e, h6.2.1, h6.2.2⟩
/-- 'out[h] = append(out[h], y)'. -/
theorem rows_push (wr : World) (b : Nat) (ok : Nat → Prop) (g N : Nat) (rows : List (List F)) (H : RowsO wr b ok g N rows) (hb : b ≤ wr.heap.size) (hok : ∀ k, wr.heap.size ≤ k → ok k) (h : Nat) (hh : h < N) (y : F) (m : Nat) (hm : (rows.getD h []).length = m) (hml : m ≤ 1000000) :
    ∃ A c, wr.cell? ⟨g, h, none⟩ = some (.slice A m c) ∧ ∃ B d W', (Builtin.append_ #[36, 36] 36 #[.slice A m c, .slice (some ⟨wr.heap.size, 0, none⟩) 1 1]).run Try.prog (wr.alloc (.cells #[.int .u8 (y.v : Int)] 5)) = .ok (.slice B (m + 1) d) W' ∧
      W'.cell? ⟨g, h, none⟩ = some (.slice A m c) ∧ W'.frozen? ⟨g, h, none⟩ = false ∧ RowsO (W'.setCell ⟨g, h, none⟩ (.slice B (m + 1) d)) b ok g N (rows.set h (rows.getD h [] ++ [y])) ∧ Fr (fun k => k = g ∨ (b ≤ k ∧ ok k)) wr (W'.setCell ⟨g, h, none⟩ (.slice B (m + 1) d)) := by
  obtain ⟨hs, h1, h2, h3, h4⟩ := H
  obtain ⟨e1, e2⟩ := h3 h hh
  obtain ⟨_, hg, _, _, _, hx, hz, hset⟩ := R_at hd0 h1 h hh
  injection hg with hg
  injection hg with hg
  subst hg
  obtain ⟨hw, hhw⟩ : ∃ hw, hw = hs.getD h hd0 := ⟨_, rfl⟩
  rw [← hhw] at e1 e2 hx
  obtain ⟨A, n, c⟩ := hw
  simp only at e1
  obtain rfl : n = m := by omega
  have hb1 : Below wr.heap.size wr (wr.alloc (.cells #[encF y] 5)) := below_alloc (Below.refl _ _) _
  have hlit : Kd.R fk 5 (wr.alloc (.cells #[encF y] 5)) wr.heap.size (fun _ => True) (.slice (some ⟨wr.heap.size, 0, none⟩) 1 1) [y] :=
    Kd.R_of_own (own_lit_of wr wr.heap.size 5 [y] (Nat.le_refl _) (by simp)) (fun _ _ => trivial)
  have hr : Kd.R fk 5 (wr.alloc (.cells #[encF y] 5)) b ok (.slice A n c) (rows.getD h []) := R_fr e2 (Fr.of_below hb1 (fun _ => False)) (fun _ _ _ _ h => h)
  obtain ⟨v', W', hrun, hR, hgr, hat⟩ := R_append_row (P := Try.prog) encF 0 (wr.alloc (.cells #[encF y] 5)) b 36 36 5 (.int .u8 0) 1 Try.underlying36 info5 rfl (ys := [y]) (c := 1) hr (R_C hlit) (by simp only [List.length_cons, List.length_nil]; omega) (by omega) (Nat.le_trans hb hb1.size) (fun k hk => hok k (Nat.le_trans hb1.size hk))
  obtain ⟨B, d, rfl⟩ := Kd.R_slice hR
  rw [List.length_append, hm] at hrun hR
  refine ⟨A, c, hx, B, d, W', hrun, ?_⟩
  -- the step's frame
  have hf1 : Fr (fun k => OB A k) wr W' := (Fr.of_below hb1 _).trans (Fr.of_grown hgr (fun k hk => .inl (own_ob hk))) (fun k hk => .inl hk)
  have typ : ∀ (W : World) (B : Option Addr) (n c : Nat) (l : List F) (hs' : List Hd), Kd.R fk 5 W b ok (.slice B n c) l → Kd.R kh 36 W g (fun k => k = g) (.slice (some ⟨g, 0, none⟩) N N) hs' → ∀ k, OB B k → ¬ k = g := fun W B n c l hs' hr hk k hk1 e => by
    obtain ⟨c1, hc1⟩ := Kd.R_typed hr k (ob_own hk1)
    obtain ⟨c2, hc2⟩ := Kd.R_typed hk g (by simp [Value.ownBlock])
    rw [e] at hc1
    rw [hc1] at hc2
    simp at hc2
  have hAne := typ wr A n c _ hs e2 h1
  have h1' : Kd.R kh 36 W' g (fun k => k = g) (.slice (some ⟨g, 0, none⟩) N N) hs := R_fr h1 hf1 (fun k hk _ _ hob => hAne k hob hk)
  obtain ⟨_, hg', _, _, _, hx', hz', hset'⟩ := R_at hd0 h1' h hh
  injection hg' with hg'
  injection hg' with hg'
  subst hg'
  rw [← hhw] at hx'
  have hB' : ∀ k, OB B k → OB A k ∨ wr.heap.size ≤ k := fun k hk => by
    rcases hat with e | ⟨b', e, hb'⟩
    · exact .inl (own_ob (n := n) (c := c) (by rw [← e]; exact ob_own hk))
    · rw [ob_own hk] at e
      injection e with e
      have := hb1.size
      exact .inr (by omega)
  have hf2 : Fr (fun k => k = g) W' (W'.setCell ⟨g, h, none⟩ (.slice B (n + 1) d)) := (Fr.refl (fun k => k = g) W').set_ (p := ⟨g, h, none⟩) (.inl rfl) _
  have hhl : hs.length = N := (Kd.Q_reads' (Kd.Q_of_R h1)).1.symm
  have hlt : ∀ i, i < N → ∀ k, OB (hs.getD i hd0).1 k → k < wr.heap.size := fun i hi k hk => Kd.R_lt (h3 i hi).2 k (ob_own hk)
  have hA4 : ∀ i, i < N → i ≠ h → ∀ k, OB (hs.getD i hd0).1 k → ¬ OB B k := fun i hi hne k hk hB => by
    rcases hB' k hB with h5 | h5
    · have := h4 i h hi hh hne k hk
      rw [← hhw] at this
      exact this h5
    · have := hlt i hi k hk; omega
  refine ⟨hx', hz', ⟨hs.set h (B, n + 1, d), hset' (B, n + 1, d), by rw [List.length_set]; exact h2, fun i hi => ?_, fun i j hi hj hij k hk => ?_⟩, (hf1.mono (fun k hk => .inr ⟨Kd.R_base e2 k (ob_own hk), e2.1 k (ob_own hk)⟩)).trans' (hf2.mono (fun k hk => .inl hk))⟩
  · rw [getD_set _ _ _ _ _ (by omega), getD_set _ _ _ _ _ (by omega)]
    by_cases e : i = h
    · rw [if_pos e, if_pos e]
      refine ⟨by rw [List.length_append, hm]; rfl, ?_⟩
      exact R_fr1 hR hf2 (typ W' B _ _ _ hs hR h1')
    · rw [if_neg e, if_neg e]
      refine ⟨(h3 i hi).1, ?_⟩
      have h5 : Kd.R fk 5 W' b ok (.slice (hs.getD i hd0).1 (hs.getD i hd0).2.1 (hs.getD i hd0).2.2) (rows.getD i []) := R_fr1 (h3 i hi).2 hf1 (fun k hk hA => by
        have := h4 i h hi hh e k hk
        rw [← hhw] at this
        exact this hA)
      exact R_fr1 h5 hf2 (typ W' _ _ _ _ hs h5 h1')
  · rw [getD_set _ _ _ _ _ (by omega)] at hk ⊢
    by_cases e1' : i = h
    · rw [if_pos e1'] at hk
      rw [if_neg (by omega)]
      exact fun hj' => hA4 j hj (by omega) k hj' hk
    · rw [if_neg e1'] at hk
      by_cases e2' : j = h
      · rw [if_pos e2']
        exact hA4 i hi e1' k hk
      · rw [if_neg e2']
        exact h4 i j hi hj hij k hk

/-- 'make([]T, k)'. -/
theorem makeN {P : Program} (t e : TypeId) (z : Value) (bytes : Nat) (ht : P.underlying t = some (.slice e)) (hinfo : (P.info? e).map (fun i => (i.zero, i.size, i.bytes)) = some (some z, 1, bytes)) (hz : z.cells = #[z]) (hb : bytes ≤ 1024) (k : Nat) (hk : k ≤ 274877906944) (W : World) :
    (Instr.makeSlice t (.int .i64 (k : Int)) (.int .i64 (k : Int))).run P W = .ok (.slice (some ⟨W.heap.size, 0, none⟩) k k) (W.alloc (.cells (Array.replicate k z) e)) := by
  obtain ⟨i0, hi, hz0, hz1, hz2⟩ := info_parts hinfo
  have hr := run_make (P := P) W t e i0 _ ht hi hz0 .i64 .i64 (k : Int) (k : Int) (by omega) (by omega) (by rw [hz2]; have := Nat.mul_le_mul hb hk; rw [← Int.natCast_mul]; omega) (by omega)
  simp only [Int.toNat_natCast] at hr
  rw [hz1] at hr
  have hzc : madeCells (Value.cells z) (k * 1) = Array.replicate k z := by
    rw [hz]
    apply Array.ext
    · simp [madeCells]
    · intro i h1 h2
      simp [madeCells, Nat.mod_one]
  rw [hzc] at hr
  exact hr

/-- The values at all holders' points: row i: j columns more than k where i < j. -/
def rowAt (qs : List (List F)) (k j i : Nat) : List F := (qs.take (if i < j then k + 1 else k)).map fun q => ev q (ptF i)
def rowsAt (N : Nat) (qs : List (List F)) (k j : Nat) : List (List F) := (List.range N).map (rowAt qs k j)
def sharesL (N : Nat) (qs : List (List F)) : List (List F) := (List.range N).map fun i => qs.map fun q => ev q (ptF i)
theorem rowsAt_length (N : Nat) (qs : List (List F)) (k j : Nat) : (rowsAt N qs k j).length = N := by simp [rowsAt]
theorem getD_range {α : Type} (f : Nat → α) (N i : Nat) (d : α) (h : i < N) : ((List.range N).map f).getD i d = f i := by
  rw [List.getD_eq_getElem?_getD, List.getElem?_map, List.getElem?_range h]; rfl
theorem rowsAt_get (N : Nat) (qs : List (List F)) (k j i : Nat) (h : i < N) : (rowsAt N qs k j).getD i [] = rowAt qs k j i := getD_range _ _ _ _ h
theorem rowsAt_start (N : Nat) (qs : List (List F)) : rowsAt N qs 0 0 = List.replicate N [] := by
  apply List.ext_getElem
  · simp [rowsAt]
  · intro i h1 h2
    simp [rowsAt, rowAt]
theorem rowsAt_next (N : Nat) (qs : List (List F)) (k : Nat) : rowsAt N qs k N = rowsAt N qs (k + 1) 0 := by
  apply List.ext_getElem
  · simp [rowsAt]
  · intro i h1 h2
    have : i < N := by simpa [rowsAt] using h1
    simp [rowsAt, rowAt, this]
theorem rowsAt_step (N : Nat) (qs : List (List F)) (k j : Nat) (hk : k < qs.length) (hj : j < N) : (rowsAt N qs k j).set j ((rowsAt N qs k j).getD j [] ++ [ev (qs.getD k []) (ptF j)]) = rowsAt N qs k (j + 1) := by
  rw [rowsAt_get _ _ _ _ _ hj]
  apply List.ext_getElem
  · simp [rowsAt]
  · intro i h1 h2
    have hi : i < N := by simpa [rowsAt] using h2
    rw [List.getElem_set]
    by_cases e : j = i
    · subst e
      rw [if_pos rfl]
      simp only [rowsAt, List.getElem_map, List.getElem_range, rowAt]
      rw [if_neg (by omega), if_pos (by omega)]
      exact (map_take_snoc (fun q => ev q (ptF j)) [] qs k hk).symm
    · rw [if_neg e]
      simp only [rowsAt, List.getElem_map, List.getElem_range, rowAt]
      congr 2
      by_cases h3 : i < j
      · rw [if_pos h3, if_pos (by omega)]
      · rw [if_neg h3, if_neg (by omega)]
theorem rowsAt_end (N : Nat) (qs : List (List F)) : rowsAt N qs qs.length 0 = sharesL N qs := by
  apply List.ext_getElem
  · simp [rowsAt, sharesL]
  · intro i h1 h2
    simp [rowsAt, rowAt, sharesL]
theorem rowAt_len (qs : List (List F)) (k j : Nat) (hk : k < qs.length) : (rowAt qs k j j).length = k := by
  simp only [rowAt, List.length_map, List.length_take]
  rw [if_neg (by omega)]
  omega

theorem of_drew {V W : World} (h : Below V.drew.heap.size V.drew W) : Below V.heap.size V W := ⟨h.os, h.tape, h.output, h.size, h.block⟩
set_option maxRecDepth 100000 in
set_option maxHeartbeats 3200000 in
theorem shares_any (w : World) (g N : Nat) (T K E Rm : Int) (A : Option Addr) (n c : Nat) (qs : List (List F)) (hF : Fld w g) (hP : PL w A n qs) (hN : N ≤ 1000) (hn : n ≤ 100000) (hq : ∀ q ∈ qs, q.length ≤ 1099511627776) :
    Calls Try.prog 88 #[.pointer (some ⟨g, 0, none⟩), parV N T K E Rm, .slice A n c] w fun e w' => ∃ b, e = .returned (.slice (some ⟨b, 0, none⟩) N N) ∧ w.heap.size ≤ b ∧ RowsO w' w.heap.size (fun _ => True) b N (sharesL N qs) ∧ Fr (fun _ => False) w w' := by
  have hmk := fun W : World => makeN (P := Try.prog) 37 36 (.slice none 0 0) 24 Try.underlying37 info36' rfl (by omega) N (by omega) W
  have HP := Aside0.mk hP
  have HF := Aside0.mk hF
  have HQ := Aside0.mk hq
  clear hP hF hq
  have hu48 := Try.underlying48
  go_enter Try.func88, Try.ntmps88
  unfold parV
  go_wp2
  obtain ⟨w1, hw1, hz1, a0, hb1⟩ := heap1 w (Obj.cells #[Value.int IntKind.i64 N, Value.int IntKind.i64 T, Value.int IntKind.i64 K, Value.int IntKind.i64 E, Value.int IntKind.i64 Rm] 48)
  obtain ⟨V, hV, hzV, a1, hbV⟩ := heap1 w1 (Obj.cells (Array.replicate N (Value.slice none 0 0)) 36)
  have hR0 : ∀ b, RowsO V b (fun _ => True) w1.heap.size N (List.replicate N []) := fun b => by rw [hV]; exact rows_start w1 b _ N (by omega)
  rw [← hw1, ← hV]
  obtain ⟨s, hs⟩ : ∃ s, s = w.heap.size := ⟨_, rfl⟩
  rw [hz1] at hR0 hzV
  rw [← hs] at a0 hR0 hzV ⊢
  have a0' := blk_below a0 hbV
  have HG : Aside0 (∀ W, Below V.heap.size V W → W.cell? ⟨s, 0, none⟩ = some (.int .i64 N) ∧ W.cell? ⟨s, 1, none⟩ = some (.int .i64 T) ∧ W.cell? ⟨s, 2, none⟩ = some (.int .i64 K) ∧ W.cell? ⟨s, 3, none⟩ = some (.int .i64 E) ∧ W.cell? ⟨s, 4, none⟩ = some (.int .i64 Rm)) :=
    ⟨fun W hW => by
      have h1 := blk_below a0' hW
      exact ⟨cell_at h1 rfl, cell_at h1 rfl, cell_at h1 rfl, cell_at h1 rfl, cell_at h1 rfl⟩⟩
  have HR0 := Aside0.mk hR0
  have HS := Aside0.mk hs
  have HV : Aside0 (Below w.heap.size w V ∧ V.heap.size = s + 2) := ⟨hb1.trans (hbV.mono hb1.size), by omega⟩
  have HA := Aside0.mk (fun W => all_any W N T K E Rm hN)
  have HPT := Aside0.mk (fun W (A : Option Addr) c hC => Points_any W N T K E Rm A N c (List.range N) hC (by omega))
  unfold parV at HA HPT
  clear hw1 hV hR0 hs a0 a0' hb1 hbV hz1 hzV hmk
  obtain ⟨v0, v1, v2, v3, v4⟩ := HG.out V (Below.refl _ _)
  go_region_with (first | (go_at_call 124; refine (HA.out _).mono ?_; rintro e W1 ⟨B1, d1, rfl, hR1, hb1⟩; replace hb1 := of_drew hb1; obtain ⟨u0, u1, u2, u3, u4⟩ := HG.out W1 hb1; replace hR1 := Aside0.mk hR1; replace hb1 := Aside0.mk hb1) | (go_at_call 45; refine (HPT.out _ _ _ (R_C hR1.out)).mono ?_; rintro e W2 ⟨X, dX, rfl, hX, hb2⟩; replace hX := Aside0.mk hX; replace hb2 := Aside0.mk (hb1.out.trans (hb2.mono hb1.out.size))))
  all_goals
    have hrow := rows_fr (HR0.out W2.heap.size) (Fr.of_below hb2.out (fun _ => False))
    rw [← rowsAt_start N qs] at hrow
    have HRW := Aside0.mk hrow
    have HXC := Aside0.mk (R_C hX.out)
    have HBW := Aside0.mk (HV.out.1.trans (hb2.out.mono HV.out.1.size))
    have hsV : s + 2 ≤ W2.heap.size := by have := hb2.out.size; have := HV.out.2; omega
    have HXB : Aside0 (∀ j, OB X j → ¬ j = s + 1) := ⟨fun j hj e => by
      have h1 := (ob_base (Kd.Q_of_R hX.out) j hj).1
      have h2 := hb1.out.size
      have h3 := HV.out.2
      omega⟩
    clear hrow hX hb2 hb1 HR0 HG HA HPT v0 v1 v2 v3 v4 u0 u1 u2 u3 u4 hR1
    have HSV := Aside0.mk hsV
    clear hsV
    go_wp2
    go_loopw [22] (fun v22 wr => ∃ (k : Nat), k ≤ n ∧ v22 = .int .i64 k ∧ Aside0 (RowsO wr W2.heap.size (fun _ => True) (s + 1) N (rowsAt N qs k 0)) ∧ Aside0 (Fr (fun j => j = s + 1) W2 wr)) (fun v22 _ => n - (intOf v22).toNat)
    case atStart => exact ⟨0, by omega, rfl, HRW, ⟨Fr.refl _ _⟩⟩
    case round =>
      clear HRW
      obtain ⟨k, hk, rfl, HR, HFr⟩ := hrel
      have hbw : Below w.heap.size w wr := HBW.out.trans (HFr.out.below HBW.out.size (fun j hj => by have := HS.out; omega))
      by_cases hlt : k < n
      · obtain ⟨ad, Bq, cq, rfl, hcell, hle, hCq⟩ := PL_at (PL_below HP.out hbw) k hlt
        have hqn : qs.length = n := by obtain ⟨_, _, h, _⟩ := HP.out; exact h
        obtain ⟨q, hq⟩ : ∃ q, q = qs.getD k [] := ⟨_, rfl⟩
        rw [← hq] at hcell hle hCq
        have hql : q.length ≤ 1099511627776 := by
          refine HQ.out q ?_
          rw [hq, List.getD_eq_getElem?_getD, List.getElem?_eq_getElem (by omega)]
          exact List.getElem_mem _
        have HE := Aside0.mk (Encode_any wr g Bq X q.length cq N dX q _ (HF.out.fr (Fr.of_below hbw (fun _ => False)) (fun h => h)) hCq (C_fr' HXC.out HFr.out (fun j hj _ => HXB.out j hj)) hql hN)
        obtain ⟨nq, hnq⟩ : ∃ nq, nq = q.length := ⟨_, rfl⟩
        rw [← hnq] at hcell hle HE
        have HQK := Aside0.mk hq
        have HQN := Aside0.mk hqn
        clear hq hqn hCq hql hnq
        go_wp2_with (go_at_call 125; refine HE.out.mono ?_; rintro e W3 ⟨Y, dY, rfl, hY, hbY⟩)
        have HY := Aside0.mk hY
        have HB3 := Aside0.mk hbY
        clear hY hbY
        have HR3 : Aside0 (RowsO W3 W2.heap.size (fun i => i < wr.heap.size ∨ W3.heap.size ≤ i) (s + 1) N (rowsAt N qs k 0)) := ⟨rows_fr (rows_mono HR.out (fun i _ _ hi => .inl hi)) (Fr.of_below HB3.out (fun _ => False))⟩
        have HZ : Aside0 (s + 2 ≤ wr.heap.size ∧ W2.heap.size ≤ W3.heap.size ∧ wr.heap.size ≤ W3.heap.size) := ⟨by
          have h1 := HSV.out
          have h2 := HFr.out.size
          have h3 := HB3.out.size
          omega⟩
        have HF23 : Aside0 (Fr (fun i => i = s + 1) W2 W3) := ⟨HFr.out.below_ HB3.out⟩
        have HYB : Aside0 (∀ i, OB Y i → wr.heap.size ≤ i) := ⟨fun i hi => (ob_base (Kd.Q_of_R HY.out) i hi).1⟩
        have HYC := Aside0.mk (R_C HY.out)
        obtain ⟨zo, hzo⟩ : ∃ zo, zo = wr.heap.size := ⟨_, rfl⟩
        rw [← hzo] at HR3 HZ HYB
        clear HE hbw hzo HY HB3 HR HFr
        go_loopw [31] (fun v31 wr => ∃ (j : Nat), j ≤ N ∧ v31 = .int .i64 j ∧ Aside0 (RowsO wr W2.heap.size (fun i => i < zo ∨ W3.heap.size ≤ i) (s + 1) N (rowsAt N qs k j)) ∧ Aside0 (Fr (fun i => i = s + 1 ∨ (W2.heap.size ≤ i ∧ i < zo)) W3 wr)) (fun v31 _ => N - (intOf v31).toNat)
        case atStart => exact ⟨0, by omega, rfl, HR3, ⟨Fr.refl _ _⟩⟩
        case round =>
          clear HR3
          obtain ⟨j, hj, rfl, HRt, HFt⟩ := hrel
          by_cases hjm : j < N
          · have hYt := C_fr' HYC.out HFt.out (fun i hi _ h => by
              have h1 := HYB.out i hi
              have h2 := HZ.out.1
              omega)
            obtain ⟨ay, rfl, hcy⟩ := C_at hYt (Fr.refl (fun _ => False) wr) (fun _ h => h.elim) j hjm
            rw [List.map_map, getD_range _ _ _ _ hjm] at hcy
            have HST := Aside0.mk (rowsAt_step N qs k j (by rw [HQN.out]; exact hlt) hjm)
            rw [← HQK.out] at HST
            have hyv : (ev q ∘ ptF) j = ev q (ptF j) := rfl
            rw [hyv] at hcy
            obtain ⟨y, hy⟩ : ∃ y, y = ev q (ptF j) := ⟨_, rfl⟩
            rw [← hy] at hcy HST
            obtain ⟨A', c', hx, B', d', W', hrun, hx', hz', hR', hF'⟩ := rows_push wr W2.heap.size _ (s + 1) N _ HRt.out (by have := HZ.out; have := HFt.out.size; omega) (fun i hi => .inr (Nat.le_trans HFt.out.size hi)) j hjm y k (by rw [rowsAt_get _ _ _ _ _ hjm]; exact rowAt_len qs k j (by rw [HQN.out]; exact hlt)) (by omega)
            rw [HST.out] at hR'
            have HRUN := Aside0.mk hrun
            have HR' := Aside0.mk hR'
            have HF' : Aside0 (Fr (fun i => i = s + 1 ∨ (W2.heap.size ≤ i ∧ i < zo)) W3 (W'.setCell ⟨s + 1, j, none⟩ (.slice B' (k + 1) d'))) := ⟨HFt.out.trans hF' (fun i hi => by
              rcases hi with h1 | ⟨h1, h2 | h2⟩
              · exact .inl (.inl h1)
              · exact .inl (.inr ⟨h1, h2⟩)
              · exact .inr h2)⟩
            have hjI : (j : Int) < (N : Int) := by omega
            have HYY := Aside0.mk hy
            clear hy hyv hrun hR' hF' hYt
            go_wp2_with (at_builtin; refine wpList_append_run rfl _ _ _ _ rfl rfl rfl HRUN.out ?_)
            go_roundw
            case rel => exact ⟨j + 1, by omega, by go_num, HR', HF'⟩
            case measure => simp [intOf]; omega
          · obtain rfl : j = N := by omega
            have hnx := HRt.out
            rw [rowsAt_next] at hnx
            have HNX : Aside0 (RowsO wr W2.heap.size (fun _ => True) (s + 1) j (rowsAt j qs (k + 1) 0)) := ⟨rows_mono hnx (fun _ _ _ _ => trivial)⟩
            have HFN : Aside0 (Fr (fun i => i = s + 1) W2 wr) := ⟨HF23.out.trans HFt.out (fun i hi => by
              rcases hi with h1 | h1
              · exact .inl h1
              · exact .inr h1.1)⟩
            clear hnx
            go_wp2
            go_roundw
            case rel => exact ⟨k + 1, by omega, by go_num, HNX, HFN⟩
            case measure => simp [intOf]; omega
      · obtain rfl : k = n := by omega
        go_wp2
        go_ret
        obtain ⟨_, _, hqn, _⟩ := HP.out
        refine ⟨s + 1, rfl, by have := HS.out; omega, ?_, (Fr.of_below HBW.out _).trans HFr.out (fun j hj => .inr (by have := HS.out; omega))⟩
        have h1 := HR.out
        rw [← hqn, rowsAt_end] at h1
        exact rows_lower h1 HBW.out.size
end Go.Proofs.Ytpeiejkcoadhfaa
/- deal.each, Need, pieces. -/
namespace Go.Proofs.Ytpeiejkcoadhfaa
open Go.RowKit Go.Shelf Go.Proofs.YtpeiejkcoadhfaaW.PrintWords Go.Proofs.YtpeiejkcoadhfaaW.PrintMore
attribute [local go_sem] Oper.semAt_some

def eachN (T K : Nat) (kind : Int) : Nat := if kind = 1 ∨ kind = 2 then T else if kind = 3 then T + K - 1 else if kind = 4 then T + K else 0
theorem each_f (N T K : Nat) (E Rm kind : Int) (hT : T ≤ 1000) (hK : K ≤ 1000) (hTK : 1 ≤ T + K) (q : Nat) : PDealPoints.deal_each.f (q + 1) N T K E Rm kind = some ((eachN T K kind : Nat) : Int) := by
  have h1 : wrap64 ((T : Int) + (K : Int)) = ((T + K : Nat) : Int) := wr_add T K (by omega)
  have h2 : wrap64 (((T + K : Nat) : Int) - 1) = ((T + K - 1 : Nat) : Int) := by rw [wr_pred _ (by omega)]; omega
  unfold PDealPoints.deal_each.f PDealPoints.deal_each.j0 eachN
  simp only []
  rw [h1, h2]
  by_cases c1 : kind = 1
  · subst c1; simp
  · by_cases c2 : kind = 2
    · subst c2; simp
    · by_cases c3 : kind = 3
      · subst c3; simp
      · by_cases c4 : kind = 4
        · subst c4; simp
        · simp [c1, c2, c3, c4]
theorem each_any (w : World) (N T K : Nat) (E Rm kind : Int) (hT : T ≤ 1000) (hK : K ≤ 1000) (hTK : 1 ≤ T + K) : Calls Try.prog 82 #[parV N T K E Rm, .int .i64 kind] w fun e w' => e = .returned (.int .i64 ((eachN T K kind : Nat) : Int)) ∧ Below w.heap.size w w' :=
  PDealPoints.deal_each.calls 1 _ _ _ _ _ _ _ w (each_f N T K E Rm kind hT hK hTK 0)
theorem eachN_le (T K : Nat) (kind : Int) (hT : T ≤ 1000) (hK : K ≤ 1000) : eachN T K kind ≤ 2000 := by
  unfold eachN; split
  · omega
  · split
    · omega
    · split <;> omega
theorem Need_any (w : World) (N T K : Nat) (E Rm kind : Int) (cols : Nat) (hT : T ≤ 1000) (hK : K ≤ 1000) (hTK : 1 ≤ T + K) (hc : cols ≤ 1099511627776) : Calls Try.prog 49 #[parV N T K E Rm, .int .i64 kind, .int .i64 cols] w fun e w' => e = .returned (.int .i64 ((eachN T K kind * cols : Nat) : Int)) ∧ Below w.heap.size w w' := by
  refine PDealPoints.deal_Need.calls 1 _ _ _ _ _ _ _ _ w ?_
  unfold PDealPoints.deal_Need.f
  rw [each_f N T K E Rm kind hT hK hTK 0]
  simp only [Option.bind_some]
  have h1 := eachN_le T K kind hT hK
  have h2 := Nat.mul_le_mul h1 hc
  rw [← Int.natCast_mul, wr64 _ (by omega) (by omega)]

theorem pieces_any (w : World) (N T K E Rm : Int) (kind cols : Int) (A : Option Addr) (n c : Nat) : Calls Try.prog 84 #[parV N T K E Rm, .int .i64 kind, .int .i64 cols, .slice A n c] w fun e w' =>
    e = .returned (.func (.func 120) #[] #[.pointer (some ⟨w.heap.size, 0, none⟩), .pointer (some ⟨w.heap.size + 1, 0, none⟩), .pointer (some ⟨w.heap.size + 1 + 1, 0, none⟩), .pointer (some ⟨w.heap.size + 1 + 1 + 1, 0, none⟩)]) ∧
    w' = (((w.alloc (.cells #[.int .i64 N, .int .i64 T, .int .i64 K, .int .i64 E, .int .i64 Rm] 48)).alloc (.cells #[.int .i64 kind] 3)).alloc (.cells #[.int .i64 cols] 3)).alloc (.cells #[.slice A n c] 36) := by
  have hu48 := Try.underlying48
  unfold parV
  go_enter Try.func84, Try.ntmps84
  go_wp2
  go_ret
  exact ⟨rfl, rfl⟩
/-- A column's random bytes. -/
def pieceV (A : Option Addr) (c en j : Nat) : Value := .slice (cutA A c (j * en)) en (c - j * en)
set_option maxRecDepth 100000 in
set_option maxHeartbeats 1600000 in
theorem pieces_seq (S : Nat → Prop) (w : World) (b0 b1 b2 b3 : Nat) (N T K : Nat) (E Rm kind : Int) (cols : Nat) (A : Option Addr) (n c en : Nat) (he : eachN T K kind = en) (hT : T ≤ 1000) (hK : K ≤ 1000) (hTK : 1 ≤ T + K)
    (hn : en * cols ≤ n) (hc : n ≤ c) (hnl : n ≤ 1099511627776) (hcl : cols ≤ 1099511627776)
    (h0 : w.heap[b0]? = some (.cells #[.int .i64 N, .int .i64 T, .int .i64 K, .int .i64 E, .int .i64 Rm] 48 (0, 0))) (h1 : w.heap[b1]? = some (.cells #[.int .i64 kind] 3 (0, 0))) (h2 : w.heap[b2]? = some (.cells #[.int .i64 cols] 3 (0, 0))) (h3 : w.heap[b3]? = some (.cells #[.slice A n c] 36 (0, 0)))
    (s0 : ¬ S b0) (s1 : ¬ S b1) (s2 : ¬ S b2) (s3 : ¬ S b3) :
    SeqF Try.prog 120 #[.pointer (some ⟨b0, 0, none⟩), .pointer (some ⟨b1, 0, none⟩), .pointer (some ⟨b2, 0, none⟩), .pointer (some ⟨b3, 0, none⟩)] (fun (j : Nat) => #[.int .i64 (j : Int), pieceV A c en j]) (fun pre j _ => j = pre.length ∧ j < cols) S (fun xs => xs = List.range cols) w := by
  intro l J W hW hJ hY hJ0
  refine callsIn_of_wp Try.func120 rfl trivial ?_ rfl
  simp only [Try.ntmps120, List.size_toArray, List.length_cons, List.length_nil, Nat.reduceAdd, Nat.reduceSub, Array.replicate_succ, Array.replicate_zero, List.push_toArray, List.append_toArray, List.nil_append, List.cons_append]
  have hnot : ∀ {k : Nat} {o : Obj}, w.heap[k]? = some o → ¬ S k → ¬ (S k ∨ w.heap.size ≤ k) := fun ho hk h => h.elim hk (fun h => by have := blk_lt ho; omega)
  have HC3 : Aside0 (∀ {W1 : World}, Fr (fun k => S k ∨ w.heap.size ≤ k) w W1 → W1.cell? ⟨b3, 0, none⟩ = some (.slice A n c)) := ⟨fun hf => cell_at (hf.blk h3 (hnot h3 s3)) rfl⟩
  have H0 : Aside0 (∀ {W1 : World}, Below w.heap.size w W1 → W1.cell? ⟨b0, 0, none⟩ = some (.int .i64 N) ∧ W1.cell? ⟨b0, 1, none⟩ = some (.int .i64 T) ∧ W1.cell? ⟨b0, 2, none⟩ = some (.int .i64 K) ∧ W1.cell? ⟨b0, 3, none⟩ = some (.int .i64 E) ∧ W1.cell? ⟨b0, 4, none⟩ = some (.int .i64 Rm) ∧
      W1.cell? ⟨b1, 0, none⟩ = some (.int .i64 kind) ∧ W1.cell? ⟨b2, 0, none⟩ = some (.int .i64 (cols : Int))) :=
    ⟨fun hb => by
      have g0 := blk_below h0 hb
      exact ⟨cell_at g0 rfl, cell_at g0 rfl, cell_at g0 rfl, cell_at g0 rfl, cell_at g0 rfl, cell_at (blk_below h1 hb) rfl, cell_at (blk_below h2 hb) rfl⟩⟩
  obtain ⟨v0, v1, v2, v3, v4, v5, v6⟩ := H0.out hW
  have HEA := Aside0.mk (each_any W N T K E Rm kind hT hK hTK)
  rw [he] at HEA
  have HW := Aside0.mk hW
  have HY := Aside0.mk hY
  have HJ := Aside0.mk hJ
  have HJ0 := Aside0.mk hJ0
  unfold parV at HEA
  clear hnot h0 h1 h2 h3 hW hY hJ hJ0 he
  have hu48 := Try.underlying48
  gi_wp2_with (refine ⟨trivial, ?_⟩; gi_at_call 82; refine (callsIn_wide.2 HEA.out).mono ?_; rintro e W1 ⟨rfl, hb1⟩; obtain ⟨_, _, _, _, _, _, v7⟩ := H0.out (HW.out.trans (hb1.mono HW.out.size)); replace hb1 := Aside0.mk hb1)
  have HB1 := Aside0.mk (HW.out.trans (hb1.out.mono HW.out.size))
  have HJ1 := Aside0.mk (HJ.out _ _ _ HJ0.out hb1.out)
  clear v0 v1 v2 v3 v4 v5 v6 v7 H0 HJ0 hb1 HW
  gi_loopw [12] (fun v12 wr => ∃ (j : Nat), j ≤ cols ∧ v12 = .int .i64 j ∧ Aside0 (J (List.range j) wr) ∧ Aside0 (Fr (fun k => S k ∨ w.heap.size ≤ k) w wr)) (fun v12 _ => cols - (intOf v12).toNat)
  case atStart => exact ⟨0, by omega, rfl, HJ1, ⟨Fr.of_below HB1.out _⟩⟩
  case round =>
    clear HJ1 HB1
    obtain ⟨j, hj, rfl, HJR, HFR⟩ := hrel
    by_cases hlt : j < cols
    · have c3 := HC3.out HFR.out
      have hm1 : j * en + en ≤ n := by
        have h1 := Nat.mul_le_mul_left en (show j + 1 ≤ cols from hlt)
        rw [Nat.mul_add, Nat.mul_one] at h1
        rw [Nat.mul_comm j en]
        omega
      have w1 : IntKind.i64.wrap ((j : Int) * (en : Int)) = ((j * en : Nat) : Int) := by
        rw [← Int.natCast_mul, IntWalk.i64_in _ ⟨by omega, by omega⟩]
      have w2 : IntKind.i64.wrap (((j : Int) + 1) * (en : Int)) = ((j * en + en : Nat) : Int) := by
        have : ((j : Int) + 1) * (en : Int) = ((j * en + en : Nat) : Int) := by
          rw [Int.add_mul, Int.one_mul]; omega
        rw [this, IntWalk.i64_in _ ⟨by omega, by omega⟩]
      have w3 : IntKind.i64.wrap ((j : Int) + 1) = (j : Int) + 1 := IntWalk.i64_in _ ⟨by omega, by omega⟩
      have hcut : ∀ W : World, (Instr.slice 36 (.slice A n c) (some (.int .i64 ((j * en : Nat) : Int))) (some (.int .i64 ((j * en + en : Nat) : Int))) none).run Try.prog W = .ok (pieceV A c en j) W := fun W => by
        obtain ⟨f, hi, _, hs, _⟩ := info_parts info5
        have := mid_run (P := Try.prog) 36 5 Try.underlying36 hi hs A n c (j * en) (j * en + en) (by omega) hm1 hc W
        rw [Nat.add_sub_cancel_left] at this
        exact this
      obtain ⟨fn, tmps, assign, body, hy, hR⟩ := HY.out (List.range j) j wr HJR.out ⟨by simp, hlt⟩
      have hy' : (Instr.yield l #[.int .i64 (j : Int), pieceV A c en j]).run Try.prog wr = .ok (.round l fn tmps assign body) wr := hy
      obtain ⟨V, hV⟩ : ∃ V, V = pieceV A c en j := ⟨_, rfl⟩
      rw [← hV] at hy' hcut
      generalize j * en = lo at *
      generalize lo + en = hi at *
      have HV := Aside0.mk hV
      clear hy hV
      gi_wp2
      refine hR.mono ?_
      rintro ee W' ⟨rfl, hj', hf'⟩
      have HF' := Aside0.mk (HFR.out.trans' hf')
      have HJ' := Aside0.mk hj'
      clear hj' hf'
      gi_wp2
      go_roundw
      case rel => exact ⟨j + 1, by omega, by go_num, ⟨by rw [List.range_succ]; exact HJ'.out⟩, HF'⟩
      case measure => simp only [intOf]; omega
    · gi_wp2
      go_end0
      obtain rfl : j = cols := by omega
      exact ⟨⟨_, rfl⟩, _, rfl, HJR.out⟩
end Go.Proofs.Ytpeiejkcoadhfaa
/- Polynomials in the making; deal.dealt. -/
namespace Go.Proofs.Ytpeiejkcoadhfaa
open Go.RowKit Go.Shelf Go.Proofs.YtpeiejkcoadhfaaW.PrintWords Go.Proofs.YtpeiejkcoadhfaaW.PrintMore
open Go.BigFrame
attribute [local go_sem] Oper.semAt_some

theorem operIn_append {F : Fence} {n : Nat} {P : Program} {o : Oper} {a : Act} {K : Act → World → Prop} {Q : Exit → Act → World → Prop} {w w' : World} {v y v' : Value} (s x : Operand) (t t' : TypeId)
    (ho : o.op = .call { callee := .builtin .append, args := #[s, x], argTypes := #[t, t'] }) (hs : a.eval s = v) (hx : a.eval x = y) (hrun : (Builtin.append_ #[t, t'] o.type #[v, y]).run P w = .ok v' w')
    (h : K (a.put o.dst v') w') : o.wpIn F n P a w K Q := by
  unfold Oper.wpIn
  refine ⟨?_, ?_⟩
  · simp [Oper.about, ho, resolve, Target.leads, Sem.run_pure]
  · rw [Oper.semAt_plain F _ _ (by rw [ho]; intro c hc'; cases hc')]
    simp only [execOp, ho, resolve, invoke, builtin, Sem.run_bind, Sem.run_pure, Result.andThen_ok, List.map_toArray, List.map_cons, List.map_nil, hs, hx, hrun]
    exact h
/-- No row of bytes, no row of headers is among the turned blocks from b on. -/
def NoRow (S : Nat → Prop) (b : Nat) (W : World) : Prop := ∀ k, b ≤ k → S k → ∀ cells t, W.heap[k]? = some (.cells cells t (0, 0)) → t ≠ 5 ∧ t ≠ 36
theorem RF_noRow {S : Nat → Prop} {W W1 : World} {b : Nat} {B : Option Addr} {q : List F} (h : RF W b B q) (hf : Fr S W W1) (hS : ∀ k, b ≤ k → S k → ∀ cells t, W.heap[k]? = some (.cells cells t (0, 0)) → t ≠ 5) : RF W1 b B q := by
  have hn : 0 < q.length → ∀ j, OB B j → ¬ S j := fun hp j hj hs => by
    obtain ⟨h1, cells, h2⟩ := h.2 hp j hj
    exact hS j h1 hs cells 5 h2 rfl
  refine ⟨C_fr' h.1 hf (fun j hj hp => hn hp j hj), fun hp j hj => ?_⟩
  obtain ⟨h1, cells, h2⟩ := h.2 hp j hj
  exact ⟨h1, cells, hf.blk h2 (hn hp j hj)⟩
/-- Polynomials in new memory, in a row of one's own. -/
def PolyI (W : World) (b : Nat) (v : Value) (qs : List (List F)) : Prop :=
  ∃ hs : List Hd, Kd.R kh 36 W b (fun _ => True) v hs ∧ hs.length = qs.length ∧ ∀ i, i < qs.length → ∃ B, hs.getD i hd0 = (B, (qs.getD i []).length, (qs.getD i []).length) ∧ RF W b B (qs.getD i [])
theorem poly_nil (W : World) (b : Nat) : PolyI W b (.slice none 0 0) [] := ⟨[], Kd.R_nil _ _ _ _ _, rfl, fun i hi => absurd hi (by simp)⟩
theorem poly_fr {S : Nat → Prop} {W W1 : World} {b : Nat} {v : Value} {qs : List (List F)} (h : PolyI W b v qs) (hf : Fr S W W1) (hS : NoRow S b W) : PolyI W1 b v qs := by
  obtain ⟨hs, h1, h2, h3⟩ := h
  obtain ⟨A, c, rfl⟩ := Kd.R_slice h1
  refine ⟨hs, R_fr1 h1 hf (fun k hk hs' => ?_), h2, fun i hi => ?_⟩
  · obtain ⟨cells, hc⟩ := Kd.R_typed h1 k (ob_own hk)
    exact (hS k (ob_base (Kd.Q_of_R h1) k hk).1 hs' cells 36 hc).2 rfl
  · obtain ⟨B, e, hr⟩ := h3 i hi
    exact ⟨B, e, RF_noRow hr hf (fun k hk hs' cells t hc => (hS k hk hs' cells t hc).1)⟩
theorem poly_slice {W : World} {b : Nat} {v : Value} {qs : List (List F)} (h : PolyI W b v qs) : ∃ A c, v = .slice A qs.length c := by
  obtain ⟨hs, h1, h2, _⟩ := h
  obtain ⟨A, c, e⟩ := Kd.R_slice h1
  exact ⟨A, c, by rw [← h2]; exact e⟩
theorem poly_PL {W : World} {b c : Nat} {A : Option Addr} {n : Nat} {qs : List (List F)} (h : PolyI W b (.slice A n c) qs) : PL W A n qs := by
  obtain ⟨hs, h1, h2, h3⟩ := h
  have h4 := Kd.R_reads' h1
  have hn : n = qs.length := by rw [← h2]; exact h4.1
  refine ⟨hs, R_C h1, hn.symm, fun i hi => ?_⟩
  obtain ⟨B, e, hr⟩ := h3 i (by omega)
  rw [e]
  exact ⟨rfl, Nat.le_refl _, hr.1⟩
theorem no_none (b : Nat) (W : World) : NoRow (fun _ => False) b W := fun _ _ h => h.elim
theorem getD_app {α : Type} (l : List α) (x d : α) (i : Nat) : (l ++ [x]).getD i d = if i < l.length then l.getD i d else if i = l.length then x else d := by
  rw [List.getD_eq_getElem?_getD, List.getD_eq_getElem?_getD, List.getElem?_append]
  by_cases h : i < l.length
  · rw [if_pos h, if_pos h]
  · rw [if_neg h, if_neg h]
    by_cases e : i = l.length
    · rw [if_pos e, e, Nat.sub_self]; rfl
    · rw [if_neg e, List.getElem?_eq_none (by simp; omega)]; rfl
/-- 'append(polys, q)'. -/
theorem poly_push (wr : World) (b : Nat) (v : Value) (qs : List (List F)) (H : PolyI wr b v qs) (hb : b ≤ wr.heap.size) (B : Option Addr) (q : List F) (hB : RF wr b B q) (m : Nat) (hm : qs.length = m) (hml : m ≤ 1099511627776) :
    ∃ B' d' W', (Builtin.append_ #[37, 37] 37 #[v, .slice (some ⟨wr.heap.size, 0, none⟩) 1 1]).run Try.prog (wr.alloc (.cells #[.slice B q.length q.length] 36)) = .ok (.slice B' (m + 1) d') W' ∧ PolyI W' b (.slice B' (m + 1) d') (qs ++ [q]) ∧ Fr (fun k => b ≤ k ∧ v.ownBlock = some k) wr W' := by
  subst hm
  obtain ⟨hs, h1, h2, h3⟩ := H
  have hb1 : Below wr.heap.size wr (wr.alloc (.cells #[encHd (B, q.length, q.length)] 36)) := below_alloc (Below.refl _ _) _
  have hlit : Kd.R kh 36 (wr.alloc (.cells #[encHd (B, q.length, q.length)] 36)) wr.heap.size (fun _ => True) (.slice (some ⟨wr.heap.size, 0, none⟩) 1 1) [(B, q.length, q.length)] :=
    Kd.R_of_own (own_lit_of wr wr.heap.size 36 [(B, q.length, q.length)] (Nat.le_refl _) (by simp)) (fun _ _ => trivial)
  have hr := R_fr h1 (Fr.of_below hb1 (fun _ => False)) (fun _ _ _ _ h => h)
  obtain ⟨v', W', hrun, hR, hgr, hat⟩ := R_append_row (P := Try.prog) encHd hd0 (wr.alloc (.cells #[encHd (B, q.length, q.length)] 36)) b 37 37 36 (.slice none 0 0) 24 Try.underlying37 info36' rfl (ys := [(B, q.length, q.length)]) (c := 1) hr (R_C hlit) (by simp only [List.length_cons, List.length_nil]; omega) (by omega) (Nat.le_trans hb hb1.size) (fun _ _ => trivial)
  obtain ⟨B', d', rfl⟩ := Kd.R_slice hR
  rw [List.length_append, h2] at hrun hR
  have hf : Fr (fun k => b ≤ k ∧ v.ownBlock = some k) wr W' := (Fr.of_below hb1 _).trans (Fr.of_grown hgr (fun k hk => .inl ⟨Kd.R_base h1 k hk, hk⟩)) (fun k hk => .inl hk)
  have hno : ∀ k, b ≤ k → (b ≤ k ∧ v.ownBlock = some k) → ∀ cells t, wr.heap[k]? = some (.cells cells t (0, 0)) → t ≠ 5 := fun k _ hk cells t hc => by
    obtain ⟨c2, hc2⟩ := Kd.R_typed h1 k hk.2
    rw [hc] at hc2
    injection hc2 with hc2
    injection hc2 with _ hc2
    rw [hc2]
    decide
  refine ⟨B', d', W', hrun, ⟨hs ++ [(B, q.length, q.length)], hR, by simp [h2], fun i hi => ?_⟩, hf⟩
  rw [List.length_append, List.length_cons, List.length_nil] at hi
  rw [getD_app, getD_app, h2]
  by_cases e : i < qs.length
  · rw [if_pos e, if_pos e]
    obtain ⟨B0, e0, hr0⟩ := h3 i e
    exact ⟨B0, e0, RF_noRow hr0 hf hno⟩
  · rw [if_neg e, if_neg e, if_pos (by omega), if_pos (by omega)]
    exact ⟨B, rfl, RF_noRow hB hf hno⟩

/-- A column's random bytes. -/
def pieceL (rnd : List F) (en j : Nat) : List F := (rnd.drop (j * en)).take en
/-- Random polynomials times a factor. -/
def dealtL (cols en : Nat) (fs rnd : List F) : List (List F) := (List.range cols).map fun j => trimP (mulP fs (pieceL rnd en j))
theorem piece_C {W : World} {A : Option Addr} {n c en j : Nat} {rnd : List F} (h : Kd.C fk W A n rnd) (hj : j * en + en ≤ n) (hc : n ≤ c) : Kd.C fk W (cutA A c (j * en)) en (pieceL rnd en j) := by
  have := mid_C (0 : F) c (j * en) (j * en + en) h (by omega) hj hc
  rw [Nat.add_sub_cancel_left] at this
  exact this
theorem dealt_no (w : World) (g N T K : Nat) (E Rm kind : Int) (cols : Nat) (A X : Option Addr) (n c nf cf' : Nat) (hT : T ≤ 1000) (hK : K ≤ 1000) (hTK : 1 ≤ T + K) (hcl : cols ≤ 1099511627776) (hn : n ≠ eachN T K kind * cols) :
    Calls Try.prog 93 #[.pointer (some ⟨g, 0, none⟩), parV N T K E Rm, .int .i64 kind, .int .i64 cols, .slice A n c, .slice X nf cf'] w fun e w' => e = .returned (.tuple #[.slice none 0 0, .bool false]) ∧ Fr (fun _ => False) w w' := by
  have HN := Aside0.mk (fun W => Need_any W N T K E Rm kind cols hT hK hTK hcl)
  obtain ⟨m, hm⟩ : ∃ m, m = eachN T K kind * cols := ⟨_, rfl⟩
  rw [← hm] at HN hn
  have hne : ((n : Int) != (m : Int)) = true := by simp; omega
  clear hm
  have hu48 := Try.underlying48
  unfold parV at *
  go_enter Try.func93, Try.ntmps93
  go_wp2_with (go_at_call 49; refine (HN.out _).mono ?_; rintro e W1 ⟨rfl, hb1⟩; replace hb1 := Aside0.mk hb1)
  go_ret2
  exact ⟨rfl, ((((Fr.refl _ w).alloc _).alloc _).alloc _).below_ hb1.out⟩
theorem rows_frS {S : Nat → Prop} {W W1 : World} {b : Nat} {ok : Nat → Prop} {g N : Nat} {rows : List (List F)} (h : RowsO W b ok g N rows) (hf : Fr S W W1) (hS : ∀ k, S k → k < b ∧ k ≠ g) : RowsO W1 b ok g N rows := by
  obtain ⟨hs, h1, h2, h3, h4⟩ := h
  exact ⟨hs, R_fr h1 hf (fun k hk _ _ h => (hS k h).2 hk), h2, fun i hi => ⟨(h3 i hi).1, R_fr (h3 i hi).2 hf (fun k _ hk _ h => by have := (hS k h).1; omega)⟩, h4⟩
/-- So far dealt. -/
def DealI (f : Nat → List F) (w2 : World) (o : Nat) (pre : List Nat) (W : World) : Prop := ∃ v, W.heap[o]? = some (.cells #[v] 37 (0, 0)) ∧ PolyI W (w2.heap.size + 2) v (pre.map f) ∧ Fr (fun j => j = o) w2 W
theorem dealI_abd (f : Nat → List F) (w2 : World) (o : Nat) (ho : o < w2.heap.size) : Abd w2.heap.size (DealI f w2 o) := by
  rintro pre W W' ⟨v, hv, hr, hf⟩ hk
  refine ⟨v, hk.blk hv (fun h => by omega), poly_fr hr hk ?_, hf.trans hk (fun k h => .inr h.1)⟩
  rintro k _ ⟨_, o', ho', hc⟩ cells t hc'
  rw [hc'] at ho'
  injection ho' with ho'
  subst ho'
  simp [Obj.isCells] at hc
set_option maxRecDepth 100000 in
set_option maxHeartbeats 3200000 in
theorem dealt_yes (w : World) (g N T K : Nat) (E Rm kind : Int) (cols : Nat) (A X : Option Addr) (n c nf cf' : Nat) (rnd fs : List F) (hF : Fld w g) (hr : Kd.C fk w A n rnd) (hf : Kd.C fk w X nf fs) (hc : n ≤ c) (hN : N ≤ 1000) (hT : T ≤ 1000) (hK : K ≤ 1000) (hTK : 1 ≤ T + K) (hcl : cols ≤ 100000) (hn : n = eachN T K kind * cols) (hnf : nf ≤ 1000000) :
    Calls Try.prog 93 #[.pointer (some ⟨g, 0, none⟩), parV N T K E Rm, .int .i64 kind, .int .i64 cols, .slice A n c, .slice X nf cf'] w fun e w' => ∃ b, e = .returned (.tuple #[.slice (some ⟨b, 0, none⟩) N N, .bool true]) ∧ w.heap.size ≤ b ∧ RowsO w' w.heap.size (fun _ => True) b N (sharesL N (dealtL cols (eachN T K kind) fs rnd)) ∧ Fr (fun _ => False) w w' := by
  have HN := Aside0.mk (fun W => Need_any W N T K E Rm kind cols hT hK hTK (by omega))
  have henl := eachN_le T K kind hT hK
  obtain ⟨en, hen⟩ : ∃ en, en = eachN T K kind := ⟨_, rfl⟩
  rw [← hen] at HN hn henl ⊢
  have hnl : n ≤ 200000000 := by rw [hn]; have := Nat.mul_le_mul henl hcl; omega
  rw [← hn] at HN
  have HPC := Aside0.mk (fun W => pieces_any W N T K E Rm kind cols A n c)
  have HR := Aside0.mk hr
  have HX := Aside0.mk hf
  have HF := Aside0.mk hF
  have HEN := Aside0.mk hen
  have HNN := Aside0.mk hn
  have hu48 := Try.underlying48
  unfold parV at *
  have hne : ((n : Int) != (n : Int)) = false := by simp
  obtain ⟨w0, hw0, hz0, a0, a1, a2, hb0⟩ := heap3 w (Obj.cells #[Value.pointer (some { block := g, off := 0 })] 23) (Obj.cells #[Value.int IntKind.i64 ↑N, Value.int IntKind.i64 ↑T, Value.int IntKind.i64 ↑K, Value.int IntKind.i64 E, Value.int IntKind.i64 Rm] 48) (Obj.cells #[Value.slice X nf cf'] 36)
  have HA0 := Aside0.mk a0
  have HA1 := Aside0.mk a1
  have HA2 := Aside0.mk a2
  have HB0 := Aside0.mk hb0
  have HZ0 := Aside0.mk hz0
  have HW0 := Aside0.mk hw0
  have HG : Aside0 (∀ W, Below w0.heap.size w0 W → W.cell? ⟨w.heap.size + 1, 0, none⟩ = some (.int .i64 N) ∧ W.cell? ⟨w.heap.size + 1, 1, none⟩ = some (.int .i64 T) ∧ W.cell? ⟨w.heap.size + 1, 2, none⟩ = some (.int .i64 K) ∧ W.cell? ⟨w.heap.size + 1, 3, none⟩ = some (.int .i64 E) ∧ W.cell? ⟨w.heap.size + 1, 4, none⟩ = some (.int .i64 Rm)) :=
    ⟨fun W hW => by
      have h1 := blk_below a1 hW
      exact ⟨cell_at h1 rfl, cell_at h1 rfl, cell_at h1 rfl, cell_at h1 rfl, cell_at h1 rfl⟩⟩
  have HENL := Aside0.mk henl
  clear hr hf hF hen hn a0 a1 a2 hb0 hz0 hw0 henl
  refine (callsIn_wide (n := 3)).1 (callsIn_of_wp_marks Try.func93 rfl trivial ?_ rfl)
  simp only [Try.ntmps93, List.size_toArray, List.length_cons, List.length_nil, Nat.reduceAdd, Nat.reduceSub, Array.replicate_succ, Array.replicate_zero, List.push_toArray, List.append_toArray, List.nil_append, List.cons_append]
  gi_wp2_with (first | (refine ⟨trivial, ?_⟩; gi_at_call 49; refine (callsIn_wide.2 (HN.out _)).mono ?_; rintro e W1 ⟨rfl, hb1⟩; rw [← HW0.out] at hb1; obtain ⟨u0, u1, u2, u3, u4⟩ := HG.out W1 hb1; obtain ⟨v0, v1, v2, v3, v4⟩ := HG.out (W1.alloc (.cells #[.slice none 0 0] 37)) (below_then hb1 hb1.size (below_alloc (Below.refl _ W1) _)); replace hb1 := Aside0.mk hb1) | (refine ⟨trivial, ?_⟩; gi_at_call 84; refine (callsIn_wide.2 (HPC.out _)).mono ?_; rintro e W' ⟨rfl, rfl⟩))
  obtain ⟨wA, hwA, hzA, a3, hbA⟩ := heap1 W1 (Obj.cells #[Value.slice none 0 0] 37)
  obtain ⟨w2, hw2, hz2, a4, a5, a6, a7, hb2⟩ := heap4 wA (Obj.cells #[Value.int IntKind.i64 ↑N, Value.int IntKind.i64 ↑T, Value.int IntKind.i64 ↑K, Value.int IntKind.i64 E, Value.int IntKind.i64 Rm] 48) (Obj.cells #[Value.int IntKind.i64 kind] 3) (Obj.cells #[Value.int IntKind.i64 ↑cols] 3) (Obj.cells #[Value.slice A n c] 36)
  rw [← hwA, ← hw2]
  obtain ⟨s, hs⟩ : ∃ s, s = w.heap.size := ⟨_, rfl⟩
  obtain ⟨o, ho⟩ : ∃ o, o = W1.heap.size := ⟨_, rfl⟩
  have hz1 : wA.heap.size = o + 1 := by omega
  have hb02 : Below w0.heap.size w0 w2 := hb1.out.trans ((hbA.trans (hb2.mono hbA.size)).mono hb1.out.size)
  have hbw2 : Below w.heap.size w w2 := HB0.out.trans (hb02.mono HB0.out.size)
  have b0 := blk_below HA0.out hb02
  have b2 := blk_below HA2.out hb02
  have b3 := blk_below a3 hb2
  have hos : s + 1 + 1 < o := by have := hb1.out.size; have := HZ0.out; omega
  have hgs : g < s := by have := fld_lt HF.out; omega
  have hz4 : w2.heap.size = o + 1 + 1 + 1 + 1 + 1 := by omega
  rw [hz1] at a4 a5 a6 a7
  rw [← ho] at b3 ⊢
  rw [← hs] at b0 b2 ⊢
  have HBW := Aside0.mk hbw2
  have HB02 := Aside0.mk hb02
  have HO02 : Aside0 (w0.heap.size ≤ o) := ⟨by have := hb1.out.size; omega⟩
  have HS := Aside0.mk hs
  clear hwA hw2 hzA hz2 hs ho hz1 u0 u1 u2 u3 u4 v0 v1 v2 v3 v4 hbA hb2 hb02 hbw2 a3
  refine range_fr (P := Try.prog) (gf := 120) (lb := #[.pointer (some ⟨o + 1, 0, none⟩), .pointer (some ⟨o + 1 + 1, 0, none⟩), .pointer (some ⟨o + 1 + 1 + 1, 0, none⟩), .pointer (some ⟨o + 1 + 1 + 1 + 1, 0, none⟩)]) rfl (fun _ _ => rfl) (encs := fun (j : Nat) => #[.int .i64 (j : Int), pieceV A c en j]) (Rel := fun pre j _ => j = pre.length ∧ j < cols) (S := fun j => j = o) (Full := fun xs => xs = List.range cols)
    (pieces_seq _ w2 (o + 1) (o + 1 + 1) (o + 1 + 1 + 1) (o + 1 + 1 + 1 + 1) N T K E Rm kind cols A n c en HEN.out.symm hT hK hTK (by rw [HNN.out]; exact Nat.le_refl _) hc (by omega) (by omega) a4 a5 a6 a7 (by omega) (by omega) (by omega) (by omega)) (fun _ => rfl) (fun j hj => by omega)
    (DealI (fun j => trimP (mulP fs (pieceL rnd en j))) w2 o) (dealI_abd _ _ _ (by omega)) (fun pre x W W' h _ => h) ⟨_, b3, poly_nil _ _, Fr.refl _ _⟩
    (fun j => { tmps := #[Value.pointer (some { block := g, off := 0 }), Value.agg #[Value.int IntKind.i64 ↑N, Value.int IntKind.i64 ↑T, Value.int IntKind.i64 ↑K, Value.int IntKind.i64 E, Value.int IntKind.i64 Rm], Value.int IntKind.i64 kind, Value.int IntKind.i64 ↑cols, Value.slice A n c, Value.slice X nf cf', Value.pointer (some { block := s, off := 0 }), Value.pointer (some { block := s + 1, off := 0 }), undef, undef, undef, Value.pointer (some { block := s + 1 + 1, off := 0 }), Value.slice none 0 0, Value.bool false,
          Value.pointer (some { block := o, off := 0 }), undef, pieceV A c en j, Value.slice A n c, Value.int IntKind.i64 ↑n, Value.agg #[Value.int IntKind.i64 ↑N, Value.int IntKind.i64 ↑T, Value.int IntKind.i64 ↑K, Value.int IntKind.i64 E, Value.int IntKind.i64 Rm], Value.int IntKind.i64 kind, Value.int IntKind.i64 ↑cols, Value.int IntKind.i64 ↑n, Value.bool false, Value.agg #[Value.int IntKind.i64 ↑N, Value.int IntKind.i64 ↑T, Value.int IntKind.i64 ↑K, Value.int IntKind.i64 E, Value.int IntKind.i64 Rm], Value.int IntKind.i64 kind, Value.int IntKind.i64 ↑cols, Value.slice A n c,
          Value.func (Fn.func 120) #[] #[Value.pointer (some { block := o + 1, off := 0 }), Value.pointer (some { block := o + 1 + 1, off := 0 }), Value.pointer (some { block := o + 1 + 1 + 1, off := 0 }), Value.pointer (some { block := o + 1 + 1 + 1 + 1, off := 0 })], .int .i64 (j : Int), pieceV A c en j, undef, undef, undef, undef, undef, undef, undef, undef, undef, undef, undef], defers := [] }) ?_ ?_ ?_
  · intro l pre j W K hr hK
    clear hr
    rw [zip2]
    gi_wp2
    exact hK
  · rintro l pre j W hsz ⟨v, hv, hp, hf⟩ ⟨hj, hlt⟩
    obtain ⟨Bv, dv, rfl⟩ := poly_slice hp
    rw [List.length_map, ← hj] at hv
    have hp' := hp
    rw [List.length_map, ← hj] at hp'
    have c0 : W.cell? ⟨s, 0, none⟩ = some (.pointer (some ⟨g, 0, none⟩)) := cell_at (hf.blk b0 (by omega)) rfl
    have c2 : W.cell? ⟨s + 1 + 1, 0, none⟩ = some (.slice X nf cf') := cell_at (hf.blk b2 (by omega)) rfl
    have c3 : W.cell? ⟨o, 0, none⟩ = some (.slice Bv j dv) := cell_at hv rfl
    have hbW : Below w.heap.size w W := HBW.out.trans (hf.below HBW.out.size (fun k hk => by have := HS.out; omega))
    have hjn : j * en + en ≤ n := by
      have h1 := Nat.mul_le_mul_left en (show j + 1 ≤ cols from hlt)
      rw [Nat.mul_add, Nat.mul_one] at h1
      rw [Nat.mul_comm j en, HNN.out]
      omega
    obtain ⟨q, hq⟩ : ∃ q, q = trimP (mulP fs (pieceL rnd en j)) := ⟨_, rfl⟩
    have HMU := Aside0.mk (MulP_any W.drew g X (cutA A c (j * en)) nf en cf' (c - j * en) fs (pieceL rnd en j) ((HF.out.fr (Fr.of_below hbW (fun _ => False)) (fun h => h)).fr ((Fr.refl (fun _ => False) W).drew) (fun h => h)) (Kd.C_below (Kd.C_below HX.out hbW) (below_drew (Below.refl _ W))) (piece_C (Kd.C_below (Kd.C_below HR.out hbW) (below_drew (Below.refl _ W))) hjn hc) (by omega))
    rw [← hq] at HMU
    have HPU : Aside0 (∀ D W3, RF W3 W.drew.heap.size D q → Fr (fun _ => False) W.drew W3 → W3.cell? ⟨o, 0, none⟩ = some (.slice Bv j dv) ∧ (W3.alloc (.cells #[.slice D q.length q.length] 36)).cell? ⟨o, 0, none⟩ = some (.slice Bv j dv) ∧
        ∃ B' d' W4, (Builtin.append_ #[37, 37] 37 #[.slice Bv j dv, .slice (some ⟨W3.heap.size, 0, none⟩) 1 1]).run Try.prog (W3.alloc (.cells #[.slice D q.length q.length] 36)) = .ok (.slice B' (j + 1) d') W4 ∧ W4.cell? ⟨o, 0, none⟩ = some (.slice Bv j dv) ∧ W4.frozen? ⟨o, 0, none⟩ = false ∧
          ∀ v', v' = W4.setCell ⟨o, 0, none⟩ (.slice B' (j + 1) d') → Fr (fun k => k = o ∨ w2.heap.size + 2 ≤ k) W v' ∧ DealI (fun j => trimP (mulP fs (pieceL rnd en j))) w2 o (pre ++ [j]) v') := ⟨fun D W3 hD hf3 => by
      have hfW3 : Fr (fun _ => False) W W3 := ((Fr.refl (fun _ => False) W).drew).trans' hf3
      have hv3 := hfW3.blk hv (fun h => h)
      have hvA := blk_alloc hv3 (Obj.cells #[.slice D q.length q.length] 36)
      have hp3 := poly_fr hp' hfW3 (no_none _ _)
      have hWs : w2.heap.size + 2 ≤ W3.heap.size := Nat.le_trans hsz hfW3.size
      obtain ⟨B', d', W4, hrun, hp4, hf4⟩ := poly_push W3 (w2.heap.size + 2) (.slice Bv j dv) _ hp3 hWs D q (RF_lower hD hsz) j (by rw [List.length_map, hj]) (by omega)
      have hv4 := hf4.blk hv3 (fun h => by omega)
      refine ⟨cell_at hv3 rfl, cell_at hvA rfl, B', d', W4, hrun, cell_at hv4 rfl, frozen_at hv4, ?_⟩
      rintro v' rfl
      have hf5 : Fr (fun k => k = o) W4 (W4.setCell ⟨o, 0, none⟩ (.slice B' (j + 1) d')) := (Fr.refl (fun k => k = o) W4).set_ (p := ⟨o, 0, none⟩) (.inl rfl) _
      have hfa : Fr (fun k => k = o ∨ w2.heap.size + 2 ≤ k) W (W4.setCell ⟨o, 0, none⟩ (.slice B' (j + 1) d')) := ((hfW3.mono (fun _ h => h.elim)).trans' (hf4.mono (fun k hk => .inr hk.1))).trans' (hf5.mono (fun k hk => .inl hk))
      refine ⟨hfa, _, blk_set hv4 0 _, ?_, hf.trans hfa (fun k hk => by omega)⟩
      rw [List.map_append, List.map_singleton, ← hq]
      refine poly_fr hp4 hf5 ?_
      rintro k _ rfl cells t hc
      rw [hv4] at hc
      injection hc with hc
      injection hc with _ hc
      rw [← hc]
      decide⟩
    have HJ := Aside0.mk hj
    have HB0' := Aside0.mk b0
    clear hj hq hv hp hp' hf hbW hjn b0 b2 b3 a4 a5 a6 a7 hsz
    unfold pieceV
    have mixed : Try.prog.follows .mixedOrders = true := by kernel_rfl
    gi_wp2
    refine region_inRound l mixed rfl (by kernel_rfl) ?_
    repeat' (first
      | exact AllReadyIn.nil
      | refine wpAnyIn_done (by decide +kernel) ?_ _
      | (refine wpAnyIn_take (i := 3) (v := ?_) rfl rfl (by kernel_rfl) (by decide +kernel) (by decide +kernel) (fun _ _ _ h => h) ⟨Or.inl ⟨by rfl, ?_⟩, fun _ => rfl⟩ ?_; rotate_left 1; focus (intro w; go_simp; (try with_reducible rfl); done))
      | refine wpAnyIn_ready (rs := [0, 1, 2]) (by decide +kernel) (by simp) ?_
      | refine wpAnyIn_ready (rs := [0, 1]) (by decide +kernel) (by simp) ?_
      | refine wpAnyIn_ready (rs := [0, 2]) (by decide +kernel) (by simp) ?_
      | refine wpAnyIn_ready (rs := [1, 2]) (by decide +kernel) (by simp) ?_
      | refine wpAnyIn_ready (rs := [0]) (by decide +kernel) (by simp) ?_
      | refine wpAnyIn_ready (rs := [1]) (by decide +kernel) (by simp) ?_
      | refine wpAnyIn_ready (rs := [2]) (by decide +kernel) (by simp) ?_
      | refine wpAnyIn_ready (rs := [0, 4]) (by decide +kernel) (by simp) ?_
      | refine wpAnyIn_ready (rs := [4]) (by decide +kernel) (by simp) ?_
      | refine wpAnyIn_ready (rs := [0, 5]) (by decide +kernel) (by simp) ?_
      | refine wpAnyIn_ready (rs := [5]) (by decide +kernel) (by simp) ?_
      | refine wpAnyIn_ready (rs := [6]) (by decide +kernel) (by simp) ?_
      | refine wpAnyIn_ready (rs := [7]) (by decide +kernel) (by simp) ?_
      | refine AllReadyIn.cons rfl (fun K hK => ?_) ?_
      | (rw [if_pos (by rfl)]; go_simp; refine ⟨trivial, ?_⟩; gi_at_call 87; refine (callsIn_wide.2 HMU.out).mono ?_; rintro e W3 ⟨D, rfl, hD, hf3⟩; obtain ⟨q0, q1, B', d', W4, hrun, q6, q7, hfin⟩ := HPU.out D W3 hD hf3; replace hrun := Aside0.mk hrun; replace hfin := Aside0.mk hfin; clear hD hf3; go_simp; refine hK _ _ ?_; clear hK K)
      | (rw [if_pos (by rfl)]; refine operIn_append _ _ _ _ rfl rfl rfl hrun.out ?_; refine hK _ _ ?_; clear hK K)
      | (go_simp; refine hK _ _ ?_; clear hK K))
    all_goals (gi_wp2; exact hfin.out _ rfl)
  · rintro zs W hzs ⟨v, hv, hp, hf⟩ hKD
    subst hzs
    obtain ⟨Bv, dv, rfl⟩ := poly_slice hp
    have hdl : ((List.range cols).map fun j => trimP (mulP fs (pieceL rnd en j))) = dealtL cols en fs rnd := rfl
    rw [hdl] at hv hp
    have hdn : (dealtL cols en fs rnd).length = cols := by simp [dealtL]
    have hql : ∀ q ∈ dealtL cols en fs rnd, q.length ≤ 1099511627776 := fun q hq => by
      obtain ⟨j, _, rfl⟩ := List.mem_map.1 hq
      have h1 := Kd.C_len HX.out
      have h2 : (trimP (mulP fs (pieceL rnd en j))).length ≤ nf + en := trim_le (fun i hi => cf_mul_ge fs (pieceL rnd en j) (nf + 1) en (fun k hk => cf_ge _ _ (by omega)) (fun k hk => cf_ge _ _ (by simp [pieceL]; omega)) i (by omega) (by omega))
      have h3 := HENL.out
      omega
    obtain ⟨qs, hqs⟩ : ∃ qs, qs = dealtL cols en fs rnd := ⟨_, rfl⟩
    rw [← hqs] at hv hp hdn hql
    have HQS := Aside0.mk hqs
    clear hqs hdl
    rw [hdn] at hv hp
    have c0 : W.cell? ⟨s, 0, none⟩ = some (.pointer (some ⟨g, 0, none⟩)) := cell_at (hf.blk b0 (by omega)) rfl
    have c3 : W.cell? ⟨o, 0, none⟩ = some (.slice Bv cols dv) := cell_at hv rfl
    have hbW : Below w.heap.size w W := HBW.out.trans (hf.below HBW.out.size (fun k hk => by have := HS.out; omega))
    obtain ⟨u0, u1, u2, u3, u4⟩ := HG.out W (HB02.out.trans (hf.below HB02.out.size (fun k hk => by have := HO02.out; omega)))
    have hsw := HS.out
    rw [← hsw] at u0 u1 u2 u3 u4
    have HSH := Aside0.mk (shares_any W g N T K E Rm Bv cols dv qs (HF.out.fr (Fr.of_below hbW (fun _ => False)) (fun h => h)) (poly_PL hp) hN hcl hql)
    unfold parV at HSH
    obtain ⟨Dd, hDd⟩ : ∃ D, D = w2.heap.size := ⟨_, rfl⟩
    rw [← hDd] at hKD ⊢
    have HKD := Aside0.mk hKD
    have HBWW := Aside0.mk hbW
    have HDD : Aside0 (Dd < W.heap.size ∧ w.heap.size ≤ Dd) := ⟨by have := blk_lt hKD; have := HBW.out.size; omega⟩
    clear hsw hDd hKD hp hv hf hbW b0 b2 b3 a4 a5 a6 a7 hql hdn hz4
    gi_wp2_with (refine ⟨trivial, ?_⟩; gi_at_call 88; refine (callsIn_wide.2 HSH.out).mono ?_; rintro e W3 ⟨b, rfl, hb, hrows, hf3⟩; replace hrows := Aside0.mk hrows; replace hf3 := Aside0.mk hf3; replace hb := Aside0.mk hb)
    refine ⟨by simp, .inl ⟨_, _, rfl, run_takeDeferred (hf3.out.blk HKD.out (fun h => h)), ?_⟩⟩
    have hpf := fr_shut W3 Dd (.deferred none)
    refine ⟨_, results_tmp2 rfl _ _ _, b, rfl, ?_, ?_, ?_⟩
    · have := HBWW.out.size; have := hb.out; omega
    · rw [← HQS.out]
      exact rows_lower (rows_frS hrows.out hpf (fun k hk => by have := HDD.out; have := hb.out; omega)) HBWW.out.size
    · exact ((Fr.of_below HBWW.out _).trans' hf3.out).trans hpf (fun k hk => .inr (by have := HDD.out; omega))
end Go.Proofs.Ytpeiejkcoadhfaa
/- What Share deals: plain. -/
namespace Go.Proofs.Ytpeiejkcoadhfaa
open Go.RowKit Go.Shelf Go.Proofs.YtpeiejkcoadhfaaW.PrintWords Go.Proofs.YtpeiejkcoadhfaaW.PrintMore

/-- A document's column. -/
def colF (xs : List F) (k j : Nat) : List F := (xs.drop (j * k)).take k ++ List.replicate (k - ((xs.drop (j * k)).take k).length) 0
theorem colF_bs (xs : List F) (k j : Nat) : colOf (bs xs) k j = bs (colF xs k j) := by
  unfold colOf colF bs
  rw [List.map_append, List.map_replicate, List.map_take, List.map_drop]
  congr 1
  simp [F.zero_v]
theorem colF_length (xs : List F) (k j : Nat) : (colF xs k j).length = k := by
  have := colOf_length (bs xs) k j
  rw [colF_bs, bs_length] at this
  exact this
open Classical in
/-- THE polynomial through points. -/
noncomputable def thruP (xs ys : List F) : List F := if h : ∃ s, Thru xs ys s then Classical.choose h else []
theorem thruP_eq {xs ys s : List F} (hu : Unl xs) (h : Thru xs ys s) : thruP xs ys = s := by
  have he : ∃ s, Thru xs ys s := ⟨s, h⟩
  unfold thruP
  rw [dif_pos he]
  exact thru_unique hu (Classical.choose_spec he) h
theorem ptF_inj {a b : Nat} (ha : a < 255) (hb : b < 255) (h : ptF a = ptF b) : a = b := by
  have h1 : (a % 256 + 1) % 256 = (b % 256 + 1) % 256 := congrArg F.v h
  omega
theorem unl_map {N : Nat} (f : Nat → F) (h : ∀ i j, i < N → j < N → f i = f j → i = j) : Unl ((List.range N).map f) := by
  unfold Unl
  rw [List.nodup_iff_pairwise_ne, List.pairwise_map]
  refine List.Pairwise.imp_of_mem ?_ (List.nodup_iff_pairwise_ne.1 List.nodup_range)
  intro a b ha hb hne e
  exact hne (h a b (List.mem_range.1 ha) (List.mem_range.1 hb) e)
theorem secL_unl (N K : Nat) (h : N + K ≤ 255) : Unl (secL N K) := unl_map _ (fun i j hi hj e => by have := ptF_inj (by omega) (by omega) e; omega)
/-- A document's polynomials. -/
noncomputable def polysL (N T K : Nat) (data rnd : List F) : List (List F) := (List.range (ncol data.length K)).map fun j => trimP (addP (thruP (secL N K) (colF data K j)) (trimP (mulP (roots (secL N K)) (pieceL rnd T j))))
theorem thruP_len (xs ys : List F) : (thruP xs ys).length ≤ xs.length := by
  unfold thruP
  split
  · rename_i h
    exact (Classical.choose_spec h).2.1
  · simp
theorem polysL_len (N T K : Nat) (data rnd : List F) : ∀ q ∈ polysL N T K data rnd, q.length ≤ K + 1 + T := fun q hq => by
  obtain ⟨j, _, rfl⟩ := List.mem_map.1 hq
  have hrl := roots_length (secL N K)
  rw [secL_length] at hrl
  have ht := thruP_len (secL N K) (colF data K j)
  rw [secL_length] at ht
  have h2 : (trimP (mulP (roots (secL N K)) (pieceL rnd T j))).length ≤ K + 1 + T := trim_le (fun i hi => cf_mul_ge _ _ (K + 1) T (fun k hk => cf_ge _ _ (by omega)) (fun k hk => cf_ge _ _ (by simp [pieceL]; omega)) i (by omega) (by omega))
  exact trim_le (fun i hi => by rw [cf_add, cf_ge _ i (by omega), cf_ge _ i (by omega), F.add_zero])
theorem polysL_length (N T K : Nat) (data rnd : List F) : (polysL N T K data rnd).length = ncol data.length K := by simp [polysL]
end Go.Proofs.Ytpeiejkcoadhfaa
/- deal.Share. -/
namespace Go.Proofs.Ytpeiejkcoadhfaa
open Go.RowKit Go.Shelf Go.Proofs.YtpeiejkcoadhfaaW.PrintWords Go.Proofs.YtpeiejkcoadhfaaW.PrintMore
open Go.BigFrame
attribute [local go_sem] Oper.semAt_some

set_option maxRecDepth 100000 in
set_option maxHeartbeats 1600000 in
theorem share_no (w : World) (g N T K : Nat) (E Rm : Int) (A R : Option Addr) (n c m mc : Nat) (data : List F) (hd : Kd.C fk w A n data) (hc : n ≤ c) (hn : n ≤ 1000000) (hT : T ≤ 1000) (hK : K ≤ 255) (hK1 : 1 ≤ K) (hne : m ≠ T * ncol n K) :
    Calls Try.prog 51 #[.pointer (some ⟨g, 0, none⟩), parV N T K E Rm, .slice A n c, .slice R m mc] w fun e w' => e = .returned (.tuple #[.slice none 0 0, .bool false]) ∧ Fr (fun _ => False) w w' := by
  have hnl := ncol_le n K hK1
  have HN := Aside0.mk (fun W => Need_any W N T K E Rm 1 (ncol n K) hT (by omega) (by omega) (by omega))
  have HSP := Aside0.mk (fun W (h : Kd.C fk W A n data) => Split_any W A n c K (bs data) (C_bs.2 h) hc hK1 hK (by omega))
  have he1 : eachN T K 1 = T := by simp [eachN]
  rw [he1] at HN
  generalize ncol n K = nc at *
  obtain ⟨q, hq⟩ : ∃ q, q = T * nc := ⟨_, rfl⟩
  rw [← hq] at HN hne
  have hnb : ((m : Int) != (q : Int)) = true := by simp; omega
  have HD := Aside0.mk hd
  clear hd hq he1
  have hu48 := Try.underlying48
  unfold parV at *
  obtain ⟨w0, hw0, hz0, a0, a1, hb0⟩ := heap2 w (Obj.cells #[Value.pointer (some { block := g, off := 0 })] 23) (Obj.cells #[Value.int IntKind.i64 ↑N, Value.int IntKind.i64 ↑T, Value.int IntKind.i64 ↑K, Value.int IntKind.i64 E, Value.int IntKind.i64 Rm] 48)
  have HB0 := Aside0.mk hb0
  have HZ0 := Aside0.mk hz0
  have HW0 := Aside0.mk hw0
  have HA0 := Aside0.mk a0
  have HG : Aside0 (∀ W, Below w0.heap.size w0 W → W.cell? ⟨w.heap.size + 1, 0, none⟩ = some (.int .i64 N) ∧ W.cell? ⟨w.heap.size + 1, 1, none⟩ = some (.int .i64 T) ∧ W.cell? ⟨w.heap.size + 1, 2, none⟩ = some (.int .i64 K) ∧ W.cell? ⟨w.heap.size + 1, 3, none⟩ = some (.int .i64 E) ∧ W.cell? ⟨w.heap.size + 1, 4, none⟩ = some (.int .i64 Rm)) :=
    ⟨fun W hW => by
      have h1 := blk_below a1 hW
      exact ⟨cell_at h1 rfl, cell_at h1 rfl, cell_at h1 rfl, cell_at h1 rfl, cell_at h1 rfl⟩⟩
  clear hw0 hz0 a0 a1 hb0
  go_enter Try.func51, Try.ntmps51
  go_wp2_with (first | (go_at_call 37; refine (HSP.out _ ?_).mono ?_; (exact Kd.C_below HD.out (below_alloc (below_alloc (Below.refl _ _) _) _)); rintro e W1 ⟨B, d, rfl, hS, hf1⟩; rw [← HW0.out] at hf1; clear hS; obtain ⟨v0, v1, v2, v3, v4⟩ := HG.out (W1.alloc (.cells #[.slice B nc d] 37)) (below_then (hf1.below (Nat.le_refl _) (fun _ h => h.elim)) hf1.size (below_alloc (Below.refl _ W1) _)); replace hf1 := Aside0.mk hf1) | (go_at_call 49; refine (HN.out _).mono ?_; rintro e W2 ⟨rfl, hb1⟩; replace hb1 := Aside0.mk hb1))
  go_ret2
  exact ⟨rfl, ((((Fr.of_below HB0.out _).trans' hf1.out).alloc _)).below_ hb1.out⟩

set_option maxRecDepth 100000 in
set_option maxHeartbeats 40000000 in
theorem share_yes (w : World) (g N T K : Nat) (E Rm : Int) (A R : Option Addr) (n c m mc : Nat) (data rnd : List F) (hF : Fld w g) (hd : Kd.C fk w A n data) (hr : Kd.C fk w R m rnd) (hc : n ≤ c) (hmc : m ≤ mc) (hn : n ≤ 100000) (hN : N ≤ 1000) (hT : T ≤ 1000) (hK : K ≤ 255) (hK1 : 1 ≤ K) (hNK : N + K ≤ 255) (hm : m = T * ncol n K) :
    Calls Try.prog 51 #[.pointer (some ⟨g, 0, none⟩), parV N T K E Rm, .slice A n c, .slice R m mc] w fun e w' => ∃ b, e = .returned (.tuple #[.slice (some ⟨b, 0, none⟩) N N, .bool true]) ∧ w.heap.size ≤ b ∧ RowsO w' w.heap.size (fun _ => True) b N (sharesL N (polysL N T K data rnd)) ∧ Fr (fun _ => False) w w' := by
  have hnl := ncol_le n K hK1
  have HDL := Aside0.mk (Kd.C_len hd)
  have HNC := Aside0.mk (Need_any · N T K E Rm 1 (ncol n K) hT (by omega) (by omega) (by omega))
  have HSP := Aside0.mk (fun W (h : Kd.C fk W A n data) => Split_any W A n c K (bs data) (C_bs.2 h) hc hK1 hK (by omega))
  have HSE := Aside0.mk (fun W => Secrets_any W N K T E Rm hN (by omega))
  have he1 : eachN T K 1 = T := by simp [eachN]
  rw [he1] at HNC
  obtain ⟨nc, hnc⟩ : ∃ nc, nc = ncol n K := ⟨_, rfl⟩
  rw [← hnc] at HNC HSP hm hnl
  rw [← hm] at HNC
  have hnb : ((m : Int) != (m : Int)) = false := by simp
  have HPC := Aside0.mk (fun W => pieces_any W N T K E Rm 1 nc R m mc)
  have HD := Aside0.mk hd
  have HR := Aside0.mk hr
  have HF := Aside0.mk hF
  have HNCC := Aside0.mk hnc
  have HM := Aside0.mk hm
  have HE1 := Aside0.mk he1
  clear hd hr hF hnc hm he1
  have hu48 := Try.underlying48
  unfold parV at *
  obtain ⟨w0, hw0, hz0, a0, a1, hb0⟩ := heap2 w (Obj.cells #[Value.pointer (some { block := g, off := 0 })] 23) (Obj.cells #[Value.int IntKind.i64 ↑N, Value.int IntKind.i64 ↑T, Value.int IntKind.i64 ↑K, Value.int IntKind.i64 E, Value.int IntKind.i64 Rm] 48)
  have HB0 := Aside0.mk hb0
  have HZ0 := Aside0.mk hz0
  have HW0 := Aside0.mk hw0
  have HA0 := Aside0.mk a0
  have HG : Aside0 (∀ W, Below w0.heap.size w0 W → W.cell? ⟨w.heap.size + 1, 0, none⟩ = some (.int .i64 N) ∧ W.cell? ⟨w.heap.size + 1, 1, none⟩ = some (.int .i64 T) ∧ W.cell? ⟨w.heap.size + 1, 2, none⟩ = some (.int .i64 K) ∧ W.cell? ⟨w.heap.size + 1, 3, none⟩ = some (.int .i64 E) ∧ W.cell? ⟨w.heap.size + 1, 4, none⟩ = some (.int .i64 Rm) ∧ W.cell? ⟨w.heap.size, 0, none⟩ = some (.pointer (some ⟨g, 0, none⟩))) :=
    ⟨fun W hW => by
      have h1 := blk_below a1 hW
      exact ⟨cell_at h1 rfl, cell_at h1 rfl, cell_at h1 rfl, cell_at h1 rfl, cell_at h1 rfl, cell_at (blk_below HA0.out hW) rfl⟩⟩
  clear hw0 hz0 a0 a1 hb0
  refine (callsIn_wide (n := 3)).1 (callsIn_of_wp_marks Try.func51 rfl trivial ?_ rfl)
  simp only [Try.ntmps51, List.size_toArray, List.length_cons, List.length_nil, Nat.reduceAdd, Nat.reduceSub, Array.replicate_succ, Array.replicate_zero, List.push_toArray, List.append_toArray, List.nil_append, List.cons_append]
  gi_wp2_with (refine ⟨trivial, ?_⟩; first
    | (gi_at_call 37; refine (callsIn_wide.2 (HSP.out _ ?_)).mono ?_; (exact Kd.C_below HD.out (below_alloc (below_alloc (Below.refl _ _) _) _)); rintro e W1 ⟨B, d, rfl, hS, hf1⟩; rw [← HW0.out] at hf1 hS; have HB1 := Aside0.mk (hf1.below (Nat.le_refl _) (fun _ h => h.elim)); have HS1 := Aside0.mk hS; clear hS hf1; have HB1A := Aside0.mk (below_then HB1.out HB1.out.size (below_alloc (Below.refl _ W1) (.cells #[.slice B nc d] 37))); obtain ⟨v0, v1, v2, v3, v4, v5⟩ := HG.out _ HB1A.out; have HCOL : Aside0 (∀ W, Below (W1.alloc (.cells #[.slice B nc d] 37)).heap.size (W1.alloc (.cells #[.slice B nc d] 37)) W → W.heap[W1.heap.size]? = some (.cells #[.slice B nc d] 37 (0, 0))) := ⟨fun W hW => blk_below (blk_new _ _) hW⟩)
    | (gi_at_call 49; refine (callsIn_wide.2 (HNC.out _)).mono ?_; rintro e W2 ⟨rfl, hb2⟩; have HB12 := Aside0.mk hb2; have HB2 := Aside0.mk (HB1A.out.trans (hb2.mono HB1A.out.size)); clear hb2; obtain ⟨u0, u1, u2, u3, u4, u5⟩ := HG.out _ HB2.out)
    | (gi_at_call 47; refine (callsIn_wide.2 (HSE.out _)).mono ?_; rintro e W3 ⟨X, dX, rfl, hX, hb3⟩; have HX := Aside0.mk hX; have HB23 := Aside0.mk hb3; have HB3 := Aside0.mk (HB2.out.trans (hb3.mono HB2.out.size)); clear hX hb3; have HB3A := Aside0.mk (below_then HB3.out HB3.out.size (below_alloc (Below.refl _ W3) (.cells #[.slice X K dX] 36))); obtain ⟨t0, t1, t2, t3, t4, t5⟩ := HG.out _ HB3A.out)
    | (gi_at_call 83; refine (callsIn_wide.2 (Roots_any _ g X K dX (secL N K) ?_ ?_ ?_)).mono ?_; (exact (HF.out.fr (Fr.of_below (HB0.out.trans (HB3A.out.mono HB0.out.size)) (fun _ => False)) (fun h => h))); (exact Kd.C_below (R_C HX.out) (below_alloc (Below.refl _ _) _)); omega; rintro e W4 ⟨Z, rfl, hZ, hf4⟩; have HZ := Aside0.mk hZ; have hb4 := hf4.below (Nat.le_refl _) (fun _ h => h.elim); have HB34 := Aside0.mk hb4; have HB4 := Aside0.mk (HB3A.out.trans (hb4.mono HB3A.out.size)); clear hZ hf4 hb4; have HB4A := Aside0.mk (below_then HB4.out HB4.out.size (below_alloc (below_alloc (Below.refl _ W4) (.cells #[.slice Z (K + 1) (K + 1)] 36)) (.cells #[.slice none 0 0] 37))); obtain ⟨s0, s1, s2, s3, s4, s5⟩ := HG.out _ HB4A.out; have HB34X := Aside0.mk (below_then (below_alloc (Below.refl _ W3) (.cells #[.slice X K dX] 36)) (by simp) HB34.out); have HB24 := Aside0.mk (below_then (below_then HB23.out HB23.out.size (below_alloc (Below.refl _ W3) (.cells #[.slice X K dX] 36))) (by have := HB23.out.size; simp; omega) HB34.out); have HB14 := Aside0.mk (HB12.out.trans (HB24.out.mono HB12.out.size)); have HB14A := Aside0.mk (below_then HB14.out HB14.out.size (below_alloc (below_alloc (Below.refl _ W4) (.cells #[.slice Z (K + 1) (K + 1)] 36)) (.cells #[.slice none 0 0] 37))); have s6 := cell_at (HCOL.out _ HB14A.out) (j := 0) rfl)
    | (gi_at_call 84; refine (callsIn_wide.2 (HPC.out _)).mono ?_; rintro e W' ⟨rfl, rfl⟩))
  obtain ⟨wB, hwB, hzB, a3, a4, hbB⟩ := heap2 W4 (Obj.cells #[Value.slice Z (K + 1) (K + 1)] 36) (Obj.cells #[Value.slice none 0 0] 37)
  obtain ⟨w2, hw2, hz2, a5, a6, a7, a8, hb2⟩ := heap4 wB (Obj.cells #[Value.int IntKind.i64 ↑N, Value.int IntKind.i64 ↑T, Value.int IntKind.i64 ↑K, Value.int IntKind.i64 E, Value.int IntKind.i64 Rm] 48) (Obj.cells #[Value.int IntKind.i64 1] 3) (Obj.cells #[Value.int IntKind.i64 ↑nc] 3) (Obj.cells #[Value.slice R m mc] 36)
  rw [← hwB, ← hw2]
  have hB42 : Below W4.heap.size W4 w2 := hbB.trans (hb2.mono hbB.size)
  have b0 := blk_below (blk_below HA0.out HB4.out) hB42
  have b1 := blk_below (HCOL.out _ HB14.out) hB42
  have b2 := blk_below (blk_below (blk_new W3 (.cells #[.slice X K dX] 36)) HB34.out) hB42
  have b3 := blk_below a3 hb2
  have b4 := blk_below a4 hb2
  have hrl := roots_length (secL N K)
  rw [secL_length] at hrl
  have HX4 := Aside0.mk (Kd.C_below (R_C HX.out) HB34X.out)
  have hZ4 := HZ.out.1
  rw [hrl] at hZ4
  have HZ4 := Aside0.mk hZ4
  have hC1 : Kd.C u8s W1 B nc (splitL (bs data) K) := by
    have h := Kd.S_reads' HS1.out
    have h2 := h.2.2
    rwa [← h.1] at h2
  have HC4 := Aside0.mk (Kd.C_below hC1 (below_then (below_alloc (Below.refl _ W1) (.cells #[.slice B nc d] 37)) (by simp) HB14.out))
  have HBW4 := Aside0.mk (HB0.out.trans (HB4.out.mono HB0.out.size))
  obtain ⟨s, hs⟩ : ∃ s, s = w.heap.size := ⟨_, rfl⟩
  obtain ⟨o1, ho1⟩ : ∃ o, o = W1.heap.size := ⟨_, rfl⟩
  obtain ⟨o2, ho2⟩ : ∃ o, o = W3.heap.size := ⟨_, rfl⟩
  obtain ⟨o3, ho3⟩ : ∃ o, o = W4.heap.size := ⟨_, rfl⟩
  have hz0 := HZ0.out
  have hl1 := HB1.out.size
  have hl2 := HB12.out.size
  have hl3 := HB23.out.size
  have hl4 := HB34.out.size
  simp only [World.size_alloc] at hl2 hl4
  have hz4 : w2.heap.size = o3 + 1 + 1 + 1 + 1 + 1 + 1 := by omega
  have hord : s + 1 < o1 ∧ o1 < o2 ∧ o2 < o3 := by omega
  have hzB' : wB.heap.size = o3 + 1 + 1 := by omega
  rw [hzB'] at a5 a6 a7 a8
  rw [← hs] at b0 ⊢
  rw [← ho1] at b1 ⊢
  rw [← ho2] at b2 ⊢
  rw [← ho3] at b3 b4 ⊢
  have HS := Aside0.mk hs
  have HO3 := Aside0.mk (And.intro ho3 hB42)
  clear hs ho1 ho2 ho3 hz0 hl1 hl2 hl3 hl4 hzB' hwB hw2 hzB hz2 hB42 hbB hb2 a3 a4 hrl hZ4 v0 v1 v2 v3 v4 v5 u0 u1 u2 u3 u4 u5 t0 t1 t2 t3 t4 t5 s0 s1 s2 s3 s4 s5 s6
  obtain ⟨f, hfq⟩ : ∃ f, f = fun j => trimP (addP (thruP (secL N K) (colF data K j)) (trimP (mulP (roots (secL N K)) (pieceL rnd T j)))) := ⟨_, rfl⟩
  have HFQ : Aside0 (∀ j, f j = trimP (addP (thruP (secL N K) (colF data K j)) (trimP (mulP (roots (secL N K)) (pieceL rnd T j))))) := ⟨fun j => by rw [hfq]⟩
  have HPQ : Aside0 ((List.range nc).map f = polysL N T K data rnd) := ⟨by rw [hfq]; unfold polysL; rw [HDL.out, ← HNCC.out]⟩
  clear hfq
  refine range_fr (P := Try.prog) (gf := 120) (lb := #[.pointer (some ⟨o3 + 1 + 1, 0, none⟩), .pointer (some ⟨o3 + 1 + 1 + 1, 0, none⟩), .pointer (some ⟨o3 + 1 + 1 + 1 + 1, 0, none⟩), .pointer (some ⟨o3 + 1 + 1 + 1 + 1 + 1, 0, none⟩)]) rfl (fun _ _ => rfl) (encs := fun (j : Nat) => #[.int .i64 (j : Int), pieceV R mc T j]) (Rel := fun pre j _ => j = pre.length ∧ j < nc) (S := fun j => j = o3 + 1) (Full := fun xs => xs = List.range nc)
    (pieces_seq _ w2 (o3 + 1 + 1) (o3 + 1 + 1 + 1) (o3 + 1 + 1 + 1 + 1) (o3 + 1 + 1 + 1 + 1 + 1) N T K E Rm 1 nc R m mc T HE1.out hT (by omega) (by omega) (by rw [HM.out]; exact Nat.le_refl _) hmc (by rw [HM.out]; have := Nat.mul_le_mul hT (Nat.le_trans hnl hn); omega) (by omega) a5 a6 a7 a8 (by omega) (by omega) (by omega) (by omega)) (fun _ => rfl) (fun j hj => by omega)
    (DealI f w2 (o3 + 1)) (dealI_abd _ _ _ (by omega)) (fun pre x W W' h _ => h) ⟨_, b4, poly_nil _ _, Fr.refl _ _⟩
    (fun j => { tmps := #[Value.pointer (some { block := g, off := 0 }), Value.agg #[Value.int IntKind.i64 ↑N, Value.int IntKind.i64 ↑T, Value.int IntKind.i64 ↑K, Value.int IntKind.i64 E, Value.int IntKind.i64 Rm], Value.slice A n c, Value.slice R m mc, Value.pointer (some { block := s, off := 0 }), Value.pointer (some { block := s + 1, off := 0 }), undef, undef, Value.slice none 0 0, Value.bool false, Value.pointer (some { block := o1, off := 0 }), Value.pointer (some { block := o2, off := 0 }), Value.pointer (some { block := o3, off := 0 }), Value.pointer (some { block := o3 + 1, off := 0 }), .int .i64 (j : Int), pieceV R mc T j, undef, undef,
          Value.slice A n c, Value.pointer (some { block := s + 1, off := 2 }), Value.int IntKind.i64 ↑K, Value.slice B nc d, Value.slice R m mc, Value.int IntKind.i64 ↑m, Value.agg #[Value.int IntKind.i64 ↑N, Value.int IntKind.i64 ↑T, Value.int IntKind.i64 ↑K, Value.int IntKind.i64 E, Value.int IntKind.i64 Rm], Value.slice B nc d, Value.int IntKind.i64 ↑nc, Value.int IntKind.i64 ↑m, Value.bool false, Value.agg #[Value.int IntKind.i64 ↑N, Value.int IntKind.i64 ↑T, Value.int IntKind.i64 ↑K, Value.int IntKind.i64 E, Value.int IntKind.i64 Rm],
          Value.slice X K dX, Value.pointer (some { block := g, off := 0 }), Value.slice X K dX, Value.slice Z (K + 1) (K + 1), Value.agg #[Value.int IntKind.i64 ↑N, Value.int IntKind.i64 ↑T, Value.int IntKind.i64 ↑K, Value.int IntKind.i64 E, Value.int IntKind.i64 Rm], Value.slice B nc d, Value.int IntKind.i64 ↑nc, Value.slice R m mc,
          Value.func (Fn.func 120) #[] #[Value.pointer (some { block := o3 + 1 + 1, off := 0 }), Value.pointer (some { block := o3 + 1 + 1 + 1, off := 0 }), Value.pointer (some { block := o3 + 1 + 1 + 1 + 1, off := 0 }), Value.pointer (some { block := o3 + 1 + 1 + 1 + 1 + 1, off := 0 })], .int .i64 (j : Int), pieceV R mc T j, undef, undef, undef, undef, undef, undef, undef, undef, undef, undef, undef, undef, undef, undef, undef, undef, undef, undef, undef, undef, undef, undef, undef], defers := [] }) ?_ ?_ ?_
  · intro l pre j W K hr hK
    clear hr
    rw [zip2]
    gi_wp2
    exact hK
  · rintro l pre j W hsz ⟨v, hv, hp, hf⟩ ⟨hj, hlt⟩
    obtain ⟨Bv, dv, rfl⟩ := poly_slice hp
    rw [List.length_map, ← hj] at hv
    have hp' := hp
    rw [List.length_map, ← hj] at hp'
    have hb4 : Below W4.heap.size W4 W := HO3.out.2.trans (hf.below HO3.out.2.size (fun k hk => by have := HO3.out.1; omega))
    have hF4 : Fld W g := (HF.out.fr (Fr.of_below HBW4.out (fun _ => False)) (fun h => h)).fr (Fr.of_below hb4 (fun _ => False)) (fun h => h)
    obtain ⟨ad, A0, c0, hBe, hcol, hcc, hCol⟩ := row_at (Kd.C_below HC4.out hb4) j hlt
    subst hBe
    have hrow : (splitL (bs data) K).getD j [] = bs (colF data K j) := by
      rw [List.getD_eq_getElem?_getD, splitL_get _ _ _ (by rw [bs_length, HDL.out, ← HNCC.out]; exact hlt)]
      exact colF_bs data K j
    rw [hrow, bs_length, colF_length] at hcol hcc hCol
    have hCf := C_bs.1 hCol
    have c0' : W.cell? ⟨s, 0, none⟩ = some (.pointer (some ⟨g, 0, none⟩)) := cell_at (hf.blk b0 (by omega)) rfl
    have c1 : W.cell? ⟨o1, 0, none⟩ = some (.slice (some ad) nc d) := cell_at (hf.blk b1 (by omega)) rfl
    have c2 : W.cell? ⟨o2, 0, none⟩ = some (.slice X K dX) := cell_at (hf.blk b2 (by omega)) rfl
    have c3 : W.cell? ⟨o3, 0, none⟩ = some (.slice Z (K + 1) (K + 1)) := cell_at (hf.blk b3 (by omega)) rfl
    have hb0 : Below W.heap.size W W.drew := below_drew (Below.refl _ W)
    have HTH := Aside0.mk (Through_any W.drew g X A0 K dX c0 (secL N K) (colF data K j) (hF4.fr ((Fr.refl (fun _ => False) W).drew) (fun h => h)) (Kd.C_below (Kd.C_below HX4.out hb4) hb0) (Kd.C_below hCf hb0) (by omega) (secL_unl N K hNK))
    have mixed : Try.prog.follows .mixedOrders = true := by kernel_rfl
    have hjI : (j : Int) < (nc : Int) := by omega
    have HV := Aside0.mk hv
    have HP := Aside0.mk hp'
    have HFr := Aside0.mk hf
    have HJ := Aside0.mk hj
    have HB4W := Aside0.mk hb4
    have HF4 := Aside0.mk hF4
    have HSZ := Aside0.mk hsz
    have HRR := Aside0.mk hrow
    clear hv hp hp' hf hj hb4 hF4 hsz hrow hCol hCf hb0 b0 b1 b2 b3 b4 a5 a6 a7 a8
    gi_wp2
    unfold pieceV
    rename_i Q1 K1 h1
    have tail : ∀ (D : Option Addr) (sm : List F) (V : World), Thru (secL N K) (colF data K j) sm → RF V W.drew.heap.size D sm → Fr (fun _ => False) W.drew V → K1 { tmps := #[Value.pointer (some { block := g, off := 0 }), Value.agg #[Value.int IntKind.i64 ↑N, Value.int IntKind.i64 ↑T, Value.int IntKind.i64 ↑K, Value.int IntKind.i64 E, Value.int IntKind.i64 Rm], Value.slice A n c, Value.slice R m mc, Value.pointer (some { block := s, off := 0 }), Value.pointer (some { block := s + 1, off := 0 }), undef, undef, Value.slice none 0 0, Value.bool false, Value.pointer (some { block := o1, off := 0 }), Value.pointer (some { block := o2, off := 0 }), Value.pointer (some { block := o3, off := 0 }), Value.pointer (some { block := o3 + 1, off := 0 }), .int .i64 (j : Int), .slice (cutA R mc (j * T)) T (mc - j * T), .slice D sm.length sm.length, .bool true,
          Value.slice A n c, Value.pointer (some { block := s + 1, off := 2 }), Value.int IntKind.i64 ↑K, Value.slice (some ad) nc d, Value.slice R m mc, Value.int IntKind.i64 ↑m, Value.agg #[Value.int IntKind.i64 ↑N, Value.int IntKind.i64 ↑T, Value.int IntKind.i64 ↑K, Value.int IntKind.i64 E, Value.int IntKind.i64 Rm], Value.slice (some ad) nc d, Value.int IntKind.i64 ↑nc, Value.int IntKind.i64 ↑m, Value.bool false, Value.agg #[Value.int IntKind.i64 ↑N, Value.int IntKind.i64 ↑T, Value.int IntKind.i64 ↑K, Value.int IntKind.i64 E, Value.int IntKind.i64 Rm],
          Value.slice X K dX, Value.pointer (some { block := g, off := 0 }), Value.slice X K dX, Value.slice Z (K + 1) (K + 1), Value.agg #[Value.int IntKind.i64 ↑N, Value.int IntKind.i64 ↑T, Value.int IntKind.i64 ↑K, Value.int IntKind.i64 E, Value.int IntKind.i64 Rm], Value.slice (some ad) nc d, Value.int IntKind.i64 ↑nc, Value.slice R m mc,
          Value.func (Fn.func 120) #[] #[Value.pointer (some { block := o3 + 1 + 1, off := 0 }), Value.pointer (some { block := o3 + 1 + 1 + 1, off := 0 }), Value.pointer (some { block := o3 + 1 + 1 + 1 + 1, off := 0 }), Value.pointer (some { block := o3 + 1 + 1 + 1 + 1 + 1, off := 0 })], .int .i64 (j : Int), .slice (cutA R mc (j * T)) T (mc - j * T), .tuple #[.slice D sm.length sm.length, .bool true], Value.pointer (some { block := g, off := 0 }), Value.slice X K dX, Value.slice (some ad) nc d, .int .i64 (j : Int), .pointer (some (ad.add j)), .slice A0 K c0, .tuple #[.slice D sm.length sm.length, .bool true], .slice D sm.length sm.length, .bool true, undef, undef, undef, undef, undef, undef, undef, undef, undef, undef, undef, undef, undef], defers := [] } V := by
      intro D sm V hth hD hfV
      refine h1 _ _ ?_
      clear h1 HTH
      have hfWV : Fr (fun _ => False) W V := ((Fr.refl (fun _ => False) W).drew).trans' hfV
      have hvV := hfWV.blk HV.out (fun h => h)
      have e0 : V.cell? ⟨s, 0, none⟩ = some (.pointer (some ⟨g, 0, none⟩)) := hfWV.cell c0' (fun h => h)
      have e3 : V.cell? ⟨o3, 0, none⟩ = some (.slice Z (K + 1) (K + 1)) := hfWV.cell c3 (fun h => h)
      have e4 : V.cell? ⟨o3 + 1, 0, none⟩ = some (.slice Bv j dv) := cell_at hvV rfl
      have hbV : Below W.heap.size W V.drew := hfWV.drew.below (Nat.le_refl _) (fun _ h => h.elim)
      have hjn : j * T + T ≤ m := by
        have h1 := Nat.mul_le_mul_left T (show j + 1 ≤ nc from hlt)
        rw [Nat.mul_add, Nat.mul_one] at h1
        rw [Nat.mul_comm j T, HM.out]
        omega
      have hrC : Kd.C fk V.drew R m rnd := Kd.C_below (Kd.C_below (Kd.C_below HR.out HBW4.out) HB4W.out) hbV
      have hsl : sm.length ≤ 255 := by have := hth.2.1; rw [secL_length] at this; omega
      obtain ⟨q1, hq1⟩ : ∃ q, q = trimP (mulP (roots (secL N K)) (pieceL rnd T j)) := ⟨_, rfl⟩
      have hq1l : q1.length ≤ 2000 := by
        have hrl := roots_length (secL N K)
        rw [secL_length] at hrl
        have h2 : (trimP (mulP (roots (secL N K)) (pieceL rnd T j))).length ≤ K + 1 + T := trim_le (fun i hi => cf_mul_ge _ _ (K + 1) T (fun k hk => cf_ge _ _ (by omega)) (fun k hk => cf_ge _ _ (by simp [pieceL]; omega)) i (by omega) (by omega))
        rw [hq1]
        omega
      have HMU := Aside0.mk (MulP_any V.drew g Z (cutA R mc (j * T)) (K + 1) T (K + 1) (mc - j * T) (roots (secL N K)) (pieceL rnd T j) (HF4.out.fr (Fr.of_below hbV (fun _ => False)) (fun h => h)) (Kd.C_below (Kd.C_below HZ4.out HB4W.out) hbV) (piece_C hrC hjn hmc) (by omega))
      rw [← hq1] at HMU
      have hqe : f j = trimP (addP sm q1) := by rw [HFQ.out, thruP_eq (secL_unl N K hNK) hth, ← hq1]
      obtain ⟨q2, hq2⟩ : ∃ q, q = trimP (addP sm q1) := ⟨_, rfl⟩
      have HADD : Aside0 (∀ D2 V3, RF V3 V.drew.heap.size D2 q1 → Fr (fun _ => False) V.drew V3 → V3.cell? ⟨o3 + 1, 0, none⟩ = some (.slice Bv j dv) ∧
          Calls Try.prog 86 #[.slice D sm.length sm.length, .slice D2 q1.length q1.length] V3 fun e V4 => ∃ D4, e = .returned (.slice D4 q2.length q2.length) ∧ V4.cell? ⟨o3 + 1, 0, none⟩ = some (.slice Bv j dv) ∧ (V4.alloc (.cells #[.slice D4 q2.length q2.length] 36)).cell? ⟨o3 + 1, 0, none⟩ = some (.slice Bv j dv) ∧
          ∃ B' d' V5, (Builtin.append_ #[37, 37] 37 #[.slice Bv j dv, .slice (some ⟨V4.heap.size, 0, none⟩) 1 1]).run Try.prog (V4.alloc (.cells #[.slice D4 q2.length q2.length] 36)) = .ok (.slice B' (j + 1) d') V5 ∧ V5.cell? ⟨o3 + 1, 0, none⟩ = some (.slice Bv j dv) ∧ V5.frozen? ⟨o3 + 1, 0, none⟩ = false ∧
            ∀ v', v' = V5.setCell ⟨o3 + 1, 0, none⟩ (.slice B' (j + 1) d') → Fr (fun k => k = o3 + 1 ∨ w2.heap.size + 2 ≤ k) W v' ∧ DealI f w2 (o3 + 1) (pre ++ [j]) v') := ⟨fun D2 V3 hD2 hf3 => by
        have hfWV3 : Fr (fun _ => False) W V3 := (hfWV.drew).trans' hf3
        have hfV3 : Fr (fun _ => False) V V3 := ((Fr.refl (fun _ => False) V).drew).trans' hf3
        have hv3 := hfWV3.blk HV.out (fun h => h)
        have hD3 := RF_fr hD hfV3 (fun _ _ _ h => h)
        refine ⟨cell_at hv3 rfl, (Add_any V3 D D2 sm.length q1.length sm.length q1.length sm q1 hD3.1 hD2.1 (by omega) (by omega)).mono ?_⟩
        rw [← hq2]
        rintro e V4 ⟨D4, rfl, hD4, hf4⟩
        have hfWV4 := hfWV3.trans' hf4
        have hv4 := hfWV4.blk HV.out (fun h => h)
        have hvA := blk_alloc hv4 (Obj.cells #[.slice D4 q2.length q2.length] 36)
        have hp4 := poly_fr HP.out hfWV4 (no_none _ _)
        have hWs : w2.heap.size + 2 ≤ V4.heap.size := Nat.le_trans HSZ.out hfWV4.size
        obtain ⟨B', d', V5, hrun, hp5, hf5⟩ := poly_push V4 (w2.heap.size + 2) (.slice Bv j dv) _ hp4 hWs D4 q2 (RF_lower hD4 (Nat.le_trans HSZ.out hfWV3.size)) j (by rw [List.length_map, HJ.out]) (by omega)
        have hv5 := hf5.blk hv4 (fun h => by omega)
        refine ⟨D4, rfl, cell_at hv4 rfl, cell_at hvA rfl, B', d', V5, hrun, cell_at hv5 rfl, frozen_at hv5, ?_⟩
        rintro v' rfl
        have hf6 : Fr (fun k => k = o3 + 1) V5 (V5.setCell ⟨o3 + 1, 0, none⟩ (.slice B' (j + 1) d')) := (Fr.refl (fun k => k = o3 + 1) V5).set_ (p := ⟨o3 + 1, 0, none⟩) (.inl rfl) _
        have hfa : Fr (fun k => k = o3 + 1 ∨ w2.heap.size + 2 ≤ k) W (V5.setCell ⟨o3 + 1, 0, none⟩ (.slice B' (j + 1) d')) := ((hfWV4.mono (fun _ h => h.elim)).trans' (hf5.mono (fun k hk => .inr hk.1))).trans' (hf6.mono (fun k hk => .inl hk))
        refine ⟨hfa, _, blk_set hv5 0 _, ?_, HFr.out.trans hfa (fun k hk => by omega)⟩
        rw [List.map_append, List.map_singleton, hqe, ← hq2]
        refine poly_fr hp5 hf6 ?_
        rintro k _ rfl cells t hc
        rw [hv5] at hc
        injection hc with hc
        injection hc with _ hc
        rw [← hc]
        decide⟩
      clear hq1 hq2 hqe hq1l hrC hbV hvV hfWV hfV hD hth c0' c1 c2 c3 hcol hcc
      gi_wp2
      refine region_inRound l mixed rfl (by kernel_rfl) ?_
      repeat' (first
        | exact AllReadyIn.nil
        | refine wpAnyIn_done (by decide +kernel) ?_ _
        | (refine wpAnyIn_take (i := 1) (v := ?_) rfl rfl (by kernel_rfl) (by decide +kernel) (by decide +kernel) (fun _ _ _ h => h) ⟨Or.inl ⟨by rfl, ?_⟩, fun _ => rfl⟩ ?_; rotate_left 1; focus (intro w; go_simp; (try with_reducible rfl); done))
        | (refine wpAnyIn_take (i := 4) (v := ?_) rfl rfl (by kernel_rfl) (by decide +kernel) (by decide +kernel) (fun _ _ _ h => h) ⟨Or.inl ⟨by rfl, ?_⟩, fun _ => rfl⟩ ?_; rotate_left 1; focus (intro w; go_simp; (try with_reducible rfl); done))
        | refine wpAnyIn_ready (rs := [0, 2, 3]) (by decide +kernel) (by simp) ?_
        | refine wpAnyIn_ready (rs := [0, 2]) (by decide +kernel) (by simp) ?_
        | refine wpAnyIn_ready (rs := [0, 3]) (by decide +kernel) (by simp) ?_
        | refine wpAnyIn_ready (rs := [2, 3]) (by decide +kernel) (by simp) ?_
        | refine wpAnyIn_ready (rs := [0, 5]) (by decide +kernel) (by simp) ?_
        | refine wpAnyIn_ready (rs := [0, 6]) (by decide +kernel) (by simp) ?_
        | refine wpAnyIn_ready (rs := [0, 7]) (by decide +kernel) (by simp) ?_
        | refine wpAnyIn_ready (rs := [0]) (by decide +kernel) (by simp) ?_
        | refine wpAnyIn_ready (rs := [2]) (by decide +kernel) (by simp) ?_
        | refine wpAnyIn_ready (rs := [3]) (by decide +kernel) (by simp) ?_
        | refine wpAnyIn_ready (rs := [5]) (by decide +kernel) (by simp) ?_
        | refine wpAnyIn_ready (rs := [6]) (by decide +kernel) (by simp) ?_
        | refine wpAnyIn_ready (rs := [7]) (by decide +kernel) (by simp) ?_
        | refine wpAnyIn_ready (rs := [8]) (by decide +kernel) (by simp) ?_
        | refine wpAnyIn_ready (rs := [9]) (by decide +kernel) (by simp) ?_
        | refine AllReadyIn.cons rfl (fun K hK => ?_) ?_
        | (rw [if_pos (by rfl)]; go_simp; refine ⟨trivial, ?_⟩; gi_at_call 87; refine (callsIn_wide.2 HMU.out).mono ?_; rintro e V3 ⟨D2, rfl, hD2, hf3⟩; obtain ⟨q0, hA⟩ := HADD.out D2 V3 hD2 hf3; replace hA := Aside0.mk hA; clear hD2 hf3; go_simp; refine hK _ _ ?_; clear hK K)
        | (rw [if_pos (by rfl)]; go_simp; refine ⟨trivial, ?_⟩; gi_at_call 86; refine (callsIn_wide.2 hA.out).mono ?_; rintro e V4 ⟨D4, rfl, q1, q2, B', d', V5, hrun, q3, q4, hfin⟩; replace hrun := Aside0.mk hrun; replace hfin := Aside0.mk hfin; clear hA; go_simp; refine hK _ _ ?_; clear hK K)
        | (rw [if_pos (by rfl)]; refine operIn_append _ _ _ _ rfl rfl rfl hrun.out ?_; refine hK _ _ ?_; clear hK K)
        | (go_simp; refine hK _ _ ?_; clear hK K))
      all_goals (gi_wp2; exact hfin.out _ rfl)
    have TAIL := Aside0.mk tail
    clear tail h1
    refine region_inRound l mixed rfl (by kernel_rfl) ?_
    repeat' (first
      | exact AllReadyIn.nil
      | refine wpAnyIn_done (by decide +kernel) ?_ _
      | (refine wpAnyIn_take (i := 3) (v := ?_) rfl rfl (by kernel_rfl) (by decide +kernel) (by decide +kernel) (fun _ _ _ h => h) ⟨Or.inl ⟨by rfl, ?_⟩, fun _ => rfl⟩ ?_; rotate_left 1; focus (intro w; go_simp; (try with_reducible rfl); done))
      | (refine wpAnyIn_take (i := 4) (v := ?_) rfl rfl (by kernel_rfl) (by decide +kernel) (by decide +kernel) (fun _ _ _ h => h) ⟨Or.inl ⟨by rfl, ?_⟩, fun _ => rfl⟩ ?_; rotate_left 1; focus (intro w; go_simp; (try with_reducible rfl); done))
      | (refine wpAnyIn_take (i := 7) (v := ?_) rfl rfl (by kernel_rfl) (by decide +kernel) (by decide +kernel) (fun _ _ _ h => h) ⟨Or.inl ⟨by rfl, ?_⟩, fun _ => rfl⟩ ?_; rotate_left 1; focus (intro w; go_simp; (try with_reducible rfl); done))
      | (refine wpAnyIn_take (i := 8) (v := ?_) rfl rfl (by kernel_rfl) (by decide +kernel) (by decide +kernel) (fun _ _ _ h => h) ⟨Or.inl ⟨by rfl, ?_⟩, fun _ => rfl⟩ ?_; rotate_left 1; focus (intro w; go_simp; (try with_reducible rfl); done))
      | (refine wpAnyIn_take (i := 9) (v := ?_) rfl rfl (by kernel_rfl) (by decide +kernel) (by decide +kernel) (fun _ _ _ h => h) ⟨Or.inl ⟨by rfl, ?_⟩, fun _ => rfl⟩ ?_; rotate_left 1; focus (intro w; go_simp; (try with_reducible rfl); done))
      | (refine wpAnyIn_take (i := 10) (v := ?_) rfl rfl (by kernel_rfl) (by decide +kernel) (by decide +kernel) (fun _ _ _ h => h) ⟨Or.inl ⟨by rfl, ?_⟩, fun _ => rfl⟩ ?_; rotate_left 1; focus (intro w; go_simp; (try with_reducible rfl); done))
      | (refine wpAnyIn_take (i := 11) (v := ?_) rfl rfl (by kernel_rfl) (by decide +kernel) (by decide +kernel) (fun _ _ _ h => h) ⟨Or.inl ⟨by rfl, ?_⟩, fun _ => rfl⟩ ?_; rotate_left 1; focus (intro w; go_simp; (try with_reducible rfl); done))
      | refine wpAnyIn_ready (rs := [0, 1, 2]) (by decide +kernel) (by simp) ?_
      | refine wpAnyIn_ready (rs := [0, 1]) (by decide +kernel) (by simp) ?_
      | refine wpAnyIn_ready (rs := [0, 2]) (by decide +kernel) (by simp) ?_
      | refine wpAnyIn_ready (rs := [1, 2]) (by decide +kernel) (by simp) ?_
      | refine wpAnyIn_ready (rs := [0, 1, 5]) (by decide +kernel) (by simp) ?_
      | refine wpAnyIn_ready (rs := [0, 5]) (by decide +kernel) (by simp) ?_
      | refine wpAnyIn_ready (rs := [1, 5]) (by decide +kernel) (by simp) ?_
      | refine wpAnyIn_ready (rs := [0]) (by decide +kernel) (by simp) ?_
      | refine wpAnyIn_ready (rs := [1]) (by decide +kernel) (by simp) ?_
      | refine wpAnyIn_ready (rs := [2]) (by decide +kernel) (by simp) ?_
      | refine wpAnyIn_ready (rs := [5]) (by decide +kernel) (by simp) ?_
      | refine wpAnyIn_ready (rs := [6]) (by decide +kernel) (by simp) ?_
      | refine AllReadyIn.cons rfl (fun K hK => ?_) ?_
      | (rw [if_pos (by rfl)]; go_simp; refine ⟨trivial, ?_⟩; gi_at_call 85; refine (callsIn_wide.2 HTH.out).mono ?_; rintro e W3 ⟨D, sm, rfl, hD, hth, hf3⟩; replace hD := Aside0.mk hD; replace hth := Aside0.mk hth; replace hf3 := Aside0.mk hf3; go_simp; refine hK _ _ ?_; clear hK K)
      | (go_simp; refine hK _ _ ?_; clear hK K))
    all_goals (exact TAIL.out _ _ _ hth.out hD.out hf3.out)
  · rintro zs W hzs ⟨v, hv, hp, hf⟩ hKD
    subst hzs
    obtain ⟨Bv, dv, rfl⟩ := poly_slice hp
    have hdl := HPQ.out
    rw [hdl] at hv hp
    have hdn : (polysL N T K data rnd).length = nc := by rw [← hdl]; simp
    have hql : ∀ q ∈ polysL N T K data rnd, q.length ≤ 1099511627776 := fun q hq => by have := polysL_len N T K data rnd q hq; omega
    obtain ⟨qs, hqs⟩ : ∃ qs, qs = polysL N T K data rnd := ⟨_, rfl⟩
    rw [← hqs] at hv hp hdn hql
    have HQS := Aside0.mk hqs
    clear hqs hdl
    rw [hdn] at hv hp
    have c0 : W.cell? ⟨s, 0, none⟩ = some (.pointer (some ⟨g, 0, none⟩)) := cell_at (hf.blk b0 (by omega)) rfl
    have c3 : W.cell? ⟨o3 + 1, 0, none⟩ = some (.slice Bv nc dv) := cell_at hv rfl
    have hb4 : Below W4.heap.size W4 W := HO3.out.2.trans (hf.below HO3.out.2.size (fun k hk => by have := HO3.out.1; omega))
    have hbW : Below w.heap.size w W := HBW4.out.trans (hb4.mono HBW4.out.size)
    obtain ⟨u0, u1, u2, u3, u4, _⟩ := HG.out W (HB4.out.trans (hb4.mono HB4.out.size))
    have hsw := HS.out
    rw [← hsw] at u0 u1 u2 u3 u4
    have HSH := Aside0.mk (shares_any W g N T K E Rm Bv nc dv qs (HF.out.fr (Fr.of_below hbW (fun _ => False)) (fun h => h)) (poly_PL hp) hN (by omega) hql)
    unfold parV at HSH
    obtain ⟨Dd, hDd⟩ : ∃ D, D = w2.heap.size := ⟨_, rfl⟩
    rw [← hDd] at hKD ⊢
    have HKD := Aside0.mk hKD
    have HBWW := Aside0.mk hbW
    have HDD : Aside0 (Dd < W.heap.size ∧ w.heap.size ≤ Dd) := ⟨by have := blk_lt hKD; have := HBW4.out.size; have := HO3.out.2.size; omega⟩
    clear hsw hDd hKD hp hv hf hbW hb4 b0 b1 b2 b3 b4 a5 a6 a7 a8 hql hdn hz4
    gi_wp2_with (refine ⟨trivial, ?_⟩; gi_at_call 88; refine (callsIn_wide.2 HSH.out).mono ?_; rintro e W3 ⟨b, rfl, hb, hrows, hf3⟩; replace hrows := Aside0.mk hrows; replace hf3 := Aside0.mk hf3; replace hb := Aside0.mk hb)
    refine ⟨by simp, .inl ⟨_, _, rfl, run_takeDeferred (hf3.out.blk HKD.out (fun h => h)), ?_⟩⟩
    have hpf := fr_shut W3 Dd (.deferred none)
    refine ⟨_, results_tmp2 rfl _ _ _, b, rfl, ?_, ?_, ?_⟩
    · have := HBWW.out.size; have := hb.out; omega
    · rw [← HQS.out]
      exact rows_lower (rows_frS hrows.out hpf (fun k hk => by have := HDD.out; have := hb.out; omega)) HBWW.out.size
    · exact ((Fr.of_below HBWW.out _).trans' hf3.out).trans hpf (fun k hk => .inr (by have := HDD.out; omega))
end Go.Proofs.Ytpeiejkcoadhfaa
