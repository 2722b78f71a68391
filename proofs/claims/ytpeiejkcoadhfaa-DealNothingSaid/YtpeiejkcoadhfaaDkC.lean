/- Columns of documents. -/
import Derived.Test.YtpeiejkcoadhfaaDkA
import Derived.Test.YtpeiejkcoadhfaaWZeros
import Derived.Test.YtpeiejkcoadhfaaPDealSecretx1
set_option linter.all false
/- slices.Chunk's iterator, over bytes. -/
namespace Go.Proofs.Ytpeiejkcoadhfaa
open Go.RowKit Go.Shelf Go.Proofs.YtpeiejkcoadhfaaW.PrintWords Go.Proofs.YtpeiejkcoadhfaaW.PrintMore
attribute [local go_sem] Oper.semAt_some

def nmin (x y : Nat) : Nat := if y < x then y else x
theorem min2_nat (k k' : IntKind) (x y : Nat) : Builtin.min2 (.int k (x : Int)) (.int k' (y : Int)) = pure (.int k (nmin x y : Int)) := by
  rw [min2_int]
  congr 2
  unfold nmin
  by_cases h : y < x
  · rw [if_pos h, if_pos (by omega)]
  · rw [if_neg h, if_neg (by omega)]
attribute [local go_sem] min2_nat min_two
def ncol (len k : Nat) : Nat := (len + k - 1) / k
theorem lt_ncol (j len k : Nat) (hk : 0 < k) : j < ncol len k ↔ j * k < len := by
  unfold ncol
  rw [Nat.lt_iff_add_one_le, Nat.le_div_iff_mul_le hk, Nat.add_mul]
  omega
theorem info5 : (Try.prog.info? 5).map (fun i => (i.zero, i.size, i.bytes)) = some (some (.int .u8 0), 1, 1) := by kernel_rfl
theorem cut3_run {P : Program} (t e : TypeId) {i : TypeInfo} (ht : P.underlying t = some (.slice e)) (hi : P.info? e = some i) (hsz : i.size = 1) (p : Addr) (len c a b : Nat) (hb : 0 < b) (h : a + b ≤ len) (hc : len ≤ c) (W : World) :
    (Instr.slice t (.slice (some p) len c) (some (.int .i64 (a : Int))) (some (.int .i64 ((a : Int) + (b : Int)))) (some (.int .i64 ((a : Int) + (b : Int))))).run P W = .ok (.slice (some (p.add a)) b b) W := by
  have hel : P.elem t = e := by simp [Program.elem, ht]
  have hu : P.underlying t = some (.slice (P.elem t)) := by rw [hel]; exact ht
  have e1 : ((a : Int) + (b : Int)).toNat = a + b := by omega
  have e2 : ¬ a + b = a := by omega
  have e3 : a + b - a = b := by omega
  rw [run_slice_lhm W t (some p) len c hu .i64 .i64 .i64 (a : Int) ((a : Int) + (b : Int)) ((a : Int) + (b : Int)) (by omega) (by omega) (by omega) (by omega), hel]
  simp [sizeOf, typeInfo, hi, hsz, sliced, Result.andThen, e1, e3]
  omega
theorem chunk_run (p : Addr) (len c i e : Nat) (he : 0 < e) (h : i + e ≤ len) (hc : len ≤ c) (W : World) :
    (Instr.slice 36 (.slice (some p) len c) (some (.int .i64 (i : Int))) (some (.int .i64 ((i : Int) + (e : Int)))) (some (.int .i64 ((i : Int) + (e : Int))))).run Try.prog W = .ok (.slice (some (p.add i)) e e) W := by
  obtain ⟨f, hi, _, hs, _⟩ := info_parts info5
  exact cut3_run 36 5 Try.underlying36 hi hs p len c i e he h hc W

theorem wadd64 (a b : Nat) (h : a + b ≤ 281474976711000) : wrap64 ((a : Int) + (b : Int)) = (a : Int) + (b : Int) := by
  have h1 : (a : Int) + (b : Int) ≤ 281474976711000 := by omega
  unfold wrap64
  omega
theorem nmin_cut (k r i len : Nat) (hk : 0 < k) (hr : r = len - i) (h : i < len) : 0 < nmin k r ∧ i + nmin k r ≤ len := by
  unfold nmin
  split <;> omega
/-- One chunk. -/
def chunkV (A : Option Addr) (len k j : Nat) : Value := .slice (A.map (·.add (j * k))) (nmin k (len - j * k)) (nmin k (len - j * k))

set_option maxRecDepth 100000 in
set_option maxHeartbeats 1600000 in
theorem chunk_seq (S : Nat → Prop) (w : World) (bs bn : Nat) (A : Option Addr) (len c k : Nat) (hA : 0 < len → ∃ p, A = some p) (hk : 0 < k) (hk2 : k ≤ 255) (hl : len ≤ 281474976710656) (hc : len ≤ c)
    (hs : w.heap[bs]? = some (.cells #[.slice A len c] 36 (0, 0))) (hn : w.heap[bn]? = some (.cells #[.int .i64 k] 3 (0, 0))) (hS : ¬ S bs) (hSn : ¬ S bn) :
    SeqF Try.prog 117 #[.pointer (some ⟨bs, 0, none⟩), .pointer (some ⟨bn, 0, none⟩)] (fun j => #[chunkV A len k j]) (fun pre j _ => j = pre.length ∧ j * k < len) S (fun xs => xs = List.range (ncol len k)) w := by
  intro l J W hW hJ hY h0
  refine callsIn_of_wp Try.func117 rfl trivial ?_ rfl
  simp only [Try.ntmps117, List.size_toArray, List.length_cons, List.length_nil, Nat.reduceAdd, Nat.reduceSub, Array.replicate_succ, Array.replicate_zero, List.push_toArray, List.append_toArray, List.nil_append, List.cons_append]
  have hbs : ∀ {W1 : World}, Fr (fun k => S k ∨ w.heap.size ≤ k) w W1 → W1.cell? ⟨bs, 0, none⟩ = some (.slice A len c) := fun hf => cell_at (hf.blk hs (fun h => h.elim hS (fun h => by have := blk_lt hs; omega))) rfl
  have hbn : ∀ {W1 : World}, Fr (fun k => S k ∨ w.heap.size ≤ k) w W1 → W1.cell? ⟨bn, 0, none⟩ = some (.int .i64 k) := fun hf => cell_at (hf.blk hn (fun h => h.elim hSn (fun h => by have := blk_lt hn; omega))) rfl
  have HBS0 := Aside0.mk @hbs
  have HBN0 := Aside0.mk @hbn
  clear hbs hbn
  gi_wp2
  have hbs := @HBS0.out
  have hbn := @HBN0.out
  clear HBS0 HBN0
  gi_loopw [4] (fun v4 wr => ∃ (j i : Nat), i = j * k ∧ j ≤ ncol len k ∧ i ≤ len + 255 ∧ v4 = .int .i64 i ∧ J (List.range j) wr ∧ Fr (fun k => S k ∨ w.heap.size ≤ k) w wr) (fun v4 _ => len + 255 - (intOf v4).toNat)
  case atStart => exact ⟨0, 0, by omega, by omega, by omega, rfl, h0, Fr.of_below hW _⟩
  case round =>
    obtain ⟨j, i, hij, hj, hi, rfl, hJr, hfr⟩ := hrel
    have c1 := hbs hfr
    have c2 := hbn hfr
    have HBS := Aside0.mk @hbs
    have HBN := Aside0.mk @hbn
    have HY := Aside0.mk hY
    have HJ := Aside0.mk hJ
    have HJR := Aside0.mk hJr
    have HFR := Aside0.mk hfr
    have HIJ := Aside0.mk hij
    have HJN := Aside0.mk hj
    clear hbs hbn hY hJ hJr hfr hij hj hs hn hS hSn hW h0
    by_cases hlt : i < len
    · obtain ⟨p, rfl⟩ := hA (by omega)
      obtain ⟨r, hr⟩ : ∃ r, r = len - i := ⟨_, rfl⟩
      obtain ⟨e, he, he0, he1⟩ : ∃ e, Aside0 (nmin k r = e) ∧ 0 < e ∧ i + e ≤ len := ⟨nmin k r, ⟨rfl⟩, nmin_cut k r i len hk hr hlt⟩
      have hfrom : ∀ W : World, (Instr.slice 36 (.slice (some p) len c) (some (.int .i64 (i : Int))) none none).run Try.prog W = .ok (.slice (cutA (some p) c i) r (c - i)) W := fun W => by
        obtain ⟨f, hi, _, hs, _⟩ := info_parts info5
        rw [hr]
        exact from_run 36 5 Try.underlying36 hi hs (some p) len c i (by omega) W
      generalize cutA (some p) c i = A' at hfrom
      generalize c - i = c' at hfrom
      have hcut := chunk_run p len c i e he0 he1 hc
      have hw1 := wadd64 i e (by omega)
      have hw2 := wadd64 i k (by omega)
      have HR := Aside0.mk hr
      clear hr
      have hltI : (i : Int) < (len : Int) := by omega
      have he' := he.out
      have hJ1 : J (List.range j) wr.drew := HJ.out _ _ _ HJR.out (below_drew (Below.refl _ _))
      have hv : chunkV (some p) len k j = .slice (some (p.add i)) e e := by
        unfold chunkV
        rw [← HIJ.out, ← HR.out, he']
        rfl
      obtain ⟨fn, tmps, assign, body, hy, hR⟩ := HY.out (List.range j) j wr.drew hJ1 ⟨by simp, by rw [← HIJ.out]; exact hlt⟩
      have hy' : (Instr.yield l #[.slice (some (p.add i)) e e]).run Try.prog wr.drew = .ok (.round l fn tmps assign body) wr.drew := by rw [← hv]; exact hy
      have HFR2 := Aside0.mk HFR.out.drew
      clear hy hJ1 hv HY
      gi_wp2
      gi_region
      gi_wp2
      refine hR.mono ?_
      rintro ee W' ⟨rfl, hj', hf'⟩
      have hf2 := HFR2.out.trans' hf'
      have c3 := HBN.out hf2
      have HF := Aside0.mk hf2
      have HJ' := Aside0.mk hj'
      clear hf2 hj' hf'
      gi_wp2
      go_roundw
      case rel => exact ⟨j + 1, i + k, by rw [HIJ.out, Nat.add_mul, Nat.one_mul], (lt_ncol j len k hk).2 (by rw [← HIJ.out]; exact hlt), by omega, by go_num, by rw [List.range_succ]; exact HJ'.out, HF.out⟩
      case measure => simp only [intOf]; omega
    · gi_wp2
      go_end0
      refine ⟨⟨_, rfl⟩, _, rfl, ?_⟩
      have hjn : j = ncol len k := by
        have h1 := HJN.out
        have h2 := lt_ncol j len k hk
        rcases Nat.lt_or_ge j (ncol len k) with h3 | h3
        · exact absurd (h2.1 h3) (by rw [← HIJ.out]; exact hlt)
        · exact Nat.le_antisymm h1 h3
      rw [← hjn]
      exact HJR.out
end Go.Proofs.Ytpeiejkcoadhfaa
/- Documents as columns: plain lists. -/
namespace Go.Proofs.Ytpeiejkcoadhfaa
theorem ncol_zero (k : Nat) (hk : 0 < k) : ncol 0 k = 0 := by
  unfold ncol
  exact Nat.div_eq_of_lt (by omega)
theorem ncol_le (len k : Nat) (hk : 0 < k) : ncol len k ≤ len := by
  rcases Nat.lt_or_ge len (ncol len k) with h | h
  · have h1 := (lt_ncol len len k hk).1 h
    have := Nat.le_mul_of_pos_right len hk
    omega
  · exact h
theorem ncol_lo (len k m : Nat) (hk : 0 < k) (h : ncol len k = m + 1) : m * k < len ∧ len ≤ (m + 1) * k := by
  refine ⟨(lt_ncol m len k hk).1 (by omega), ?_⟩
  rcases Nat.lt_or_ge ((m + 1) * k) len with h1 | h1
  · have := (lt_ncol (m + 1) len k hk).2 h1; omega
  · exact h1
theorem ncol_eq (len k m : Nat) (hk : 0 < k) (h1 : m * k < len) (h2 : len ≤ (m + 1) * k) : ncol len k = m + 1 := by
  have h3 := (lt_ncol m len k hk).2 h1
  rcases Nat.lt_or_ge (m + 1) (ncol len k) with h4 | h4
  · have := (lt_ncol (m + 1) len k hk).1 h4; omega
  · omega
/-- A column: a piece, filled up with noughts. -/
def colOf (xs : List Int) (k j : Nat) : List Int := (xs.drop (j * k)).take k ++ List.replicate (k - ((xs.drop (j * k)).take k).length) 0
theorem colOf_length (xs : List Int) (k j : Nat) : (colOf xs k j).length = k := by
  unfold colOf
  rw [List.length_append, List.length_replicate]
  have : ((xs.drop (j * k)).take k).length ≤ k := by rw [List.length_take]; exact Nat.min_le_left _ _
  omega
def splitL (xs : List Int) (k : Nat) : List (List Int) := (List.range (ncol xs.length k)).map (colOf xs k)
theorem splitL_length (xs : List Int) (k : Nat) : (splitL xs k).length = ncol xs.length k := by simp [splitL]
theorem splitL_get (xs : List Int) (k j : Nat) (h : j < ncol xs.length k) : (splitL xs k)[j]? = some (colOf xs k j) := by
  unfold splitL
  rw [List.getElem?_map, List.getElem?_range h]; rfl
theorem splitL_all (xs : List Int) (k : Nat) : ∀ c ∈ splitL xs k, c.length = k := by
  intro c hc
  obtain ⟨j, _, rfl⟩ := List.mem_map.1 hc
  exact colOf_length xs k j
theorem colOf_full (xs : List Int) (k j : Nat) (h : (j + 1) * k ≤ xs.length) : colOf xs k j = (xs.drop (j * k)).take k := by
  unfold colOf
  have : ((xs.drop (j * k)).take k).length = k := by
    rw [List.length_take, List.length_drop]
    rw [Nat.add_mul, Nat.one_mul] at h
    omega
  rw [this, Nat.sub_self, List.replicate_zero, List.append_nil]
theorem flat_full (xs : List Int) (k j : Nat) (h : j * k ≤ xs.length) : ((List.range j).map (colOf xs k)).flatten = xs.take (j * k) := by
  induction j with
  | zero => simp
  | succ j ih =>
    have h0 : j * k ≤ xs.length := by rw [Nat.add_mul, Nat.one_mul] at h; omega
    rw [List.range_succ, List.map_append, List.flatten_append, ih h0, List.map_singleton, List.flatten_singleton, colOf_full xs k j h, Nat.add_mul, Nat.one_mul, List.take_add]
theorem flat_split (xs : List Int) (k : Nat) (hk : 0 < k) : (splitL xs k).flatten.take xs.length = xs := by
  unfold splitL
  rcases h : ncol xs.length k with _ | m
  · have : xs.length = 0 := by
      rcases Nat.eq_zero_or_pos xs.length with h1 | h1
      · exact h1
      · have := (lt_ncol 0 xs.length k hk).2 (by omega); omega
    have : xs = [] := List.eq_nil_of_length_eq_zero this
    subst this; rfl
  · obtain ⟨h1, h2⟩ := ncol_lo _ _ _ hk h
    rw [List.range_succ, List.map_append, List.flatten_append, flat_full xs k m (by omega), List.map_singleton, List.flatten_singleton]
    unfold colOf
    rw [Nat.add_mul, Nat.one_mul] at h2
    rw [← List.append_assoc, ← List.take_add, List.take_of_length_le (i := m * k + k) (by omega), List.take_left]
theorem flat_length (l : List (List Int)) (k : Nat) (h : ∀ c ∈ l, c.length = k) : l.flatten.length = l.length * k := by
  induction l with
  | nil => simp
  | cons c l ih =>
    rw [List.flatten_cons, List.length_append, ih (fun d hd => h d (List.mem_cons_of_mem _ hd)), h c (List.mem_cons_self ..), List.length_cons, Nat.add_mul]
    omega
end Go.Proofs.Ytpeiejkcoadhfaa
/- stripe.Split. -/
namespace Go.Proofs.Ytpeiejkcoadhfaa
open Go.RowKit Go.Shelf Go.Proofs.YtpeiejkcoadhfaaW.PrintWords Go.Proofs.YtpeiejkcoadhfaaW.PrintMore
attribute [local go_sem] Oper.semAt_some

theorem info36 : (Try.prog.info? 36).map (fun i => (i.zero, i.size, i.bytes)) = some (some (.slice none 0 0), 1, 24) := by kernel_rfl
theorem size5 : (Try.prog.info? 5).map (·.size) = some 1 := by kernel_rfl
abbrev u8 : Kd Int := Kd.int .u8
/-- Rows of rows of bytes. -/
abbrev u8s : Kd (List Int) := Kd.slice 5 u8

set_option maxRecDepth 100000 in
theorem Chunk_any (w : World) (v : Value) (hv : v.oneCell' = true) (k : Nat) (hk : 0 < k) (hk2 : k ≤ 255) : Calls Try.prog 76 #[v, .int .i64 k] w fun e w' =>
    e = .returned (.func (.func 117) #[] #[.pointer (some ⟨w.heap.size, 0, none⟩), .pointer (some ⟨w.heap.size + 1, 0, none⟩)]) ∧ w' = (w.alloc (.cells #[v] 36)).alloc (.cells #[.int .i64 k] 3) := by
  have h1 : ¬ (k : Int) < 1 := by omega
  go_enter Try.func76, Try.ntmps76
  go_wp2
  go_ret
  exact ⟨rfl, rfl⟩

/-- What Split has laid, so many columns having come. -/
def SpI (xs : List Int) (k : Nat) (w2 : World) (o : Nat) (pre : List Nat) (W : World) : Prop :=
  ∃ v, W.heap[o]? = some (.cells #[v] 37 (0, 0)) ∧ Kd.S u8s 36 W (w2.heap.size + 2) (fun j => w2.heap.size + 2 ≤ j) v (pre.map (colOf xs k)) ∧ Fr (fun j => j = o) w2 W

/-- The piece that a round is handed. -/
theorem chunk_C {W : World} {A : Option Addr} {len c k j : Nat} {xs : List Int} (hC : Kd.C u8 W A len xs) (hc : len ≤ c) (h : j * k < len) :
    ∃ B, chunkV A len k j = .slice B ((xs.drop (j * k)).take k).length ((xs.drop (j * k)).take k).length ∧ Kd.C u8 W B ((xs.drop (j * k)).take k).length ((xs.drop (j * k)).take k) := by
  have hl := Kd.C_len hC
  obtain ⟨p, rfl, _⟩ := (Kd.reads_of_C (enc := Value.int .u8) (d := (0 : Int)) (h1 := fun _ => rfl) hC).2.2 (by omega)
  have hn : nmin k (len - j * k) = ((xs.drop (j * k)).take k).length := by
    rw [List.length_take, List.length_drop, hl]
    unfold nmin
    split <;> omega
  have hm := mid_C (0 : Int) c (j * k) (j * k + nmin k (len - j * k)) hC (by omega) (by unfold nmin; split <;> omega) hc
  unfold cutA at hm
  rw [if_neg (by omega), Nat.add_sub_cancel_left, hn] at hm
  refine ⟨some (p.add (j * k)), by unfold chunkV; rw [hn]; rfl, ?_⟩
  have e : (xs.drop (j * k)).take ((xs.drop (j * k)).take k).length = (xs.drop (j * k)).take k := by rw [List.length_take, ← List.take_eq_take_min]
  rw [e] at hm
  exact hm
set_option maxRecDepth 100000 in
set_option maxHeartbeats 1600000 in
theorem Split_any (w : World) (A : Option Addr) (len c k : Nat) (xs : List Int) (hC : Kd.C u8 w A len xs) (hc : len ≤ c) (hk : 0 < k) (hk2 : k ≤ 255) (hlen : len ≤ 1099511627776) :
    Calls Try.prog 37 #[.slice A len c, .int .i64 k] w fun e w' => ∃ B d, e = .returned (.slice B (ncol len k) d) ∧ Kd.S u8s 36 w' w.heap.size (fun j => w.heap.size ≤ j) (.slice B (ncol len k) d) (splitL xs k) ∧ Fr (fun _ => False) w w' := by
  have hxl := Kd.C_len hC
  have hA : 0 < len → ∃ p, A = some p := fun h => by
    obtain ⟨ad, h1, _⟩ := (Kd.reads_of_C (enc := Value.int .u8) (d := (0 : Int)) (h1 := fun _ => rfl) hC).2.2 h
    exact ⟨ad, h1⟩
  have hnl := ncol_le len k hk
  refine (callsIn_wide (n := 3)).1 (callsIn_of_wp_marks Try.func37 rfl trivial ?_ rfl)
  simp only [Try.ntmps37, List.size_toArray, List.length_cons, List.length_nil, Nat.reduceAdd, Nat.reduceSub, Array.replicate_succ, Array.replicate_zero, List.push_toArray, List.append_toArray, List.nil_append, List.cons_append]
  have h1 : ¬ (k : Int) < 1 := by omega
  have HC := Aside0.mk hC
  have HX := Aside0.mk hxl
  have HN := Aside0.mk hnl
  have HA := Aside0.mk hA
  clear hC hxl hnl hA
  gi_wp2_with (refine ⟨trivial, ?_⟩; gi_at_call 76; refine (callsIn_wide.2 (Chunk_any _ _ rfl k hk hk2)).mono ?_; rintro e W' ⟨rfl, rfl⟩)
  obtain ⟨w2, hw2⟩ : ∃ w2, w2 = ((((w.alloc (Obj.cells #[Value.int IntKind.i64 ↑k] 3)).alloc (Obj.cells #[Value.slice none 0 0] 37)).alloc (Obj.cells #[Value.slice A len c] 36)).alloc (Obj.cells #[Value.int IntKind.i64 ↑k] 3)) := ⟨_, rfl⟩
  have hz2 : w2.heap.size = w.heap.size + 4 := by rw [hw2]; simp
  have hb2 : Below w.heap.size w w2 := by rw [hw2]; exact below_alloc (below_alloc (below_alloc (below_alloc (Below.refl _ _) _) _) _) _
  have g0 : w2.heap[w.heap.size]? = some (.cells #[.int .i64 k] 3 (0, 0)) := by rw [hw2]; exact blk_alloc (blk_alloc (blk_alloc (blk_new _ _) _) _) _
  have g1 : w2.heap[w.heap.size + 1]? = some (.cells #[.slice none 0 0] 37 (0, 0)) := by
    rw [hw2]
    have := blk_new (w.alloc (Obj.cells #[Value.int IntKind.i64 ↑k] 3)) (Obj.cells #[Value.slice none 0 0] 37)
    rw [World.size_alloc] at this
    exact blk_alloc (blk_alloc this _) _
  have g2 : w2.heap[w.heap.size + 1 + 1]? = some (.cells #[.slice A len c] 36 (0, 0)) := by
    rw [hw2]
    have := blk_new ((w.alloc (Obj.cells #[Value.int IntKind.i64 ↑k] 3)).alloc (Obj.cells #[Value.slice none 0 0] 37)) (Obj.cells #[Value.slice A len c] 36)
    rw [World.size_alloc, World.size_alloc] at this
    exact blk_alloc this _
  have g3 : w2.heap[w.heap.size + 1 + 1 + 1]? = some (.cells #[.int .i64 k] 3 (0, 0)) := by
    rw [hw2]
    have := blk_new (((w.alloc (Obj.cells #[Value.int IntKind.i64 ↑k] 3)).alloc (Obj.cells #[Value.slice none 0 0] 37)).alloc (Obj.cells #[Value.slice A len c] 36)) (Obj.cells #[Value.int IntKind.i64 ↑k] 3)
    rw [World.size_alloc, World.size_alloc, World.size_alloc] at this
    exact this
  rw [← hw2]
  clear hw2
  obtain ⟨s, hs⟩ : ∃ s, s = w.heap.size := ⟨_, rfl⟩
  rw [← hs] at hz2 g0 g1 g2 g3 ⊢
  have HC2 := Aside0.mk (Kd.C_below HC.out hb2)
  refine range_fr (P := Try.prog) (gf := 117) (lb := #[.pointer (some ⟨s + 1 + 1, 0, none⟩), .pointer (some ⟨s + 1 + 1 + 1, 0, none⟩)]) rfl (fun _ _ => rfl) (encs := fun j => #[chunkV A len k j]) (Rel := fun pre j _ => j = pre.length ∧ j * k < len) (S := fun j => j = s + 1) (Full := fun ys => ys = List.range (ncol len k))
    (chunk_seq _ w2 (s + 1 + 1) (s + 1 + 1 + 1) A len c k HA.out hk hk2 (by omega) hc g2 g3 (by omega) (by omega)) (fun _ => rfl) (fun j hj => by omega)
    (SpI xs k w2 (s + 1)) ?_ (fun pre j W W' h _ => h) ⟨_, g1, Kd.S_nil _ _ _ _ _, Fr.refl _ _⟩
    (fun j => { tmps := #[Value.slice A len c, Value.int IntKind.i64 ↑k, undef, Value.pointer (some { block := s, off := 0 }),
          Value.slice none 0 0, Value.pointer (some { block := s + 1, off := 0 }), chunkV A len k j, undef,
          Value.int IntKind.i64 ↑k, Value.bool false, Value.slice A len c, Value.int IntKind.i64 ↑k,
          Value.func (Fn.func 117) #[]
            #[Value.pointer (some { block := s + 1 + 1, off := 0 }),
              Value.pointer (some { block := s + 1 + 1 + 1, off := 0 })],
          chunkV A len k j, undef, undef, undef, undef, undef, undef, undef, undef, undef, undef], defers := [] }) ?_ ?_ ?_
  · rintro pre W W' ⟨v, hv, hr, hf⟩ hk
    exact ⟨v, hk.blk hv (fun h => by omega), S_abd hr hk, hf.trans hk (fun k h => .inr h.1)⟩
  · intro l pre j W K hr hK
    clear hr
    subst hs
    rw [zip1]
    gi_wp2
    exact hK
  · rintro l pre j W hsz ⟨v, hv, hr, hf⟩ ⟨hj, hlt⟩
    have hb0 := hf.blk g0 (by omega)
    have c0 : W.cell? ⟨s, 0, none⟩ = some (.int .i64 k) := cell_at hb0 rfl
    have c1 : W.cell? ⟨s + 1, 0, none⟩ = some v := cell_at hv rfl
    have hfw : Fr (fun _ => False) w W := (Fr.of_below hb2 _).trans hf (fun k hk => .inr (by omega))
    obtain ⟨B, hB, hBC⟩ := chunk_C (C_fr (0 : Int) HC.out hfw (fun _ _ _ h => h)) hc hlt
    rw [hB]
    have hcol : colOf xs k j = (xs.drop (j * k)).take k ++ (List.replicate k (0 : Int)).drop ((xs.drop (j * k)).take k).length := by rw [List.drop_replicate]; rfl
    have hyl : ((xs.drop (j * k)).take k).length ≤ k := by rw [List.length_take]; exact Nat.min_le_left _ _
    generalize (xs.drop (j * k)).take k = ys at hBC hcol hyl
    have hR1 := R_zeros W 5 (w2.heap.size + 2) (fun i => i = W.heap.size) k (by omega) hsz rfl
    obtain ⟨W2, hrun2, hR2, hf2⟩ := copy_R (P := Try.prog) (0 : Int) 36 36 3 5 Try.underlying36 size5 (c := ys.length) (xs := List.replicate k (0 : Int)) (by rw [List.length_replicate]; exact hR1) (Kd.C_alloc hBC _) (by rw [List.length_replicate]; exact hyl)
    rw [← hcol] at hR2
    rw [List.length_replicate] at hrun2 hR2
    have hf02 : Fr (fun _ => False) W W2 := (Fr.of_below (below_alloc (Below.refl _ _) _) _).trans hf2 (fun k hk => .inr (by omega))
    have hr2 := S_fr (Kd.S_elderB hr W.heap.size (Nat.le_refl _)) hf02 (fun _ _ _ _ h => h)
    have hml : (pre.map (colOf xs k)).length = j := by rw [List.length_map, hj]
    obtain ⟨v1, W3, hrun3, hR3, hg3, hat3⟩ := S_run1 (P := Try.prog) u8s (W := W2) (w2.heap.size + 2) 37 37 36 (.slice none 0 0) 24 Try.underlying37 info36 rfl (by decide) (by omega) v _ (colOf xs k j) [.slice (some ⟨W.heap.size, 0, none⟩) k k] (fun i => w2.heap.size + 2 ≤ i) (fun i => i = W.heap.size) (Kd.M_row hR2)
      (fun i hi => ⟨by omega, fun h => by have := Kd.S_lt hr i h.symm; omega⟩) (fun i hi => by have := hf02.size; omega) hr2 (by have := hf02.size; omega) (by
        have h1 := (lt_ncol j len k hk).2 hlt
        have h2 := HN.out
        rw [hml]
        omega)
    obtain ⟨B1, d1, hv1⟩ := Kd.S_slice hR3
    generalize (pre.map (colOf xs k) ++ [colOf xs k j]).length = n1 at hv1
    subst hv1
    have hv2 := hf02.blk hv (fun h => h)
    have hv3 := blk_grown hv2 hg3 (fun h => by
      have := Kd.S_base hr (s + 1) h.symm
      omega)
    have c2 : W2.cell? ⟨s + 1, 0, none⟩ = some v := cell_at hv2 rfl
    have c3 : W3.cell? ⟨s + 1, 0, none⟩ = some v := cell_at hv3 rfl
    have z3 : W3.frozen? ⟨s + 1, 0, none⟩ = false := frozen_at hv3
    have hf3 : Fr (fun i => i = s + 1 ∨ w2.heap.size + 2 ≤ i) W (W3.setCell ⟨s + 1, 0, none⟩ (.slice B1 n1 d1)) := ((hf02.mono (fun _ h => h.elim)).trans' (Fr.of_grown hg3 (fun i hi => .inl (.inr (Kd.S_base hr i hi))))).set_ (p := ⟨s + 1, 0, none⟩) (.inl (.inl rfl)) _
    have hI : SpI xs k w2 (s + 1) (pre ++ [j]) (W3.setCell ⟨s + 1, 0, none⟩ (.slice B1 n1 d1)) := ⟨_, blk_set hv3 0 (.slice B1 n1 d1), by rw [List.map_append, List.map_singleton]; exact Kd.S_set hR3 hv3 (by decide) 0 (.slice B1 n1 d1), hf.trans hf3 (fun i hi => hi.elim .inl (fun h => .inr (by omega)))⟩
    have HF := Aside0.mk (And.intro hf3 hI)
    have hmk := fun W => make_u8 (P := Try.prog) 36 5 Try.underlying36 info5 k (by omega) W
    have HR3 := Aside0.mk hrun3
    have HS := Aside0.mk hs
    clear hf3 hI hrun3 hat3 hg3 hR3 hr2 hR2 hR1 hcol hBC hB hfw hb0 hr hf hv hv2 hv3 hf02 hf2 hml hj hs g0 g1 g2 g3 hz2
    gi_wp2_with (gi_at_builtin; refine wpListIn_append_run rfl _ _ _ _ rfl rfl rfl HR3.out ?_)
    exact HF.out
  · rintro ys W hF ⟨v, hv, hr, hf⟩ hK
    subst hF
    have c1 : W.cell? ⟨s + 1, 0, none⟩ = some v := cell_at hv rfl
    have hcl : (List.range (ncol len k)).map (colOf xs k) = splitL xs k := by unfold splitL; rw [HX.out]
    rw [hcl] at hr
    obtain ⟨B, d, rfl⟩ := Kd.S_slice hr
    rw [splitL_length, HX.out] at hr c1
    have hfw : Fr (fun _ => False) w W := (Fr.of_below hb2 _).trans hf (fun k hk => .inr (by omega))
    obtain ⟨D, hD⟩ : ∃ D, D = w2.heap.size := ⟨_, rfl⟩
    have HR := Aside0.mk hr
    have HF := Aside0.mk hfw
    have HZ := Aside0.mk hz2
    have HD := Aside0.mk hD
    rw [← hD] at hK ⊢
    clear hr hf hfw hz2 hv g0 g1 g2 g3 hcl
    subst hs
    gi_wp2
    refine ⟨by simp, .inl ⟨_, _, rfl, run_takeDeferred hK, ?_⟩⟩
    refine ⟨_, results_tmp rfl _ _ _, B, d, rfl, ?_, ?_⟩
    · have h1 := S_fr HR.out (fr_shut W D (.deferred none)) (fun i _ hi _ h => by have := HD.out; omega)
      exact Kd.S_lower (Kd.S_mono h1 (fun i hi => by have := HZ.out; omega)) (by have := HZ.out; omega)
    · exact HF.out.trans (fr_shut W D _) (fun i hi => .inr (by have := HZ.out; have := HD.out; omega))
theorem Split_zero (w : World) (v : Value) (k : Int) (hk : k < 1) : Calls Try.prog 37 #[v, .int .i64 k] w fun e w' => e = .returned (.slice none 0 0) ∧ Below w.heap.size w w' := by
  go_enter Try.func37, Try.ntmps37
  go_wp2
  go_ret
  exact ⟨rfl, below_alloc (Below.refl _ _) _⟩
end Go.Proofs.Ytpeiejkcoadhfaa
/- slices.Grow, Concat, Clip, ContainsFunc; stripe.Columns, Join. -/
namespace Go.Proofs.Ytpeiejkcoadhfaa
open Go.RowKit Go.Shelf Go.Proofs.YtpeiejkcoadhfaaW.PrintWords Go.Proofs.YtpeiejkcoadhfaaW.PrintMore

theorem nil_M (w : World) (base : Nat) : u8.M w base (fun _ => False) (0 : Int) (Value.cells (.int .u8 0)).toList := rfl
set_option maxRecDepth 100000 in
theorem Grow_any (w : World) (n : Nat) (hn : n ≤ 1099511627776) : Calls Try.prog 119 #[.slice none 0 0, .int .i64 n] w fun e w' => ∃ A c, e = .returned (.slice A 0 c) ∧ Kd.R u8 5 w' w.heap.size (fun _ => True) (.slice A 0 c) [] ∧ Below w.heap.size w w' := by
  have h0 : ¬ (n : Int) < 0 := by omega
  by_cases hz : n = 0
  · subst hz
    go_enter Try.func119, Try.ntmps119
    go_wp2
    go_ret
    exact ⟨none, 0, rfl, Kd.R_nil _ _ _ _ _, Below.refl _ _⟩
  · have h1 : 0 < (n : Int) := by omega
    obtain ⟨v1, w1, hrun, hR, hg, hat⟩ := Kd.R_zeros_run (P := Try.prog) u8 (W := w) w.heap.size 36 3 36 5 (.int .u8 0) 1 Try.underlying36 Try.underlying3 info5 rfl (by decide) (by omega) (.slice none 0 0) [] (0 : Int) (ok := fun _ => True) (nil_M w _) (fun _ _ => trivial) (Kd.R_nil _ _ _ _ _) .i64 (n : Int) (by omega) (by simp; omega) (Nat.le_refl _)
    rw [List.nil_append, Int.toNat_natCast] at hR
    obtain ⟨A, c, rfl⟩ := Kd.R_slice hR
    rw [List.length_replicate] at hR hrun
    obtain ⟨i5, hi5, _, hs5, _⟩ := info_parts info5
    have hle := (Kd.R_reads' hR).2.1
    have kt := to_run (P := Try.prog) 36 5 Try.underlying36 hi5 A n c 0 (by omega) hle
    have hR0 := Kd.R_take (m := 0) hR (by simp)
    rw [List.take_zero] at hR0
    have k0 : ∀ W : World, (Instr.slice 36 (.slice none 0 0) none (some (.int .i64 0)) none).run Try.prog W = .ok (.slice none 0 0) W := fun W => to_run (P := Try.prog) 36 5 Try.underlying36 hi5 none 0 0 0 (by omega) (by omega) W
    have HT := Aside0.mk (And.intro hR0 (show Below w.heap.size w w1 from ⟨hg.os, hg.tape, hg.output, hg.size, fun k hk => hg.block k hk (by simp [Value.ownBlock])⟩))
    have HR := Aside0.mk hrun
    clear hR hR0 hg hat hrun hi5 hs5 hle
    go_enter Try.func119, Try.ntmps119
    go_wp2_with (at_builtin; refine wpList_append_run rfl _ _ _ _ rfl rfl rfl HR.out ?_)
    go_ret
    exact ⟨A, c, rfl, HT.out.1, HT.out.2⟩

/-- Row j of rows that are read. -/
theorem row_at {w : World} {A : Option Addr} {n : Nat} {xss : List (List Int)} (h : Kd.C u8s w A n xss) (j : Nat) (hj : j < n) :
    ∃ ad A0 c0, A = some ad ∧ w.cell? (ad.add j) = some (.slice A0 (xss.getD j []).length c0) ∧ (xss.getD j []).length ≤ c0 ∧ Kd.C u8 w A0 (xss.getD j []).length (xss.getD j []) := by
  obtain ⟨ad, c, e, _, hK, hc0⟩ := Kd.C_get h ([] : List Int) (j : Int) (by omega) (by omega)
  rw [Int.toNat_natCast] at hK hc0
  obtain ⟨A0, c0, rfl, l0, g0⟩ := hK
  have h0 := hc0 0 _ rfl
  rw [show u8s.sz = 1 from rfl, Nat.mul_one, Nat.add_zero] at h0
  exact ⟨ad, A0, c0, e, h0, l0, g0⟩
theorem getD_get (xss : List (List Int)) (j : Nat) (h : j < xss.length) : xss[j]? = some (xss.getD j []) := by
  rw [List.getD_eq_getElem?_getD, List.getElem?_eq_getElem h]; rfl
theorem take_snoc_flat (xss : List (List Int)) (j : Nat) (h : j < xss.length) : (xss.take (j + 1)).flatten = (xss.take j).flatten ++ xss.getD j [] := by
  rw [List.take_add_one, getD_get xss j h]
  simp
theorem flat_le (xss : List (List Int)) (j : Nat) : (xss.take j).flatten.length ≤ xss.flatten.length := by
  have h : xss.flatten = (xss.take j).flatten ++ (xss.drop j).flatten := by rw [← List.flatten_append, List.take_append_drop]
  rw [h, List.length_append]
  omega
theorem add_zero' (p : Addr) : p.add 0 = p := by
  cases p
  unfold Addr.add
  split <;> simp_all
theorem Clip_any (w : World) (A : Option Addr) (n c : Nat) (hc : n ≤ c) : Calls Try.prog 80 #[.slice A n c] w fun e w' => e = .returned (.slice A n n) ∧ w = w' := by
  obtain ⟨i5, hi5, _, hs5, _⟩ := info_parts info5
  have hel : Try.prog.elem 36 = 5 := by simp [Program.elem, Try.underlying36]
  have hu : Try.prog.underlying 36 = some (.slice (Try.prog.elem 36)) := by rw [hel]; exact Try.underlying36
  have hk : ∀ W : World, (Instr.slice 36 (.slice A n c) none (some (.int .i64 (n : Int))) (some (.int .i64 (n : Int)))).run Try.prog W = .ok (.slice A n n) W := fun W => by
    rw [run_slice_hm W 36 A n c hu .i64 .i64 (n : Int) (n : Int) (by omega) (by omega) (by omega), hel]
    simp [sizeOf, typeInfo, hi5, hs5, sliced, Result.andThen]
    intro _
    cases A with
    | none => rfl
    | some p => simp [add_zero']
  clear hi5 hs5 hel hu
  go_enter Try.func80, Try.ntmps80
  go_wp2
  go_ret
  exact ⟨rfl, rfl⟩

theorem sum_len (xss : List (List Int)) (j : Nat) (h : j < xss.length) : (xss.take (j + 1)).flatten.length = (xss.take j).flatten.length + (xss.getD j []).length := by rw [take_snoc_flat xss j h, List.length_append]
set_option maxRecDepth 100000 in
set_option maxHeartbeats 1000000 in
/-- slices.Concat: new memory. -/
theorem Concat_any (w : World) (A : Option Addr) (n c : Nat) (xss : List (List Int)) (hC : Kd.C u8s w A n xss) (hc : n ≤ c) (ht : xss.flatten.length ≤ 1099511627776) :
    Calls Try.prog 79 #[.slice A n c] w fun e w' => ∃ B d, e = .returned (.slice B xss.flatten.length d) ∧ Kd.R u8 5 w' w.heap.size (fun _ => True) (.slice B xss.flatten.length d) xss.flatten ∧ Below w.heap.size w w' := by
  have hnl := Kd.C_len hC
  have hnm := Kd.C_max hC
  have HC := Aside0.mk hC
  have HN := Aside0.mk hnl
  have HT := Aside0.mk ht
  have HG := Aside0.mk Grow_any
  clear hC hnl ht
  go_enter Try.func79, Try.ntmps79
  go_wp2
  go_loop [3, 11] (fun v3 v11 => ∃ (k t : Nat), k ≤ n ∧ v11 = .int .i64 k ∧ v3 = .int .i64 t ∧ Aside0 (t = (xss.take k).flatten.length) ∧ t ≤ 1099511627776) (fun _ v11 => n - (intOf v11).toNat)
  case atStart => exact ⟨0, 0, by omega, rfl, rfl, ⟨by simp⟩, by omega⟩
  case round =>
    obtain ⟨k, t, hk, rfl, rfl, HK, ht⟩ := hrel
    by_cases hlt : k < n
    · obtain ⟨ad, A0, c0, rfl, hx, hl0, hC0⟩ := row_at HC.out k hlt
      have HS := Aside0.mk (sum_len xss k (by rw [HN.out]; exact hlt))
      obtain ⟨m, hm⟩ : ∃ m, m = (xss.getD k []).length := ⟨_, rfl⟩
      have htm : t + m ≤ 1099511627776 := by
        have h1 := HS.out
        have h2 := flat_le xss (k + 1)
        have h3 := HT.out
        have h4 := HK.out
        omega
      rw [← hm] at hx
      have HM := Aside0.mk hm
      clear hm hC0 hl0
      go_wp2
      go_round
      case rel => exact ⟨k + 1, t + m, by omega, by go_num, by go_num, ⟨by rw [HS.out, ← HK.out, ← HM.out]⟩, htm⟩
      case measure => simp [intOf]; omega
    · obtain rfl : k = n := by omega
      go_wp2_with (go_at_call 119; refine (HG.out _ t ht).mono ?_; rintro e w1 ⟨B, d, rfl, hR, hb⟩)
      have HR := Aside0.mk hR
      have HB := Aside0.mk hb
      clear hR hb
      go_loopw [6, 27] (fun v6 v27 wr => ∃ (j m : Nat) (B : Option Addr) (d : Nat), j ≤ k ∧ v27 = .int .i64 j ∧ v6 = .slice B m d ∧ m ≤ 1099511627776 ∧ Aside0 (m = (xss.take j).flatten.length) ∧ Aside0 (Kd.R u8 5 wr w.heap.size (fun _ => True) (.slice B m d) (xss.take j).flatten) ∧ Aside0 (Below w.heap.size w wr)) (fun _ v27 _ => k - (intOf v27).toNat)
      case atStart => exact ⟨0, 0, B, d, by omega, rfl, rfl, by omega, ⟨by simp⟩, ⟨by simpa using HR.out⟩, HB⟩
      case round =>
        clear HR HB
        obtain ⟨j, m, B, d, hj, rfl, rfl, hm, HM, HR, HB⟩ := hrel
        by_cases hlt2 : j < k
        · have hs1 := sum_len xss j (by rw [HN.out]; exact hlt2)
          obtain ⟨ad, A0, c0, rfl, hx, hl0, hC0⟩ := row_at (Kd.C_below HC.out HB.out) j hlt2
          have hm2 : m + (xss.getD j []).length ≤ 1099511627776 := by
            have h1 := flat_le xss (j + 1)
            have h3 := HT.out
            have h4 := HM.out
            omega
          have hml := HM.out
          obtain ⟨v', W', hrun, hq, hg, hat⟩ := R_append_row (P := Try.prog) (Value.int .u8) (0 : Int) wr w.heap.size 36 36 5 _ 1 Try.underlying36 info5 rfl (c := c0) HR.out hC0 (by rw [← hml]; omega) (by omega) HB.out.size (fun _ _ => trivial)
          rw [← take_snoc_flat xss j (by rw [HN.out]; exact hlt2)] at hq
          obtain ⟨B', d', rfl⟩ := Kd.R_slice hq
          rw [hs1, ← hml] at hq hrun
          have hbl := HB.out.grown hg HB.out.size (fun i hi => Kd.R_base HR.out i hi)
          generalize (xss.getD j []).length = q at *
          have HR' := Aside0.mk hrun
          have HT' := Aside0.mk (And.intro hs1 (And.intro hq hbl))
          have HM' := Aside0.mk hml
          clear hrun hs1 hq hbl hat hg hC0 hml hl0
          go_wp2_with (at_builtin; refine wpList_append_run rfl _ _ _ _ rfl rfl rfl HR'.out ?_)
          go_roundw
          case rel => exact ⟨j + 1, m + q, B', d', by omega, by go_num, rfl, hm2, ⟨by rw [HT'.out.1, ← HM'.out]⟩, ⟨HT'.out.2.1⟩, ⟨HT'.out.2.2⟩⟩
          case measure => simp [intOf]; omega
        · obtain rfl : j = k := by omega
          go_wp2
          go_ret
          have e : (xss.take j) = xss := List.take_of_length_le (by rw [HN.out]; exact Nat.le_refl _)
          have h1 := HM.out
          have h2 := HR.out
          rw [e] at h1 h2
          subst h1
          exact ⟨B, d, rfl, h2, HB.out⟩
end Go.Proofs.Ytpeiejkcoadhfaa
/- slices.ContainsFunc at Join's closure; stripe.Columns, Join. -/
namespace Go.Proofs.Ytpeiejkcoadhfaa
open Go.RowKit Go.Shelf Go.Proofs.YtpeiejkcoadhfaaW.PrintWords Go.Proofs.YtpeiejkcoadhfaaW.PrintMore

theorem lenNe_any (w : World) (A : Option Addr) (n c g : Nat) (K : Int) (hg : w.cell? ⟨g, 0, none⟩ = some (.int .i64 K)) :
    Calls Try.prog 78 #[.slice A n c, .pointer (some ⟨g, 0, none⟩)] w fun e w' => e = .returned (.bool ((n : Int) != K)) ∧ w = w' := by
  go_enter Try.func78, Try.ntmps78
  go_wp2
  go_ret
  exact ⟨rfl, rfl⟩
/-- An index, or -1. -/
def IdxIs (b : Bool) (w : World) (e : Ending) (w' : World) : Prop := ∃ r : Int, (decide (0 ≤ r) = b) ∧ e = .returned (.int .i64 r) ∧ w = w'
def anyNe (xss : List (List Int)) (K : Int) : Bool := xss.any fun c => (c.length : Int) != K
theorem anyNe_at (xss : List (List Int)) (K : Int) (j : Nat) (h : j < xss.length) (hne : (((xss.getD j []).length : Int) != K) = true) : anyNe xss K = true := by
  unfold anyNe
  rw [List.any_eq_true]
  refine ⟨xss.getD j [], ?_, hne⟩
  exact List.mem_of_getElem? (getD_get xss j h)
theorem anyNe_no (xss : List (List Int)) (K : Int) (h : ∀ i, i < xss.length → (((xss.getD i []).length : Int) != K) = false) : anyNe xss K = false := by
  unfold anyNe
  rw [List.any_eq_false]
  intro x hx
  obtain ⟨i, hi⟩ := List.getElem?_of_mem hx
  have hlt := (List.getElem?_eq_some_iff.1 hi).1
  have h1 := h i hlt
  rw [getD_get xss i hlt] at hi
  injection hi with hi
  rw [← hi, h1]
  simp
set_option maxRecDepth 100000 in
theorem IndexFunc_any (w : World) (A : Option Addr) (n c g : Nat) (K : Int) (xss : List (List Int)) (hC : Kd.C u8s w A n xss) (hc : n ≤ c) (hg : w.cell? ⟨g, 0, none⟩ = some (.int .i64 K)) :
    Calls Try.prog 118 #[.slice A n c, .func (.func 78) #[] #[.pointer (some ⟨g, 0, none⟩)]] w (IdxIs (anyNe xss K) w) := by
  have hnl := Kd.C_len hC
  have hnm := Kd.C_max hC
  have HC := Aside0.mk hC
  have HN := Aside0.mk hnl
  have HG := Aside0.mk hg
  clear hC hnl hg
  go_enter Try.func118, Try.ntmps118
  go_wp2
  go_loop [8] (fun v8 => ∃ (j : Nat), j ≤ n ∧ v8 = .int .i64 j ∧ Aside0 (∀ i, i < j → (((xss.getD i []).length : Int) != K) = false)) (fun v8 => n - (intOf v8).toNat)
  case atStart => exact ⟨0, by omega, rfl, ⟨fun i h => absurd h (by omega)⟩⟩
  case round =>
    obtain ⟨j, hj, rfl, HJ⟩ := hrel
    by_cases hlt : j < n
    · obtain ⟨ad, A0, c0, rfl, hx, hl0, hC0⟩ := row_at HC.out j hlt
      have HCl := Aside0.mk (lenNe_any w A0 (xss.getD j []).length c0 g K HG.out)
      have HA := Aside0.mk (anyNe_at xss K j (by rw [HN.out]; exact hlt))
      have HJ2 : Aside0 ((((xss.getD j []).length : Int) != K) = false → ∀ i, i < j + 1 → (((xss.getD i []).length : Int) != K) = false) := ⟨fun h i hi => by
        rcases Nat.lt_or_ge i j with h1 | h1
        · exact HJ.out i h1
        · obtain rfl : i = j := by omega
          exact h⟩
      clear HJ hC0 hl0
      obtain ⟨m, hm⟩ : ∃ m, m = (xss.getD j []).length := ⟨_, rfl⟩
      rw [← hm] at HCl HA HJ2 hx
      clear hm
      obtain ⟨b, hb⟩ : ∃ b, b = ((m : Int) != K) := ⟨_, rfl⟩
      rw [← hb] at HCl HA HJ2
      clear hb
      cases b with
      | true =>
        go_wp2_with (go_at_call 78; refine HCl.out.mono ?_; rintro e w1 ⟨rfl, rfl⟩)
        go_ret
        exact ⟨j, by rw [HA.out trivial]; exact decide_eq_true (by omega), rfl, rfl⟩
      | false =>
        go_wp2_with (go_at_call 78; refine HCl.out.mono ?_; rintro e w1 ⟨rfl, rfl⟩)
        go_round
        case rel => exact ⟨j + 1, by omega, by go_num, ⟨HJ2.out trivial⟩⟩
        case measure => simp [intOf]; omega
    · obtain rfl : j = n := by omega
      go_wp2
      go_ret
      exact ⟨-1, by rw [anyNe_no xss K (by rw [HN.out]; exact HJ.out)]; rfl, rfl, rfl⟩
set_option maxRecDepth 100000 in
theorem ContainsFunc_any (w : World) (A : Option Addr) (n c g : Nat) (K : Int) (xss : List (List Int)) (hC : Kd.C u8s w A n xss) (hc : n ≤ c) (hg : w.cell? ⟨g, 0, none⟩ = some (.int .i64 K)) :
    Calls Try.prog 77 #[.slice A n c, .func (.func 78) #[] #[.pointer (some ⟨g, 0, none⟩)]] w fun e w' => e = .returned (.bool (anyNe xss K)) ∧ w = w' := by
  have HI := Aside0.mk (IndexFunc_any w A n c g K xss hC hc hg)
  clear hC hg
  go_enter Try.func77, Try.ntmps77
  go_wp2_with (go_at_call 118; refine HI.out.mono ?_; rintro e w1 ⟨r, hr, rfl, rfl⟩)
  go_ret
  exact ⟨rfl, rfl⟩
/-- How many columns, as an int. -/
def colsI (size k : Int) : Int := if size < 0 ∨ k < 1 then 0 else (ncol size.toNat k.toNat : Nat)
theorem ncol_div (a b : Nat) (hb : 0 < b) : ncol a b = a / b + (if 0 < a % b then 1 else 0) := by
  unfold ncol
  have h1 := Nat.div_add_mod a b
  have h2 := Nat.mod_lt a hb
  split
  · rename_i h
    have e : a + b - 1 = (a % b - 1) + b * (a / b + 1) := by rw [Nat.mul_add, Nat.mul_one]; omega
    rw [e, Nat.add_mul_div_left _ _ hb, Nat.div_eq_of_lt (by omega)]
    omega
  · rename_i h
    have e : a + b - 1 = (b - 1) + b * (a / b) := by omega
    rw [e, Nat.add_mul_div_left _ _ hb, Nat.div_eq_of_lt (by omega)]
    omega

theorem Columns_no (w : World) (size k : Int) (h : size < 0 ∨ k < 1) : Calls Try.prog 38 #[.int .i64 size, .int .i64 k] w fun e w' => e = .returned (.int .i64 0) ∧ w = w' := by
  by_cases h1 : size < 0
  · go_enter Try.func38, Try.ntmps38
    go_wp2
    go_ret
    exact ⟨rfl, rfl⟩
  · have h2 : k < 1 := h.resolve_left h1
    go_enter Try.func38, Try.ntmps38
    go_wp2
    go_ret
    exact ⟨rfl, rfl⟩
theorem Columns_yes (w : World) (a b : Nat) (hb : 0 < b) (ha : a ≤ 9223372036854775807) : Calls Try.prog 38 #[.int .i64 a, .int .i64 b] w fun e w' => e = .returned (.int .i64 (ncol a b : Nat)) ∧ w = w' := by
  have h1 : ¬ (a : Int) < 0 := by omega
  have h2 : ¬ (b : Int) < 1 := by omega
  have hd := ncol_div a b hb
  have hq : (a / b : Nat) ≤ 9223372036854775807 := Nat.le_trans (Nat.div_le_self _ _) ha
  have hq0 : (0 : Int) ≤ (a : Int) / (b : Int) := Int.ediv_nonneg (by omega) (by omega)
  have hq4 : (a : Int) / (b : Int) ≤ 9223372036854775807 := by
    have : ((a / b : Nat) : Int) = (a : Int) / (b : Int) := Int.natCast_ediv a b
    omega
  by_cases hm : 0 < a % b
  · rw [if_pos hm] at hd
    have hmI : (0 : Int) < (a : Int) % (b : Int) := by omega
    have hq2 : (a / b : Nat) + 1 ≤ 9223372036854775807 := by
      rcases Nat.lt_or_ge 1 b with h | h
      · have : a / b ≤ a / 2 := Nat.div_le_div_left (show 2 ≤ b from h) (by omega)
        omega
      · obtain rfl : b = 1 := by omega
        rw [Nat.mod_one] at hm; omega
    have hq3 : (a : Int) / (b : Int) + 1 ≤ 9223372036854775807 := by
      have : ((a / b : Nat) : Int) = (a : Int) / (b : Int) := Int.natCast_ediv a b
      omega
    have HD := Aside0.mk hd
    clear hd hm hq hq2
    go_enter Try.func38, Try.ntmps38
    go_wp2
    go_ret
    exact ⟨by rw [HD.out]; rfl, rfl⟩
  · rw [if_neg hm] at hd
    have hmI : ¬ (0 : Int) < (a : Int) % (b : Int) := by omega
    have HD := Aside0.mk hd
    clear hd hm hq
    go_enter Try.func38, Try.ntmps38
    go_wp2
    go_ret
    exact ⟨by rw [HD.out]; rfl, rfl⟩
end Go.Proofs.Ytpeiejkcoadhfaa
/- stripe.Join. -/
namespace Go.Proofs.Ytpeiejkcoadhfaa
open Go.RowKit Go.Shelf Go.Proofs.YtpeiejkcoadhfaaW.PrintWords Go.Proofs.YtpeiejkcoadhfaaW.PrintMore

theorem Join_arg (w : World) (v : Value) (A : Option Addr) (n c : Nat) (hv : v = .slice A n c) (size k : Int) (h : size < 0 ∨ k < 1) :
    Calls Try.prog 39 #[v, .int .i64 size, .int .i64 k] w fun e w' => e = .returned (.tuple #[.slice none 0 0, .bool false]) ∧ Below w.heap.size w w' := by
  by_cases h1 : size < 0
  · go_enter Try.func39, Try.ntmps39
    go_wp2
    go_ret2
    exact ⟨rfl, below_alloc (Below.refl _ _) _⟩
  · have h2 : k < 1 := h.resolve_left h1
    go_enter Try.func39, Try.ntmps39
    go_wp2
    go_ret2
    exact ⟨rfl, below_alloc (Below.refl _ _) _⟩
theorem Join_count (w : World) (A : Option Addr) (n c : Nat) (a b : Nat) (hb : 0 < b) (ha : a ≤ 9223372036854775807) (h : n ≠ ncol a b) :
    Calls Try.prog 39 #[.slice A n c, .int .i64 a, .int .i64 b] w fun e w' => e = .returned (.tuple #[.slice none 0 0, .bool false]) ∧ Below w.heap.size w w' := by
  have h1 : ¬ (a : Int) < 0 := by omega
  have h2 : ¬ (b : Int) < 1 := by omega
  have HC := Aside0.mk (fun w => Columns_yes w a b hb ha)
  obtain ⟨m, hm⟩ : ∃ m, m = ncol a b := ⟨_, rfl⟩
  rw [← hm] at HC h
  clear hm
  have h3 : ((n : Int) != (m : Int)) = true := by simp; omega
  have h4 : (n != m) = true := by simp; omega
  go_enter Try.func39, Try.ntmps39
  go_wp2_with (go_at_call 38; refine (HC.out _).mono ?_; rintro e w1 ⟨rfl, rfl⟩)
  go_ret2
  exact ⟨rfl, below_alloc (Below.refl _ _) _⟩
theorem Join_len (w : World) (A : Option Addr) (n c : Nat) (xss : List (List Int)) (hC : Kd.C u8s w A n xss) (hc : n ≤ c) (a b : Nat) (hb : 0 < b) (ha : a ≤ 9223372036854775807) (h : n = ncol a b) (hne : anyNe xss b = true) :
    Calls Try.prog 39 #[.slice A n c, .int .i64 a, .int .i64 b] w fun e w' => e = .returned (.tuple #[.slice none 0 0, .bool false]) ∧ Below w.heap.size w w' := by
  have hnm := Kd.C_max hC
  have h1 : ¬ (a : Int) < 0 := by omega
  have h2 : ¬ (b : Int) < 1 := by omega
  have HC := Aside0.mk (fun w => Columns_yes w a b hb ha)
  have HF := Aside0.mk (ContainsFunc_any (w.alloc (.cells #[.int .i64 b] 3)) A n c w.heap.size b xss (Kd.C_alloc hC _) hc (cell_at (blk_new w _) rfl))
  rw [hne] at HF
  rw [← h] at HC
  clear h hC hne
  go_enter Try.func39, Try.ntmps39
  go_wp2_with (first | (go_at_call 38; refine (HC.out _).mono ?_; rintro e w1 ⟨rfl, rfl⟩) | (go_at_call 77; refine HF.out.mono ?_; rintro e w1 ⟨rfl, rfl⟩))
  go_ret2
  exact ⟨rfl, below_alloc (Below.refl _ _) _⟩
/-- A slice that is read, its block new from base on. -/
def Rd (w : World) (base : Nat) (B : Option Addr) (n : Nat) (xs : List Int) : Prop := Kd.C u8 w B n xs ∧ ∀ k, OB B k → base ≤ k
theorem Join_yes (w : World) (A : Option Addr) (n c : Nat) (xss : List (List Int)) (hC : Kd.C u8s w A n xss) (hc : n ≤ c) (a b : Nat) (hb : 0 < b) (ha : a ≤ 9223372036854775807) (h : n = ncol a b) (hne : anyNe xss b = false) (ht : xss.flatten.length ≤ 1099511627776) (hat : a ≤ xss.flatten.length) :
    Calls Try.prog 39 #[.slice A n c, .int .i64 a, .int .i64 b] w fun e w' => ∃ B, e = .returned (.tuple #[.slice B a a, .bool true]) ∧ Rd w' w.heap.size B a (xss.flatten.take a) ∧ Below w.heap.size w w' := by
  have hnm := Kd.C_max hC
  have h1 : ¬ (a : Int) < 0 := by omega
  have h2 : ¬ (b : Int) < 1 := by omega
  have HC := Aside0.mk (fun w => Columns_yes w a b hb ha)
  have HF := Aside0.mk (ContainsFunc_any (w.alloc (.cells #[.int .i64 b] 3)) A n c w.heap.size b xss (Kd.C_alloc hC _) hc (cell_at (blk_new w _) rfl))
  have HO := Aside0.mk (Concat_any (w.alloc (.cells #[.int .i64 b] 3)) A n c xss (Kd.C_alloc hC _) hc ht)
  rw [hne] at HF
  rw [← h] at HC
  have HT := Aside0.mk (And.intro hat ht)
  obtain ⟨m, hm⟩ : ∃ m, m = xss.flatten.length := ⟨_, rfl⟩
  rw [← hm] at HO HT
  have HM := Aside0.mk hm
  have HN := Aside0.mk h
  clear h hC hne hm ht hat
  go_enter Try.func39, Try.ntmps39
  go_wp2_with (first | (go_at_call 38; refine (HC.out _).mono ?_; rintro e w1 ⟨rfl, rfl⟩) | (go_at_call 77; refine HF.out.mono ?_; rintro e w1 ⟨rfl, rfl⟩))
  refine HO.out.mono ?_
  rintro e w1 ⟨B, d, rfl, hR, hb1⟩
  obtain ⟨i5, hi5, _, hs5, _⟩ := info_parts info5
  have hmd := (Kd.R_reads' hR).2.1
  have kt := to_run (P := Try.prog) 36 5 Try.underlying36 hi5 B m d a HT.out.1 hmd
  have HR := Aside0.mk hR
  have HB := Aside0.mk hb1
  have had : a ≤ d := by have := HT.out.1; omega
  have ham : (a : Int) ≤ (m : Int) := by have := HT.out.1; omega
  clear hR hb1 hi5 hs5
  go_wp2_with (go_at_call 80; refine (Clip_any _ _ _ _ had).mono ?_; rintro e w1 ⟨rfl, rfl⟩)
  go_ret2
  refine ⟨B, rfl, ⟨to_C (0 : Int) a (by rw [HM.out]; exact R_C (HM.out ▸ HR.out)) HT.out.1, fun k hk => ?_⟩, ?_⟩
  · have := (ob_base (Kd.Q_of_R HR.out) k hk).1
    simp at this
    omega
  · exact (below_alloc (Below.refl _ _) _).trans (HB.out.mono (by simp))
end Go.Proofs.Ytpeiejkcoadhfaa
/- The reference's columns; the law's comparison. -/
namespace Go.Proofs.Ytpeiejkcoadhfaa
open Go.RowKit Go.Shelf Go.Proofs.YtpeiejkcoadhfaaW.PrintWords Go.Proofs.YtpeiejkcoadhfaaW.PrintMore

theorem wr64 (x : Int) (h0 : 0 ≤ x) (h : x ≤ 9223372036854775807) : wrap64 x = x := by
  unfold wrap64
  omega
theorem wr_add (a b : Nat) (h : a + b ≤ 9223372036854775807) : wrap64 ((a : Int) + (b : Int)) = ((a + b : Nat) : Int) := by
  rw [wr64 _ (by omega) (by omega)]; omega
theorem wr_succ (a : Nat) (h : a + 1 ≤ 9223372036854775807) : wrap64 ((a : Int) + 1) = ((a + 1 : Nat) : Int) := by
  rw [wr64 _ (by omega) (by omega)]; omega
section
open PDealSecret
theorem rsplit_in (xs ys col : List Int) (k p p' n : Nat) (hk2 : k ≤ 255) (hn : xs.length = n) (hl : n ≤ 1099511627776) (out : List (List Int)) (ho : out.length < 5864062014805) (r : List (List Int)) (hp' : p' = p + k) (hpl : p < n)
    (hr : Ev (fun q => shamrockref06_Split.l0 q xs (k : Int) (out ++ [col]) (p' : Int)) r)
    (hcol : col = ys.take ys.length ++ List.replicate (k - ys.length) 0) (h1 : ys.length ≤ k) (h2 : ys.length < k → p + ys.length = n) (h3 : p + ys.length ≤ n)
    (hrd : ∀ i, i < ys.length → rd xs ((p + i : Nat) : Int) = ys.getD i 0) (d : Nat) :
    ∀ i, i ≤ ys.length → ys.length - i = d →
      Ev (fun q => shamrockref06_Split.l1 q xs (k : Int) out (p : Int) (ys.take i ++ List.replicate (k - i) 0) (i : Int)) r := by
  have hnext : Aside0 (wrap64 ((p : Int) + (k : Int)) = (p' : Int)) := ⟨by rw [hp']; exact wr_add p k (by omega)⟩
  induction d with
  | zero =>
    intro i hi hd
    obtain rfl : i = ys.length := by omega
    rw [← hcol]
    refine Ev.step (f := fun q => shamrockref06_Split.l0 q xs (k : Int) (out ++ [col]) (p' : Int)) (fun q => ?_) hr
    simp only [shamrockref06_Split.l1]
    generalize ys.length = m at *
    by_cases h : m < k
    · have h4 := h2 h
      rw [if_pos (by omega), wr_add p m (by omega), if_neg (by omega), if_pos ho, hnext.out]
    · rw [if_neg (by omega), if_pos ho, hnext.out]
  | succ d ih =>
    intro i hi hd
    have hset : (ys.take i ++ List.replicate (k - i) (0 : Int)).set i (ys.getD i 0) = ys.take (i + 1) ++ List.replicate (k - (i + 1)) 0 := by
      rw [List.set_append_right _ _ (by rw [List.length_take]; omega), List.length_take, Nat.min_eq_left hi, Nat.sub_self]
      obtain ⟨m, hm⟩ : ∃ m, k - i = m + 1 := ⟨k - i - 1, by omega⟩
      have hlt : i < ys.length := by omega
      rw [hm, List.replicate_succ, List.set_cons_zero, List.take_succ_eq_append_getElem hlt, show k - (i + 1) = m by omega, List.getD_eq_getElem?_getD, List.getElem?_eq_getElem hlt, List.append_assoc]
      rfl
    have hlen : (ys.take i ++ List.replicate (k - i) (0 : Int)).length = k := by rw [List.length_append, List.length_replicate, List.length_take]; omega
    refine Ev.step (f := fun q => shamrockref06_Split.l1 q xs (k : Int) out (p : Int) (ys.take (i + 1) ++ List.replicate (k - (i + 1)) 0) ((i + 1 : Nat) : Int)) (fun q => ?_) (ih (i + 1) (by omega) (by omega))
    have hilt : i < ys.length := by omega
    have hrd1 := hrd i hilt
    clear ih hr hrd hcol ho
    rw [← hset]
    generalize ys.take i ++ List.replicate (k - i) (0 : Int) = cur at *
    generalize ys.getD i 0 = y at *
    generalize ys.length = m at *
    clear hset
    have HRD := Aside0.mk hrd1
    clear hrd1
    simp only [shamrockref06_Split.l1]
    rw [if_pos (by omega), wr_add p i (by omega), if_pos (by omega), if_pos (by omega), if_pos (by omega), if_pos (by omega), wr_succ i (by omega), HRD.out, Int.toNat_natCast]
theorem rsplit_inner (xs : List Int) (k j : Nat) (hk : 0 < k) (hk2 : k ≤ 255) (hl : xs.length ≤ 1099511627776) (hj : j * k < xs.length) (out : List (List Int)) (ho : out.length = j) (r : List (List Int))
    (hr : Ev (fun q => shamrockref06_Split.l0 q xs (k : Int) (out ++ [colOf xs k j]) (((j + 1) * k : Nat) : Int)) r) :
      Ev (fun q => shamrockref06_Split.l1 q xs (k : Int) out ((j * k : Nat) : Int) (List.replicate k 0) (0 : Int)) r := by
  have hjl : j < 5864062014805 := by
    have := Nat.le_mul_of_pos_right j hk
    omega
  have hcol : colOf xs k j = ((xs.drop (j * k)).take k).take ((xs.drop (j * k)).take k).length ++ List.replicate (k - ((xs.drop (j * k)).take k).length) 0 := by
    rw [List.take_length]; rfl
  have hlen : ((xs.drop (j * k)).take k).length = min k (xs.length - j * k) := by rw [List.length_take, List.length_drop]
  have := rsplit_in xs ((xs.drop (j * k)).take k) _ k (j * k) ((j + 1) * k) xs.length hk2 rfl hl out (by rw [ho]; exact hjl) r (by rw [Nat.add_mul, Nat.one_mul]) hj hr hcol (by omega) (by omega) (by omega) (fun i hi => by
    unfold rd
    rw [Int.toNat_natCast, List.getD_eq_getElem?_getD, List.getD_eq_getElem?_getD, List.getElem?_take, if_pos (by omega), List.getElem?_drop]) _ 0 (by omega) rfl
  simpa using this
theorem rsplit_outer (xs : List Int) (k : Nat) (hk : 0 < k) (hk2 : k ≤ 255) (hl : xs.length ≤ 1099511627776) (d : Nat) :
    ∀ j, j ≤ ncol xs.length k → ncol xs.length k - j = d → Ev (fun q => shamrockref06_Split.l0 q xs (k : Int) ((List.range j).map (colOf xs k)) ((j * k : Nat) : Int)) (splitL xs k) := by
  induction d with
  | zero =>
    intro j hj hd
    obtain rfl : j = ncol xs.length k := by omega
    have hge : ¬ ncol xs.length k * k < xs.length := fun h => by have := (lt_ncol _ _ _ hk).2 h; omega
    refine Ev.step (f := fun _ => some (splitL xs k)) (fun q => ?_) (Ev.now _)
    simp only [shamrockref06_Split.l0]
    rw [if_neg (by omega)]
    rfl
  | succ d ih =>
    intro j hj hd
    have hlt := (lt_ncol j _ _ hk).1 (show j < ncol xs.length k by omega)
    have h1 := ih (j + 1) (by omega) (by omega)
    rw [List.range_succ, List.map_append, List.map_singleton] at h1
    have h2 := rsplit_inner xs k j hk hk2 hl hlt ((List.range j).map (colOf xs k)) (by simp) _ h1
    refine Ev.step (fun q => ?_) h2
    simp only [shamrockref06_Split.l0]
    rw [if_pos (by omega), if_pos (by omega), if_pos (by omega)]
    simp
theorem rsplit_f (xs : List Int) (k : Nat) (hk : 0 < k) (hk2 : k ≤ 255) (hl : xs.length ≤ 1099511627776) : ∃ q, shamrockref06_Split.f q xs (k : Int) = some (splitL xs k) := by
  have h := rsplit_outer xs k hk hk2 hl _ 0 (by omega) rfl
  obtain ⟨q, hq⟩ := h.rounds
  refine ⟨q, ?_⟩
  unfold shamrockref06_Split.f
  simpa using hq
end

set_option maxRecDepth 100000 in
set_option maxHeartbeats 800000 in
theorem same_yes (w : World) (A0 A1 : Option Addr) (n c0 c1 : Nat) (l : List (List Int)) (h0 : Kd.C u8s w A0 n l) (h1 : Kd.C u8s w A1 n l) :
    Calls Try.prog 40 #[.slice A0 n c0, .slice A1 n c1] w fun e w' => e = .returned (.bool true) ∧ Drawn0 w w' := by
  have hnm := Kd.C_max h0
  have H0 := Aside0.mk h0
  have H1 := Aside0.mk h1
  clear h0 h1
  go_enter Try.func40, Try.ntmps40
  go_wp2
  go_loopw [5] (fun v5 wr => ∃ (j : Nat), j ≤ n ∧ v5 = .int .i64 j ∧ Drawn0 w wr) (fun v5 _ => n - (intOf v5).toNat)
  case atStart => exact ⟨0, by omega, rfl, Drawn0.refl _⟩
  case round =>
    obtain ⟨j, hj, rfl, ⟨m1, rfl⟩⟩ := hrel
    by_cases hlt : j < n
    · obtain ⟨ad, B0, d0, rfl, hx0, hl0, hC0⟩ := row_at H0.out j hlt
      obtain ⟨ad1, B1, d1, rfl, hx1, hl1, hC1⟩ := row_at H1.out j hlt
      generalize l.getD j [] = x at *
      have q0 := fun m => Kd.C_string (P := Try.prog) (c := d0) Try.underlying36 Try.underlying5 Try.underlying9 (C_drewN hC0 m)
      have q1 := fun m => Kd.C_string (P := Try.prog) (c := d1) Try.underlying36 Try.underlying5 Try.underlying9 (C_drewN hC1 m)
      clear hC0 hC1 hl0 hl1
      go_wp2
      go_quiet (fail)
      go_wp2
      go_roundw
      case rel => exact ⟨j + 1, by omega, by go_num, by repeat (first | exact Drawn0.refl _ | apply Drawn0.step)⟩
      case measure => simp [intOf]; omega
    · go_wp2
      go_ret
      exact ⟨rfl, by repeat (first | exact Drawn0.refl _ | apply Drawn0.step)⟩
end Go.Proofs.Ytpeiejkcoadhfaa
/- The answers of layer 9; the law of counts. -/
namespace Go.Proofs.Ytpeiejkcoadhfaa
open Go.RowKit Go.Shelf Go.Proofs.YtpeiejkcoadhfaaW.PrintWords Go.Proofs.YtpeiejkcoadhfaaW.PrintMore

theorem u8_nt {a : Int} (h : (Lit.int .u8 a).wf = true) : ∃ n : Nat, a = (n : Int) ∧ n < 256 := by
  have h1 : 0 ≤ a ∧ a ≤ 255 := by simpa [Lit.wf, IntKind.min, IntKind.max, IntKind.signed, IntKind.bits] using h
  exact ⟨a.toNat, by omega, by omega⟩
theorem i64_bd {a : Int} (h : (Lit.int .i64 a).wf = true) : -9223372036854775808 ≤ a ∧ a ≤ 9223372036854775807 := by
  simpa [Lit.wf, IntKind.min, IntKind.max, IntKind.signed, IntKind.bits] using h
theorem C_lit (W : World) (xs : List Int) (hn : xs.length ≤ 1000) : Kd.C u8 (W.alloc (.cells (nums .u8 xs).toArray 5)) (some ⟨W.heap.size, 0, none⟩) xs.length xs := by
  refine Kd.C_of_reads (d := (0 : Int)) ⟨rfl, by omega, fun _ => ⟨_, rfl, fun j hj => ?_⟩⟩
  rw [add_plain, blk_cell (blk_new _ _)]
  simp [nums, List.getElem?_eq_getElem hj]
theorem add_lit (ad : Addr) (j : Nat) (h : 0 < j) : ad.add j = ⟨ad.block, ad.off + j, none⟩ := by
  have h1 := add_field ad 0 j h
  rw [add_zero', Nat.zero_add] at h1
  exact h1
set_option maxRecDepth 100000 in
set_option maxHeartbeats 800000 in
theorem answers09 (w : World) : Calls Try.prog 36 #[] w fun e w' => e = .returned (.bool true) ∧ Below w.heap.size w w' := by
  have hC := C_lit w [1, 2, 3] (by decide)
  have c1 : Calls Try.prog 37 #[.slice (some ⟨w.heap.size, 0, none⟩) 3 3, .int .i64 2] (w.alloc (.cells #[.int .u8 1, .int .u8 2, .int .u8 3] 5)) fun e w' => ∃ B d, e = .returned (.slice B 2 d) ∧ (Kd.C u8s w' B 2 [[1, 2], [3, 0]] ∧ 2 ≤ d) ∧ Below w.heap.size w w' :=
    (Split_any _ _ 3 3 2 [1, 2, 3] hC (by decide) (by decide) (by decide) (by decide)).mono fun e w' h => by
      obtain ⟨B, d, he, hR, hf⟩ := h
      have h2 : ncol 3 2 = 2 := by decide
      have h3 : splitL [1, 2, 3] 2 = [[1, 2], [3, 0]] := by decide
      rw [h2] at he hR
      rw [h3] at hR
      obtain ⟨_, hd, hCR⟩ := Kd.S_reads' hR
      exact ⟨B, d, he, ⟨hCR, hd⟩, (below_alloc (Below.refl _ _) _).trans ((Fr.below hf (Nat.le_refl _) (fun _ h => h.elim)).mono (by simp))⟩
  have HC := Aside0.mk c1
  clear c1 hC
  go_enter Try.func36, Try.ntmps36
  go_wp2_with fail
  refine HC.out.mono ?_
  rintro e w1 ⟨B, d, rfl, ⟨hC, hd⟩, hb⟩
  have c2 : Calls Try.prog 39 #[.slice B 2 d, .int .i64 3, .int .i64 2] w1 fun e w' => ∃ B, e = .returned (.tuple #[.slice B 3 3, .bool true]) ∧ Rd w' w1.heap.size B 3 [1, 2, 3] ∧ Below w1.heap.size w1 w' :=
    Join_yes w1 B 2 d [[1, 2], [3, 0]] hC hd 3 2 (by decide) (by decide) (by decide) (by decide) (by decide) (by decide)
  have HC2 := Aside0.mk c2
  have HC3 := Aside0.mk hC
  have HB := Aside0.mk hb
  clear c2 hC hb HC
  go_wp2_with fail
  refine HC2.out.mono ?_
  rintro e w2 ⟨B2, rfl, ⟨hC2, _⟩, hb2⟩
  obtain ⟨ad, A0, c0, rfl, hx, hl0, hC0⟩ := row_at (Kd.C_below HC3.out hb2) 1 (by decide)
  have q0 : (convert 36 9 (.slice A0 2 c0)).run Try.prog w2 = .ok (.string ⟨#[3, 0]⟩) w2 := Kd.C_string (P := Try.prog) (c := c0) Try.underlying36 Try.underlying5 Try.underlying9 hC0
  have q1 : (convert 36 9 (.slice B2 3 3)).run Try.prog w2 = .ok (.string ⟨#[1, 2, 3]⟩) w2 := Kd.C_string (P := Try.prog) (c := 3) Try.underlying36 Try.underlying5 Try.underlying9 hC2
  have hx' : w2.cell? ⟨ad.block, ad.off + 1, none⟩ = some (.slice A0 2 c0) := by rw [← add_lit ad 1 (by decide)]; exact hx
  have c4 : Calls Try.prog 38 #[.int .i64 3, .int .i64 2] w2 fun e w' => e = .returned (.int .i64 2) ∧ w2 = w' := Columns_yes w2 3 2 (by decide) (by decide)
  have HC4 := Aside0.mk c4
  have HB2 := Aside0.mk (HB.out.trans (hb2.mono HB.out.size))
  clear hx hC0 hl0 hC2 c4 hb2 HC3 HC2 HB
  go_wp2_with (go_at_call 38; refine HC4.out.mono ?_; rintro e w3 ⟨rfl, rfl⟩)
  go_ret
  exact ⟨rfl, HB2.out⟩
end Go.Proofs.Ytpeiejkcoadhfaa
/- How the arguments of the laws of layer 9 are opened. -/
namespace Go.Proofs.Ytpeiejkcoadhfaa
open Go.RowKit Go.Proofs.YtpeiejkcoadhfaaW.PrintWords
theorem opens_u8 : Opens Try.prog u8 5 (fun x => (Lit.int .u8 x).wf = true) (fun _ => 1) := opens_int 5 .u8 Try.underlying5 (by kernel_rfl)
theorem opens_bytes : Opens Try.prog u8s 36 (fun l => ∀ a ∈ l, (Lit.int .u8 a).wf = true) (fun l => (l.map fun _ => 1).sum + 1) := opens_slice 36 Try.underlying36 (by kernel_rfl) opens_u8
theorem opens_rows : Opens Try.prog (Kd.slice 36 u8s) 37 (fun l => ∀ r ∈ l, ∀ a ∈ r, (Lit.int .u8 a).wf = true) (fun l => (l.map fun r => (r.map fun _ => 1).sum + 1).sum + 1) := opens_slice 37 Try.underlying37 (by kernel_rfl) opens_bytes
theorem sum_ones (l : List Int) : (l.map fun _ => 1).sum = l.length := by
  induction l with
  | nil => rfl
  | cons a l ih => rw [List.map_cons, List.sum_cons, ih, List.length_cons]; omega
end Go.Proofs.Ytpeiejkcoadhfaa
