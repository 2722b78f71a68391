/- slices.Chunk's iterator, over bytes. -/
import Derived.Test.YtpeiejkcoadhfaaRunT
namespace Go.Proofs.Ytpeiejkcoadhfaa
open Go.RowKit Go.Shelf Go.Proofs.YtpeiejkcoadhfaaW.PrintWords Go.Proofs.YtpeiejkcoadhfaaW.PrintMore
attribute [local go_sem] Oper.semAt_some

def nmin (x y : Nat) : Nat := if y < x then y else x
theorem min2_nat (k k' : IntKind) (x y : Nat) : Builtin.min2 (.int k (x : Int)) (.int k' (y : Int)) = pure (.int k (nmin x y : Int)) := by
  rw [min2_int]
  congr 2
  unfold nmin
  by_cases h : y < x
  · rw [if_pos h, if_pos (by omega)]
  · rw [if_neg h, if_neg (by omega)]
attribute [local go_sem] min2_nat min_two
def ncol (len k : Nat) : Nat := (len + k - 1) / k
theorem lt_ncol (j len k : Nat) (hk : 0 < k) : j < ncol len k ↔ j * k < len := by
  unfold ncol
  rw [Nat.lt_iff_add_one_le, Nat.le_div_iff_mul_le hk, Nat.add_mul]
  omega
theorem info5 : (Try.prog.info? 5).map (fun i => (i.zero, i.size, i.bytes)) = some (some (.int .u8 0), 1, 1) := by kernel_rfl
theorem cut3_run {P : Program} (t e : TypeId) {i : TypeInfo} (ht : P.underlying t = some (.slice e)) (hi : P.info? e = some i) (hsz : i.size = 1) (p : Addr) (len c a b : Nat) (hb : 0 < b) (h : a + b ≤ len) (hc : len ≤ c) (W : World) :
    (Instr.slice t (.slice (some p) len c) (some (.int .i64 (a : Int))) (some (.int .i64 ((a : Int) + (b : Int)))) (some (.int .i64 ((a : Int) + (b : Int))))).run P W = .ok (.slice (some (p.add a)) b b) W := by
  have hel : P.elem t = e := by simp [Program.elem, ht]
  have hu : P.underlying t = some (.slice (P.elem t)) := by rw [hel]; exact ht
  have e1 : ((a : Int) + (b : Int)).toNat = a + b := by omega
  have e2 : ¬ a + b = a := by omega
  have e3 : a + b - a = b := by omega
  rw [run_slice_lhm W t (some p) len c hu .i64 .i64 .i64 (a : Int) ((a : Int) + (b : Int)) ((a : Int) + (b : Int)) (by omega) (by omega) (by omega) (by omega), hel]
  simp [sizeOf, typeInfo, hi, hsz, sliced, Result.andThen, e1, e3]
  omega
theorem chunk_run (p : Addr) (len c i e : Nat) (he : 0 < e) (h : i + e ≤ len) (hc : len ≤ c) (W : World) :
    (Instr.slice 36 (.slice (some p) len c) (some (.int .i64 (i : Int))) (some (.int .i64 ((i : Int) + (e : Int)))) (some (.int .i64 ((i : Int) + (e : Int))))).run Try.prog W = .ok (.slice (some (p.add i)) e e) W := by
  obtain ⟨f, hi, _, hs, _⟩ := info_parts info5
  exact cut3_run 36 5 Try.underlying36 hi hs p len c i e he h hc W

theorem wadd64 (a b : Nat) (h : a + b ≤ 281474976711000) : wrap64 ((a : Int) + (b : Int)) = (a : Int) + (b : Int) := by
  have h1 : (a : Int) + (b : Int) ≤ 281474976711000 := by omega
  unfold wrap64
  omega
theorem nmin_cut (k r i len : Nat) (hk : 0 < k) (hr : r = len - i) (h : i < len) : 0 < nmin k r ∧ i + nmin k r ≤ len := by
  unfold nmin
  split <;> omega
/-- One chunk. -/
def chunkV (A : Option Addr) (len k j : Nat) : Value := .slice (A.map (·.add (j * k))) (nmin k (len - j * k)) (nmin k (len - j * k))

set_option maxRecDepth 100000 in
set_option maxHeartbeats 1600000 in
theorem chunk_seq (S : Nat → Prop) (w : World) (bs bn : Nat) (A : Option Addr) (len c k : Nat) (hA : 0 < len → ∃ p, A = some p) (hk : 0 < k) (hk2 : k ≤ 255) (hl : len ≤ 281474976710656) (hc : len ≤ c)
    (hs : w.heap[bs]? = some (.cells #[.slice A len c] 36 (0, 0))) (hn : w.heap[bn]? = some (.cells #[.int .i64 k] 3 (0, 0))) (hS : ¬ S bs) (hSn : ¬ S bn) :
    SeqF Try.prog 117 #[.pointer (some ⟨bs, 0, none⟩), .pointer (some ⟨bn, 0, none⟩)] (fun j => #[chunkV A len k j]) (fun pre j _ => j = pre.length ∧ j * k < len) S (fun xs => xs = List.range (ncol len k)) w := by
  intro l J W hW hJ hY h0
  refine callsIn_of_wp Try.func117 rfl trivial ?_ rfl
  simp only [Try.ntmps117, List.size_toArray, List.length_cons, List.length_nil, Nat.reduceAdd, Nat.reduceSub, Array.replicate_succ, Array.replicate_zero, List.push_toArray, List.append_toArray, List.nil_append, List.cons_append]
  have hbs : ∀ {W1 : World}, Fr (fun k => S k ∨ w.heap.size ≤ k) w W1 → W1.cell? ⟨bs, 0, none⟩ = some (.slice A len c) := fun hf => cell_at (hf.blk hs (fun h => h.elim hS (fun h => by have := blk_lt hs; omega))) rfl
  have hbn : ∀ {W1 : World}, Fr (fun k => S k ∨ w.heap.size ≤ k) w W1 → W1.cell? ⟨bn, 0, none⟩ = some (.int .i64 k) := fun hf => cell_at (hf.blk hn (fun h => h.elim hSn (fun h => by have := blk_lt hn; omega))) rfl
  have HBS0 := Aside0.mk @hbs
  have HBN0 := Aside0.mk @hbn
  clear hbs hbn
  gi_wp2
  have hbs := @HBS0.out
  have hbn := @HBN0.out
  clear HBS0 HBN0
  gi_loopw [4] (fun v4 wr => ∃ (j i : Nat), i = j * k ∧ j ≤ ncol len k ∧ i ≤ len + 255 ∧ v4 = .int .i64 i ∧ J (List.range j) wr ∧ Fr (fun k => S k ∨ w.heap.size ≤ k) w wr) (fun v4 _ => len + 255 - (intOf v4).toNat)
  case atStart => exact ⟨0, 0, by omega, by omega, by omega, rfl, h0, Fr.of_below hW _⟩
  case round =>
    obtain ⟨j, i, hij, hj, hi, rfl, hJr, hfr⟩ := hrel
    have c1 := hbs hfr
    have c2 := hbn hfr
    have HBS := Aside0.mk @hbs
    have HBN := Aside0.mk @hbn
    have HY := Aside0.mk hY
    have HJ := Aside0.mk hJ
    have HJR := Aside0.mk hJr
    have HFR := Aside0.mk hfr
    have HIJ := Aside0.mk hij
    have HJN := Aside0.mk hj
    clear hbs hbn hY hJ hJr hfr hij hj hs hn hS hSn hW h0
    by_cases hlt : i < len
    · obtain ⟨p, rfl⟩ := hA (by omega)
      obtain ⟨r, hr⟩ : ∃ r, r = len - i := ⟨_, rfl⟩
      obtain ⟨e, he, he0, he1⟩ : ∃ e, Aside0 (nmin k r = e) ∧ 0 < e ∧ i + e ≤ len := ⟨nmin k r, ⟨rfl⟩, nmin_cut k r i len hk hr hlt⟩
      have hfrom : ∀ W : World, (Instr.slice 36 (.slice (some p) len c) (some (.int .i64 (i : Int))) none none).run Try.prog W = .ok (.slice (cutA (some p) c i) r (c - i)) W := fun W => by
        obtain ⟨f, hi, _, hs, _⟩ := info_parts info5
        rw [hr]
        exact from_run 36 5 Try.underlying36 hi hs (some p) len c i (by omega) W
      generalize cutA (some p) c i = A' at hfrom
      generalize c - i = c' at hfrom
      have hcut := chunk_run p len c i e he0 he1 hc
      have hw1 := wadd64 i e (by omega)
      have hw2 := wadd64 i k (by omega)
      have HR := Aside0.mk hr
      clear hr
      have hltI : (i : Int) < (len : Int) := by omega
      have he' := he.out
      have hJ1 : J (List.range j) wr.drew := HJ.out _ _ _ HJR.out (below_drew (Below.refl _ _))
      have hv : chunkV (some p) len k j = .slice (some (p.add i)) e e := by
        unfold chunkV
        rw [← HIJ.out, ← HR.out, he']
        rfl
      obtain ⟨fn, tmps, assign, body, hy, hR⟩ := HY.out (List.range j) j wr.drew hJ1 ⟨by simp, by rw [← HIJ.out]; exact hlt⟩
      have hy' : (Instr.yield l #[.slice (some (p.add i)) e e]).run Try.prog wr.drew = .ok (.round l fn tmps assign body) wr.drew := by rw [← hv]; exact hy
      have HFR2 := Aside0.mk HFR.out.drew
      clear hy hJ1 hv HY
      gi_wp2
      gi_region
      gi_wp2
      refine hR.mono ?_
      rintro ee W' ⟨rfl, hj', hf'⟩
      have hf2 := HFR2.out.trans' hf'
      have c3 := HBN.out hf2
      have HF := Aside0.mk hf2
      have HJ' := Aside0.mk hj'
      clear hf2 hj' hf'
      gi_wp2
      go_roundw
      case rel => exact ⟨j + 1, i + k, by rw [HIJ.out, Nat.add_mul, Nat.one_mul], (lt_ncol j len k hk).2 (by rw [← HIJ.out]; exact hlt), by omega, by go_num, by rw [List.range_succ]; exact HJ'.out, HF.out⟩
      case measure => simp only [intOf]; omega
    · gi_wp2
      go_end0
      refine ⟨⟨_, rfl⟩, _, rfl, ?_⟩
      have hjn : j = ncol len k := by
        have h1 := HJN.out
        have h2 := lt_ncol j len k hk
        rcases Nat.lt_or_ge j (ncol len k) with h3 | h3
        · exact absurd (h2.1 h3) (by rw [← HIJ.out]; exact hlt)
        · exact Nat.le_antisymm h1 h3
      rw [← hjn]
      exact HJR.out
end Go.Proofs.Ytpeiejkcoadhfaa
