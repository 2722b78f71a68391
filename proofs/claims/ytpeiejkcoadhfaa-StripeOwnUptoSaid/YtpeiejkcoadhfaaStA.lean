/- Documents as columns: plain lists. -/
import Derived.Test.YtpeiejkcoadhfaaSt1
namespace Go.Proofs.Ytpeiejkcoadhfaa
theorem ncol_zero (k : Nat) (hk : 0 < k) : ncol 0 k = 0 := by
  unfold ncol
  exact Nat.div_eq_of_lt (by omega)
theorem ncol_le (len k : Nat) (hk : 0 < k) : ncol len k ≤ len := by
  rcases Nat.lt_or_ge len (ncol len k) with h | h
  · have h1 := (lt_ncol len len k hk).1 h
    have := Nat.le_mul_of_pos_right len hk
    omega
  · exact h
theorem ncol_lo (len k m : Nat) (hk : 0 < k) (h : ncol len k = m + 1) : m * k < len ∧ len ≤ (m + 1) * k := by
  refine ⟨(lt_ncol m len k hk).1 (by omega), ?_⟩
  rcases Nat.lt_or_ge ((m + 1) * k) len with h1 | h1
  · have := (lt_ncol (m + 1) len k hk).2 h1; omega
  · exact h1
theorem ncol_eq (len k m : Nat) (hk : 0 < k) (h1 : m * k < len) (h2 : len ≤ (m + 1) * k) : ncol len k = m + 1 := by
  have h3 := (lt_ncol m len k hk).2 h1
  rcases Nat.lt_or_ge (m + 1) (ncol len k) with h4 | h4
  · have := (lt_ncol (m + 1) len k hk).1 h4; omega
  · omega
/-- A column: a piece, filled up with noughts. -/
def colOf (xs : List Int) (k j : Nat) : List Int := (xs.drop (j * k)).take k ++ List.replicate (k - ((xs.drop (j * k)).take k).length) 0
theorem colOf_length (xs : List Int) (k j : Nat) : (colOf xs k j).length = k := by
  unfold colOf
  rw [List.length_append, List.length_replicate]
  have : ((xs.drop (j * k)).take k).length ≤ k := by rw [List.length_take]; exact Nat.min_le_left _ _
  omega
def splitL (xs : List Int) (k : Nat) : List (List Int) := (List.range (ncol xs.length k)).map (colOf xs k)
theorem splitL_length (xs : List Int) (k : Nat) : (splitL xs k).length = ncol xs.length k := by simp [splitL]
theorem splitL_get (xs : List Int) (k j : Nat) (h : j < ncol xs.length k) : (splitL xs k)[j]? = some (colOf xs k j) := by
  unfold splitL
  rw [List.getElem?_map, List.getElem?_range h]; rfl
theorem splitL_all (xs : List Int) (k : Nat) : ∀ c ∈ splitL xs k, c.length = k := by
  intro c hc
  obtain ⟨j, _, rfl⟩ := List.mem_map.1 hc
  exact colOf_length xs k j
theorem colOf_full (xs : List Int) (k j : Nat) (h : (j + 1) * k ≤ xs.length) : colOf xs k j = (xs.drop (j * k)).take k := by
  unfold colOf
  have : ((xs.drop (j * k)).take k).length = k := by
    rw [List.length_take, List.length_drop]
    rw [Nat.add_mul, Nat.one_mul] at h
    omega
  rw [this, Nat.sub_self, List.replicate_zero, List.append_nil]
theorem flat_full (xs : List Int) (k j : Nat) (h : j * k ≤ xs.length) : ((List.range j).map (colOf xs k)).flatten = xs.take (j * k) := by
  induction j with
  | zero => simp
  | succ j ih =>
    have h0 : j * k ≤ xs.length := by rw [Nat.add_mul, Nat.one_mul] at h; omega
    rw [List.range_succ, List.map_append, List.flatten_append, ih h0, List.map_singleton, List.flatten_singleton, colOf_full xs k j h, Nat.add_mul, Nat.one_mul, List.take_add]
theorem flat_split (xs : List Int) (k : Nat) (hk : 0 < k) : (splitL xs k).flatten.take xs.length = xs := by
  unfold splitL
  rcases h : ncol xs.length k with _ | m
  · have : xs.length = 0 := by
      rcases Nat.eq_zero_or_pos xs.length with h1 | h1
      · exact h1
      · have := (lt_ncol 0 xs.length k hk).2 (by omega); omega
    have : xs = [] := List.eq_nil_of_length_eq_zero this
    subst this; rfl
  · obtain ⟨h1, h2⟩ := ncol_lo _ _ _ hk h
    rw [List.range_succ, List.map_append, List.flatten_append, flat_full xs k m (by omega), List.map_singleton, List.flatten_singleton]
    unfold colOf
    rw [Nat.add_mul, Nat.one_mul] at h2
    rw [← List.append_assoc, ← List.take_add, List.take_of_length_le (i := m * k + k) (by omega), List.take_left]
theorem flat_length (l : List (List Int)) (k : Nat) (h : ∀ c ∈ l, c.length = k) : l.flatten.length = l.length * k := by
  induction l with
  | nil => simp
  | cons c l ih =>
    rw [List.flatten_cons, List.length_append, ih (fun d hd => h d (List.mem_cons_of_mem _ hd)), h c (List.mem_cons_self ..), List.length_cons, Nat.add_mul]
    omega
end Go.Proofs.Ytpeiejkcoadhfaa
