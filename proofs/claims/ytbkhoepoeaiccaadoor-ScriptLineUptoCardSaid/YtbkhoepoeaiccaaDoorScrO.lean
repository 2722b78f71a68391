/- Plain: the library's Split and Cut at one byte; what the program's read makes of a line. -/
import Derived.Test.YtbkhoepoeaiccaaDoorScrP
import Derived.Lib.SplitLaws
import Derived.Lib.CutLaws
namespace Go.Proofs.YtbkhoepoeaiccaaDoor
open Go

theorem index_nil (c : UInt8) : Lib.index [] [c] = -1 := by simp [Lib.index]
theorem index_eq (c : UInt8) (l : List UInt8) : Lib.index (c :: l) [c] = 0 := by rw [Lib.index]; simp [List.isPrefixOf]
theorem index_ne (b c : UInt8) (l : List UInt8) (h : b ≠ c) : Lib.index (b :: l) [c] = if Lib.index l [c] == -1 then -1 else Lib.index l [c] + 1 := by
  have hp : ([c] : List UInt8).isPrefixOf (b :: l) = false := by simp [List.isPrefixOf, Ne.symm h]
  rw [Lib.index, hp]; simp
theorem splitK_L (c : UInt8) : ∀ l : List UInt8, Lib.splitK [c] 0 (Lib.count l [c]) l = splitL c l
  | [] => by rw [Lib.count_miss (index_nil c)]; rfl
  | b :: l => by
    have ih := splitK_L c l
    by_cases h : b = c
    · subst h
      rw [Lib.count_cons_eq, Nat.add_comm, Lib.splitK, index_eq, splitL, if_pos rfl, ← ih]
      simp
    · rw [Lib.count_cons_ne b c l h, splitL, if_neg h, ← ih]
      cases hk : Lib.count l [c] with
      | zero => simp [Lib.splitK]
      | succ k =>
        have hm : ¬ Lib.index l [c] = -1 := fun e => by rw [Lib.count_miss e] at hk; cases hk
        obtain ⟨j, hj⟩ : ∃ j : Nat, Lib.index l [c] = j := ⟨(Lib.index l [c]).toNat, by have := Lib.index_ge l [c]; omega⟩
        have hix : Lib.index (b :: l) [c] = ((j + 1 : Nat) : Int) := by rw [index_ne b c l h, if_neg (fun e => hm (beq_iff_eq.1 e)), hj]; omega
        have n1 : ¬ (((j + 1 : Nat) : Int) == -1) = true := fun e => by have := beq_iff_eq.1 e; omega
        have n2 : ¬ (((j : Nat) : Int) == -1) = true := fun e => by have := beq_iff_eq.1 e; omega
        rw [Lib.splitK, hix, if_neg n1, Lib.splitK, hj, if_neg n2]
        simp
theorem split_lib (c : UInt8) (s : ByteArray) : (Lib.splitB ⟨#[c]⟩ 0 (Lib.countB s ⟨#[c]⟩) s).map (·.data.toList) = splitL c s.data.toList := by
  rw [Lib.splitB_data]
  exact splitK_L c s.data.toList
theorem cut_free (l : List UInt8) (c : UInt8) (h : c ∉ l) : Lib.cut l [c] = (l, [], false) := by
  have hm : Lib.index l [c] = -1 := by
    induction l with
    | nil => exact index_nil c
    | cons b l ih =>
      rw [index_ne b c l (fun e => h (by rw [e]; exact List.mem_cons_self ..)), ih (fun e => h (List.mem_cons_of_mem _ e))]
      rfl
  unfold Lib.cut
  rw [hm]
  rfl
theorem cut_hit (s r : List UInt8) (c : UInt8) (h : c ∉ s) : Lib.cut (s ++ c :: r) [c] = (s, r, true) := by
  have hm : Lib.index (s ++ c :: r) [c] = (s.length : Int) := by
    induction s with
    | nil => exact index_eq c r
    | cons b s ih =>
      rw [List.cons_append, index_ne b c _ (fun e => h (by rw [e]; exact List.mem_cons_self ..)), ih (fun e => h (List.mem_cons_of_mem _ e)), if_neg (fun e => by have := beq_iff_eq.1 e; omega)]
      simp
  unfold Lib.cut
  rw [hm]
  simp
theorem first_split (c : UInt8) (l : List UInt8) (h : c ∈ l) : ∃ s r, l = s ++ c :: r ∧ c ∉ s := by
  induction l with
  | nil => cases h
  | cons b l ih =>
    by_cases e : b = c
    · exact ⟨[], l, by rw [e]; rfl, by simp⟩
    · obtain ⟨s, r, h1, h2⟩ := ih (by rcases List.mem_cons.1 h with h | h; exact absurd h.symm e; exact h)
      exact ⟨b :: s, r, by rw [h1]; rfl, fun hm => by rcases List.mem_cons.1 hm with hm | hm; exact e hm.symm; exact h2 hm⟩

/-! ### What the program's read makes of a line -/
theorem read_words {s : List UInt8} {x : St} (h : readL s = some x) : splitL 32 s = wordsL x ∧ x.wf ∧ s = bareL x := by
  obtain ⟨h1, h2⟩ := readL_some s x h
  exact ⟨by rw [h2, split_bare], h1, h2⟩
theorem read_len (s : List UInt8) (h : (splitL 32 s).length ≠ 6) : readL s = none := by
  cases hr : readL s with
  | none => rfl
  | some x => exact absurd (by rw [(read_words hr).1]; rfl) h
def numW (x : St) (i : Nat) : Int := [x.kind, x.a, x.b, x.c].getD i 0
theorem words_num (x : St) (hx : x.wf) (i : Nat) (hi : i < 4) : (wordsL x).getD i [] = Lib.itoa (numW x i) ∧ I64 (numW x i) := by
  obtain ⟨h0, h1, h2, h3⟩ := hx
  rcases i with _ | _ | _ | _ | i
  · exact ⟨rfl, h0⟩
  · exact ⟨rfl, h1⟩
  · exact ⟨rfl, h2⟩
  · exact ⟨rfl, h3⟩
  · omega
theorem read_atoi (s : List UInt8) (i : Nat) (hi : i < 4) (h : ∀ v, Lib.atoiAll ((splitL 32 s).getD i []) ≠ .ok v) : readL s = none := by
  cases hr : readL s with
  | none => rfl
  | some x =>
    obtain ⟨h1, h2, _⟩ := read_words hr
    obtain ⟨h3, h4⟩ := words_num x h2 i hi
    rw [h1, h3] at h
    exact absurd (atoi_itoa h4) (h _)
theorem read_id (s : List UInt8) (h : bytesL ((splitL 32 s).getD 4 []) 105 = none) : readL s = none := by
  cases hr : readL s with
  | none => rfl
  | some x =>
    rw [(read_words hr).1, show (wordsL x).getD 4 [] = 105 :: hexL x.id from rfl, (bytesL_iff _ _ _).2 rfl] at h
    cases h
theorem read_data (s : List UInt8) (h : bytesL ((splitL 32 s).getD 5 []) 120 = none) : readL s = none := by
  cases hr : readL s with
  | none => rfl
  | some x =>
    rw [(read_words hr).1, show (wordsL x).getD 5 [] = 120 :: hexL x.data from rfl, (bytesL_iff _ _ _).2 rfl] at h
    cases h
/-- The step that was read, and the line that it would have. -/
theorem read_all (s : List UInt8) (y : St) (hn : ∀ i, i < 4 → Lib.atoiAll ((splitL 32 s).getD i []) = .ok (numW y i)) (hi : bytesL ((splitL 32 s).getD 4 []) 105 = some y.id) (hd : bytesL ((splitL 32 s).getD 5 []) 120 = some y.data) (hy : y.wf) :
    readL s = if lineL y = s ++ [10] then some y else none := by
  by_cases e : lineL y = s ++ [10]
  · rw [if_pos e]
    have h1 : bareL y = s := by unfold lineL at e; exact List.append_cancel_right e
    rw [← h1]
    exact readL_bare y hy
  · rw [if_neg e]
    cases hr : readL s with
    | none => rfl
    | some x =>
      exfalso
      obtain ⟨h1, h2, h3⟩ := read_words hr
      have hnum : ∀ i, i < 4 → numW y i = numW x i := fun i hi => by
        have h4 := hn i hi
        obtain ⟨h5, h6⟩ := words_num x h2 i hi
        rw [h1, h5, atoi_itoa h6] at h4
        injection h4 with h4
        exact h4.symm
      rw [h1, show (wordsL x).getD 4 [] = 105 :: hexL x.id from rfl, (bytesL_iff _ _ _).2 rfl] at hi
      rw [h1, show (wordsL x).getD 5 [] = 120 :: hexL x.data from rfl, (bytesL_iff _ _ _).2 rfl] at hd
      injection hi with hi
      injection hd with hd
      have hxy : x = y := by
        have e0 : y.kind = x.kind := hnum 0 (by decide)
        have e1 : y.a = x.a := hnum 1 (by decide)
        have e2 : y.b = x.b := hnum 2 (by decide)
        have e3 : y.c = x.c := hnum 3 (by decide)
        cases x; cases y
        simp only at e0 e1 e2 e3 hi hd
        rw [e0, e1, e2, e3, hi, hd]
      apply e
      rw [lineL, ← hxy, ← h3]
theorem atoi_range {l : List UInt8} {v : Int} (h : Lib.atoiAll l = .ok v) : I64 v := by
  unfold Lib.atoiAll at h
  split at h
  · cases h
  · simp only [] at h
    split at h
    · cases h
    · cases h
    · split at h
      · cases h
      · split at h
        · cases h
        · injection h with h
          unfold I64
          split at h <;> omega
end Go.Proofs.YtbkhoepoeaiccaaDoor
