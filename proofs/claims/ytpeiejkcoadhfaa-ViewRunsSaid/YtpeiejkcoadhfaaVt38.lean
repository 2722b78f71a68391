/- What the view's laws take, Vt38: VwBC. -/
import Derived.Test.YtpeiejkcoadhfaaVt23
import Derived.Test.YtpeiejkcoadhfaaVt32
import Derived.Test.YtpeiejkcoadhfaaVt37
set_option linter.all false
namespace Go.Proofs.Ytpeiejkcoadhfaa
open Go.RowKit Go.Shelf Go.Proofs.YtpeiejkcoadhfaaW.PrintWords Go.Proofs.YtpeiejkcoadhfaaW.PrintMore Go.Proofs.Ytpeiejkcoadhfaa.PViewEmpty
open Go.BigFrame
theorem idx_evt (l : List Int) (x : Int) (hl : l.length ≤ 9223372036854775807) (d : Nat) : ∀ i, i + d = l.length → x ∉ l.take i → Evt fun k => ∃ j : Int, PViewEmpty.slices_Index_int_int.l0 k l x (l.length : Int) (i : Int) = some j ∧ decide (j ≥ 0) = decide (x ∈ l) := by
  induction d with
  | zero =>
    intro i hi hx
    refine (Evt.all (P := fun _ => True) (fun _ => trivial)).succ (fun k _ => ⟨-1, ?_, ?_⟩)
    · simp only [PViewEmpty.slices_Index_int_int.l0]
      rw [if_neg (by omega)]
    · rw [List.take_of_length_le (by omega)] at hx
      rw [decide_eq_false hx]
      decide
  | succ d ih =>
    intro i hi hx
    by_cases e : x = l.getD i 0
    · refine (Evt.all (P := fun _ => True) (fun _ => trivial)).succ (fun k _ => ⟨(i : Int), ?_, ?_⟩)
      · simp only [PViewEmpty.slices_Index_int_int.l0]
        rw [if_pos (by omega), if_pos (by omega), if_pos (by omega), rd_nat, if_pos e]
      · rw [decide_eq_true (show (i : Int) ≥ 0 by omega), decide_eq_true (by rw [e]; exact getI_mem (by omega))]
    · refine (ih (i + 1) (by omega) (by rw [mem_take (by omega), not_or]; exact ⟨hx, fun h => e h.symm⟩)).succ (fun k ⟨j, h1, h2⟩ => ⟨j, ?_, h2⟩)
      simp only [PViewEmpty.slices_Index_int_int.l0]
      rw [if_pos (by omega), if_pos (by omega), if_pos (by omega), rd_nat, if_neg e, wr_succ i (by omega)]
      exact h1
theorem cont_evt (l : List Int) (x : Int) (hl : l.length ≤ 9223372036854775807) : Evt fun k => PViewEmpty.slices_Contains_int_int.f k l x = some (decide (x ∈ l)) :=
  (idx_evt l x hl l.length 0 (by omega) (by simp)).mono (fun k ⟨j, h1, h2⟩ => by
    unfold PViewEmpty.slices_Contains_int_int.f PViewEmpty.slices_Index_int_int.f
    have h1' : PViewEmpty.slices_Index_int_int.l0 k l x (l.length : Int) 0 = some j := h1
    rw [h1', Option.bind_some, h2])
def toldTo (rows : List (List F)) (r : Ri) (i : Nat) : List F := (List.range i).flatMap fun h : Nat => if r.kind = 4 ∨ (r.kind = 3 ∧ r.target ∈ r.sn ∧ (h : Int) ≠ r.target) then rows.getD h [] else []
theorem toldTo_succ (rows : List (List F)) (r : Ri) (i : Nat) : toldTo rows r (i + 1) = toldTo rows r i ++ (if r.kind = 4 ∨ (r.kind = 3 ∧ r.target ∈ r.sn ∧ (i : Int) ≠ r.target) then rows.getD i [] else []) := by
  unfold toldTo
  rw [List.range_succ, List.flatMap_append]
  simp
theorem toldTo_len (rows : List (List F)) (r : Ri) (m : Nat) (hm : ∀ i, i < rows.length → (rows.getD i []).length ≤ m) : ∀ i, i ≤ rows.length → (toldTo rows r i).length ≤ i * m
  | 0, _ => by simp [toldTo]
  | i + 1, h => by
    rw [toldTo_succ, List.length_append]
    have h1 := toldTo_len rows r m hm i (by omega)
    have h2 := hm i h
    have h3 : (i + 1) * m = i * m + m := by rw [Nat.add_mul, Nat.one_mul]
    split
    · omega
    · simp; omega
theorem told_evt (rows : List (List F)) (r : Ri) (m : Nat) (hm : ∀ i, i < rows.length → (rows.getD i []).length ≤ m) (hrl : rows.length ≤ 1000) (hml : m ≤ 1000000) (hsn : r.sn.length ≤ 9223372036854775807) (d : Nat) : ∀ i, i + d = rows.length →
    Evt fun k => view_told.l0 k (bs (toldTo rows r i)) (rows.map bs) (rows.length : Int) (i : Int) r.kind r.target r.ds r.sn = some (bs (toldTo rows r rows.length)) := by
  induction d with
  | zero =>
    intro i hi
    refine (Evt.all (P := fun _ => True) (fun _ => trivial)).succ (fun k _ => ?_)
    simp only [view_told.l0]
    rw [if_neg (by omega), show i = rows.length by omega]
  | succ d ih =>
    intro i hi
    have htl := toldTo_len rows r m hm i (by omega)
    have hri := hm i (by omega)
    have hm2 : i * m ≤ 1000 * 1000000 := Nat.mul_le_mul (by omega) hml
    have hsz : (bs (toldTo rows r i)).length + (bs (rows.getD i [])).length < 140737488355328 := by rw [bs_length, bs_length]; omega
    refine ((ih (i + 1) (by omega)).and (cont_evt r.sn r.target hsn)).succ (fun k ⟨hk, hc⟩ => ?_)
    rw [toldTo_succ] at hk
    simp only [view_told.l0]
    rw [if_pos (by omega), if_pos (by omega), if_pos (by rw [List.length_map]; omega), rdL2 rows i (by omega), hc, wr_succ i (by omega)]
    simp only [Option.bind_some, if_pos hsz]
    by_cases k3 : r.kind = 3
    · have k4 : ¬ r.kind = 4 := by omega
      by_cases hs : r.target ∈ r.sn
      · by_cases ht : (i : Int) = r.target
        · rw [if_neg (by rintro (h | ⟨_, _, h⟩); exact k4 h; exact h ht), List.append_nil] at hk
          rw [if_pos k3, if_pos (decide_eq_true hs), if_pos ht, if_neg k4]
          exact hk
        · rw [if_pos (.inr ⟨k3, hs, ht⟩), bs_append] at hk
          rw [if_pos k3, if_pos (decide_eq_true hs), if_neg ht]
          exact hk
      · rw [if_neg (by rintro (h | ⟨_, h, _⟩); exact k4 h; exact hs h), List.append_nil] at hk
        rw [if_pos k3, if_neg (by simpa using hs), if_neg k4]
        exact hk
    · rw [if_neg k3]
      by_cases k4 : r.kind = 4
      · rw [if_pos (.inl k4), bs_append] at hk
        rw [if_pos k4]
        exact hk
      · rw [if_neg (by rintro (h | ⟨h, _, _⟩); exact k4 h; exact k3 h), List.append_nil] at hk
        rw [if_neg k4]
        exact hk
def toldL (N : Nat) (rows : List (List F)) (r : Ri) : List F := toldTo rows r N
theorem told_any (w : World) (r : Ri) (D S : Option Addr) (nd cd ns cs : Nat) (hD : Kd.C kz w D nd r.ds) (hS : Kd.C kz w S ns r.sn) (hdc : nd ≤ cd) (hsc : ns ≤ cs) (hns : ns ≤ 9223372036854775807) (A : Option Addr) (N c cols : Nat) (rows : List (List F)) (hP : PL w A N rows) (hc : N ≤ c) (hN : N ≤ 1000) (hrl : ∀ i, i < N → (rows.getD i []).length ≤ cols) (hcl : cols ≤ 1000000) :
    Calls Try.prog 108 #[.agg #[.int .i64 r.kind, .int .i64 r.target, .slice D nd cd, .slice S ns cs], .slice A N c] w fun e w' => ∃ B d, e = .returned (.slice B (toldL N rows r).length d) ∧ Kd.C fk w' B (toldL N rows r).length (toldL N rows r) ∧ (toldL N rows r).length ≤ d ∧ Below w.heap.size w w' := by
  have hl : rows.length = N := by obtain ⟨_, _, h, _⟩ := hP; exact h
  have hnd := Kd.C_len hD
  have hnn := Kd.C_len hS
  obtain ⟨k, hk⟩ := (told_evt rows r cols (by rw [hl]; exact hrl) (by omega) hcl (by omega) rows.length 0 (by omega)).some
  have hk' : view_told.f k r.kind r.target r.ds r.sn (rows.map bs) = some (bs (toldL N rows r)) := by
    unfold view_told.f
    rw [List.length_map]
    unfold toldL
    rw [← hl]
    exact hk
  have h := view_told.calls k r.kind r.target D cd r.ds S cs r.sn A c (rows.map bs) _ w (by rw [hnd]; exact hD) (by omega) (by rw [hnn]; exact hS) (by omega) (by rw [List.length_map, hl]; exact PL_rows hP) (by rw [List.length_map, hl]; exact hc) hk'
  rw [hnd, hnn, List.length_map, hl] at h
  refine h.mono ?_
  rintro e w' ⟨v, rfl, hR, hb⟩
  obtain ⟨B, c', rfl, h1, h2⟩ := R_bs hR
  exact ⟨B, c', rfl, h2, h1, hb⟩
end Go.Proofs.Ytpeiejkcoadhfaa
