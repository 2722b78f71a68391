/- stripe.Join. -/
import Derived.Test.YtpeiejkcoadhfaaSt4
namespace Go.Proofs.Ytpeiejkcoadhfaa
open Go.RowKit Go.Shelf Go.Proofs.YtpeiejkcoadhfaaW.PrintWords Go.Proofs.YtpeiejkcoadhfaaW.PrintMore

theorem Join_arg (w : World) (v : Value) (A : Option Addr) (n c : Nat) (hv : v = .slice A n c) (size k : Int) (h : size < 0 ∨ k < 1) :
    Calls Try.prog 39 #[v, .int .i64 size, .int .i64 k] w fun e w' => e = .returned (.tuple #[.slice none 0 0, .bool false]) ∧ Below w.heap.size w w' := by
  by_cases h1 : size < 0
  · go_enter Try.func39, Try.ntmps39
    go_wp2
    go_ret2
    exact ⟨rfl, below_alloc (Below.refl _ _) _⟩
  · have h2 : k < 1 := h.resolve_left h1
    go_enter Try.func39, Try.ntmps39
    go_wp2
    go_ret2
    exact ⟨rfl, below_alloc (Below.refl _ _) _⟩
theorem Join_count (w : World) (A : Option Addr) (n c : Nat) (a b : Nat) (hb : 0 < b) (ha : a ≤ 9223372036854775807) (h : n ≠ ncol a b) :
    Calls Try.prog 39 #[.slice A n c, .int .i64 a, .int .i64 b] w fun e w' => e = .returned (.tuple #[.slice none 0 0, .bool false]) ∧ Below w.heap.size w w' := by
  have h1 : ¬ (a : Int) < 0 := by omega
  have h2 : ¬ (b : Int) < 1 := by omega
  have HC := Aside0.mk (fun w => Columns_yes w a b hb ha)
  obtain ⟨m, hm⟩ : ∃ m, m = ncol a b := ⟨_, rfl⟩
  rw [← hm] at HC h
  clear hm
  have h3 : ((n : Int) != (m : Int)) = true := by simp; omega
  have h4 : (n != m) = true := by simp; omega
  go_enter Try.func39, Try.ntmps39
  go_wp2_with (go_at_call 38; refine (HC.out _).mono ?_; rintro e w1 ⟨rfl, rfl⟩)
  go_ret2
  exact ⟨rfl, below_alloc (Below.refl _ _) _⟩
theorem Join_len (w : World) (A : Option Addr) (n c : Nat) (xss : List (List Int)) (hC : Kd.C u8s w A n xss) (hc : n ≤ c) (a b : Nat) (hb : 0 < b) (ha : a ≤ 9223372036854775807) (h : n = ncol a b) (hne : anyNe xss b = true) :
    Calls Try.prog 39 #[.slice A n c, .int .i64 a, .int .i64 b] w fun e w' => e = .returned (.tuple #[.slice none 0 0, .bool false]) ∧ Below w.heap.size w w' := by
  have hnm := Kd.C_max hC
  have h1 : ¬ (a : Int) < 0 := by omega
  have h2 : ¬ (b : Int) < 1 := by omega
  have HC := Aside0.mk (fun w => Columns_yes w a b hb ha)
  have HF := Aside0.mk (ContainsFunc_any (w.alloc (.cells #[.int .i64 b] 3)) A n c w.heap.size b xss (Kd.C_alloc hC _) hc (cell_at (blk_new w _) rfl))
  rw [hne] at HF
  rw [← h] at HC
  clear h hC hne
  go_enter Try.func39, Try.ntmps39
  go_wp2_with (first | (go_at_call 38; refine (HC.out _).mono ?_; rintro e w1 ⟨rfl, rfl⟩) | (go_at_call 77; refine HF.out.mono ?_; rintro e w1 ⟨rfl, rfl⟩))
  go_ret2
  exact ⟨rfl, below_alloc (Below.refl _ _) _⟩
/-- A slice that is read, its block new from base on. -/
def Rd (w : World) (base : Nat) (B : Option Addr) (n : Nat) (xs : List Int) : Prop := Kd.C u8 w B n xs ∧ ∀ k, OB B k → base ≤ k
theorem Join_yes (w : World) (A : Option Addr) (n c : Nat) (xss : List (List Int)) (hC : Kd.C u8s w A n xss) (hc : n ≤ c) (a b : Nat) (hb : 0 < b) (ha : a ≤ 9223372036854775807) (h : n = ncol a b) (hne : anyNe xss b = false) (ht : xss.flatten.length ≤ 1099511627776) (hat : a ≤ xss.flatten.length) :
    Calls Try.prog 39 #[.slice A n c, .int .i64 a, .int .i64 b] w fun e w' => ∃ B, e = .returned (.tuple #[.slice B a a, .bool true]) ∧ Rd w' w.heap.size B a (xss.flatten.take a) ∧ Below w.heap.size w w' := by
  have hnm := Kd.C_max hC
  have h1 : ¬ (a : Int) < 0 := by omega
  have h2 : ¬ (b : Int) < 1 := by omega
  have HC := Aside0.mk (fun w => Columns_yes w a b hb ha)
  have HF := Aside0.mk (ContainsFunc_any (w.alloc (.cells #[.int .i64 b] 3)) A n c w.heap.size b xss (Kd.C_alloc hC _) hc (cell_at (blk_new w _) rfl))
  have HO := Aside0.mk (Concat_any (w.alloc (.cells #[.int .i64 b] 3)) A n c xss (Kd.C_alloc hC _) hc ht)
  rw [hne] at HF
  rw [← h] at HC
  have HT := Aside0.mk (And.intro hat ht)
  obtain ⟨m, hm⟩ : ∃ m, m = xss.flatten.length := ⟨_, rfl⟩
  rw [← hm] at HO HT
  have HM := Aside0.mk hm
  have HN := Aside0.mk h
  clear h hC hne hm ht hat
  go_enter Try.func39, Try.ntmps39
  go_wp2_with (first | (go_at_call 38; refine (HC.out _).mono ?_; rintro e w1 ⟨rfl, rfl⟩) | (go_at_call 77; refine HF.out.mono ?_; rintro e w1 ⟨rfl, rfl⟩))
  refine HO.out.mono ?_
  rintro e w1 ⟨B, d, rfl, hR, hb1⟩
  obtain ⟨i5, hi5, _, hs5, _⟩ := info_parts info5
  have hmd := (Kd.R_reads' hR).2.1
  have kt := to_run (P := Try.prog) 36 5 Try.underlying36 hi5 B m d a HT.out.1 hmd
  have HR := Aside0.mk hR
  have HB := Aside0.mk hb1
  have had : a ≤ d := by have := HT.out.1; omega
  have ham : (a : Int) ≤ (m : Int) := by have := HT.out.1; omega
  clear hR hb1 hi5 hs5
  go_wp2_with (go_at_call 80; refine (Clip_any _ _ _ _ had).mono ?_; rintro e w1 ⟨rfl, rfl⟩)
  go_ret2
  refine ⟨B, rfl, ⟨to_C (0 : Int) a (by rw [HM.out]; exact R_C (HM.out ▸ HR.out)) HT.out.1, fun k hk => ?_⟩, ?_⟩
  · have := (ob_base (Kd.Q_of_R HR.out) k hk).1
    simp at this
    omega
  · exact (below_alloc (Below.refl _ _) _).trans (HB.out.mono (by simp))
end Go.Proofs.Ytpeiejkcoadhfaa
