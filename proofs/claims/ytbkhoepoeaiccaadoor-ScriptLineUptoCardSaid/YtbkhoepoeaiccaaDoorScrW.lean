/- The laws' walks in the form that the cards take: ScriptHex, ScriptPrints, ScriptOne. -/
import Derived.Test.YtbkhoepoeaiccaaDoorScrV
namespace Go.Proofs.YtbkhoepoeaiccaaDoor
open Go.RowKit Go.Shelf Go.Proofs.YtbkhoepoeaiccaaDoorW.PrintWords Go.Proofs.YtbkhoepoeaiccaaDoor.PScriptReads

theorem hex_card (w : World) (hE : Env w) (A : Option Addr) (n c : Nat) (l : List Int) (hl : l.length = n) (hC : Kd.C (Kd.int .u8) w A n l) (hc : n ≤ c) (hw : ∀ a ∈ l, (Lit.int .u8 a).wf = true) (hm : (l.map fun _ => 1).sum + 1 ≤ 1048576) :
    Calls Tryd.prog 7 #[.slice A n c] w fun e w' => e = .returned (.bool true) ∧ Below w.heap.size w w' := by
  obtain ⟨p, rfl⟩ := bytes_bl l hw
  rw [sum_ones] at hm
  exact hex_law w hE A n c p hC hc (by omega)
theorem prints_card (w : World) (hE : Env w) (A : Option Addr) (n c : Nat) (l : List S33) (hl : l.length = n) (hC : Kd.C k33 w A n l) (hc : n ≤ c) (hw : ∀ x ∈ l, wf33 x) (hm : (l.map mu33).sum + 1 ≤ 1048576) :
    Calls Tryd.prog 3 #[.slice A n c] w fun e w' => e = .returned (.bool true) ∧ Below w.heap.size w w' := by
  obtain ⟨m, rfl, hwf, hp⟩ := steps_of l hw
  rw [List.length_map] at hl
  have := printL_len m
  exact prints_law w hE m hwf A n c hC (by omega) (by omega)
theorem one_card (w : World) (hE : Env w) (s : ByteArray) (hm : s.size + 1 ≤ 1048576) :
    Calls Tryd.prog 5 #[.string s] w fun e w' => e = .returned (.bool true) ∧ Below w.heap.size w w' := by
  have h := one_law w hE s.data.toList (by
    have : s.data.toList.length = s.size := by rw [Array.length_toList]; rfl
    omega)
  have e : (⟨s.data.toList.toArray⟩ : ByteArray) = s := by
    obtain ⟨⟨l⟩⟩ := s
    rfl
  rw [e] at h
  exact h
end Go.Proofs.YtbkhoepoeaiccaaDoor
