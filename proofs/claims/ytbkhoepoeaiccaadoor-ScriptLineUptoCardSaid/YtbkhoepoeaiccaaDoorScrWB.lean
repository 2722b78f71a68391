/- The laws' walks in the form that the cards take: ScriptReads, ScriptLine. -/
import Derived.Test.YtbkhoepoeaiccaaDoorScrW
import Derived.Test.YtbkhoepoeaiccaaDoorScrZ
namespace Go.Proofs.YtbkhoepoeaiccaaDoor
open Go.RowKit Go.Shelf Go.Proofs.YtbkhoepoeaiccaaDoorW.PrintWords Go.Proofs.YtbkhoepoeaiccaaDoor.PScriptReads

theorem bytes_back (s : ByteArray) : (⟨s.data.toList.toArray⟩ : ByteArray) = s := by
  obtain ⟨⟨l⟩⟩ := s
  rfl
theorem bytes_len (s : ByteArray) : s.data.toList.length = s.size := by rw [Array.length_toList]; rfl
theorem reads_card (w : World) (hE : Env w) (s : ByteArray) (hm : s.size + 1 ≤ 1048576) :
    Calls Tryd.prog 4 #[.string s] w fun e w' => e = .returned (.bool true) ∧ Below w.heap.size w w' := by
  have h := reads_law w hE s.data.toList (by have := bytes_len s; omega)
  rw [bytes_back s] at h
  exact h
theorem line_card (w : World) (hE : Env w) (A : Option Addr) (n c : Nat) (l : List S33) (hl : l.length = n) (hC : Kd.C k33 w A n l) (hc : n ≤ c) (hw : ∀ x ∈ l, wf33 x) (hm : (l.map mu33).sum + 1 ≤ 1048576) (s : ByteArray) (hs : s.size + 1 ≤ 1048576) :
    Calls Tryd.prog 6 #[.slice A n c, .string s] w fun e w' => e = .returned (.bool true) ∧ Below w.heap.size w w' := by
  obtain ⟨m, rfl, hwf, hp⟩ := steps_of l hw
  rw [List.length_map] at hl
  have h1 := printL_len m
  have h := line_law w hE m hwf A n c hC (by omega) (by omega) s.data.toList (by have := bytes_len s; omega)
  rw [bytes_back s] at h
  exact h
end Go.Proofs.YtbkhoepoeaiccaaDoor
