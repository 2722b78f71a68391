/- How the arguments of the laws of layer 9 are opened. -/
import Derived.Test.YtpeiejkcoadhfaaOpen
import Derived.Test.YtpeiejkcoadhfaaSt7
namespace Go.Proofs.Ytpeiejkcoadhfaa
open Go.RowKit Go.Proofs.YtpeiejkcoadhfaaW.PrintWords
theorem opens_u8 : Opens Try.prog u8 5 (fun x => (Lit.int .u8 x).wf = true) (fun _ => 1) := opens_int 5 .u8 Try.underlying5 (by kernel_rfl)
theorem opens_bytes : Opens Try.prog u8s 36 (fun l => ∀ a ∈ l, (Lit.int .u8 a).wf = true) (fun l => (l.map fun _ => 1).sum + 1) := opens_slice 36 Try.underlying36 (by kernel_rfl) opens_u8
theorem opens_rows : Opens Try.prog (Kd.slice 36 u8s) 37 (fun l => ∀ r ∈ l, ∀ a ∈ r, (Lit.int .u8 a).wf = true) (fun l => (l.map fun r => (r.map fun _ => 1).sum + 1).sum + 1) := opens_slice 37 Try.underlying37 (by kernel_rfl) opens_bytes
theorem sum_ones (l : List Int) : (l.map fun _ => 1).sum = l.length := by
  induction l with
  | nil => rfl
  | cons a l ih => rw [List.map_cons, List.sum_cons, ih, List.length_cons]; omega
end Go.Proofs.Ytpeiejkcoadhfaa
