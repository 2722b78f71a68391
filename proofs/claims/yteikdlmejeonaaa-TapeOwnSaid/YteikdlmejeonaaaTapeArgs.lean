/- How the laws' arguments are opened. -/
import Derived.Test.YteikdlmejeonaaaOpen
import Derived.Test.YteikdlmejeonaaaTape
namespace Go.Proofs.Yteikdlmejeonaaa
open Go.RowKit Go.Proofs.YteikdlmejeonaaaW.PrintWords
theorem opens_u8 : Opens Try.prog u8 5 (fun x => (Lit.int .u8 x).wf = true) (fun _ => 1) := opens_int 5 .u8 Try.underlying5 (by kernel_rfl)
theorem opens_bytes : Opens Try.prog (Kd.slice 5 u8) 25 (fun l => ∀ a ∈ l, (Lit.int .u8 a).wf = true) (fun l => (l.map fun _ => 1).sum + 1) := opens_slice 25 Try.underlying25 (by kernel_rfl) opens_u8
end Go.Proofs.Yteikdlmejeonaaa
