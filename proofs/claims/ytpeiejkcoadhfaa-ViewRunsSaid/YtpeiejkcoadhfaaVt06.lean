/- What the view's laws take, Vt06: WEqStruct. -/
import Derived.Test.YtpeiejkcoadhfaaVt01
import Derived.Laws.StructEq
set_option linter.all false
namespace Go.Proofs.YtpeiejkcoadhfaaW.PrintWords
open Go.RowKit
section
variable {P : Program} {d : Nat} {xs ys : Array Value} {f : Field} {fs : List Field} {a b : Value} {r s : Bool} {w : World}
end
end Go.Proofs.YtpeiejkcoadhfaaW.PrintWords
