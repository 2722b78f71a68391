/- What the view's laws take, Vu06: WEqStruct. -/
import Derived.Test.YtpeiejkcoadhfaaVu01
import Derived.Laws.StructEq
set_option linter.all false
namespace Go.Proofs.YtpeiejkcoadhfaaW.PrintWords
open Go.RowKit
section
variable {P : Program} {d : Nat} {xs ys : Array Value} {f : Field} {fs : List Field} {a b : Value} {r s : Bool} {w : World}
end
end Go.Proofs.YtpeiejkcoadhfaaW.PrintWords
