/- What the view's laws take, Vt30: PzAB. -/
import Derived.Test.YtpeiejkcoadhfaaVt23
import Derived.Test.YtpeiejkcoadhfaaVt29
import Derived.Deep.RegionHeld3
import Derived.Deep.RegionHeldLaw
set_option linter.all false
namespace Go.Proofs.Ytpeiejkcoadhfaa
open Go.RowKit Go.Shelf Go.Proofs.YtpeiejkcoadhfaaW.PrintWords Go.Proofs.YtpeiejkcoadhfaaW.PrintMore
open Go.BigFrame
attribute [local go_sem] Oper.semAt_some
end Go.Proofs.Ytpeiejkcoadhfaa
