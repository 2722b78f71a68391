/- What the view's laws take, Vt28: PzZ. -/
import Derived.Test.YtpeiejkcoadhfaaVt23
set_option linter.all false
namespace Go.Proofs.Ytpeiejkcoadhfaa
open Go.RowKit Go.Shelf Go.Proofs.YtpeiejkcoadhfaaW.PrintWords Go.Proofs.YtpeiejkcoadhfaaW.PrintMore
open Go.BigFrame
attribute [local go_sem] Oper.semAt_some
end Go.Proofs.Ytpeiejkcoadhfaa
