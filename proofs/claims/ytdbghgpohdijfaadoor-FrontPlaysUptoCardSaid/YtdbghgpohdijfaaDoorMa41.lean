/- Law 5: FrontJoins, walked. -/
import Derived.Test.YtdbghgpohdijfaaDoorMa40
import Derived.Test.YtdbghgpohdijfaaDoorMa36
namespace Go.Proofs.YtdbghgpohdijfaaDoor
open Go.RowKit Go.Scr Go.ChangeMaps Go.MapKept
set_option linter.unusedVariables false
end Go.Proofs.YtdbghgpohdijfaaDoor
