/- Law 5: FrontGoesOn, walked. -/
import Derived.Test.YtdbghgpohdijfaaDoorMa35
import Derived.Deep.CutBlock
namespace Go.Proofs.YtdbghgpohdijfaaDoor
open Go.RowKit Go.Scr Go.ChangeMaps Go.MapKept
set_option linter.unusedVariables false
end Go.Proofs.YtdbghgpohdijfaaDoor
