/- Roots of the past by the bits of the size: plain. -/
import Derived.Test.YtdbghgpohdijfaaDoorMa23
namespace Go.Proofs.YtdbghgpohdijfaaDoor
open Go.RowKit Go.Scr Go.ChangeMaps Go.MapKept
set_option linter.unusedVariables false
end Go.Proofs.YtdbghgpohdijfaaDoor
