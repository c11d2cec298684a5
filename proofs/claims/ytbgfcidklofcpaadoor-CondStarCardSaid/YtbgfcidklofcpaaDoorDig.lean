/- pantlerref25.Digits at numbers that are not below 0. -/
import Derived.Test.YtbgfcidklofcpaaDoorDec
namespace Go.Proofs.YtbgfcidklofcpaaDoor
open Go.RowKit Go.Shelf
set_option linter.unusedVariables false
set_option linter.unusedSimpArgs false
set_option maxRecDepth 100000
end Go.Proofs.YtbgfcidklofcpaaDoor
