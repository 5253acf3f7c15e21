/- The walk of RepairqNil, but for the sanity check. -/
import Derived.Test.YtgnmolleaengaaaGreatQn
set_option linter.unusedVariables false
set_option linter.unusedSimpArgs false
set_option linter.unnecessarySimpa false
namespace Go.Proofs.YtgnmolleaengaaaGreat
open Go Go.RowKit

end Go.Proofs.YtgnmolleaengaaaGreat
