/- Steps of drawn regions. -/
import Derived.Test.YtgnmolleaengaaaGreatLu
set_option linter.unusedVariables false
set_option linter.unusedSimpArgs false
set_option linter.unnecessarySimpa false
namespace Go.Proofs.YtgnmolleaengaaaGreat



end Go.Proofs.YtgnmolleaengaaaGreat
