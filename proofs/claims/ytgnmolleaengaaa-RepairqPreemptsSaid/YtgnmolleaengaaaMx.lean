/- Steps of drawn regions. -/
import Derived.Test.YtgnmolleaengaaaLu
set_option linter.unusedVariables false
set_option linter.unusedSimpArgs false
set_option linter.unnecessarySimpa false
namespace Go.Proofs.Ytgnmolleaengaaa



end Go.Proofs.Ytgnmolleaengaaa
