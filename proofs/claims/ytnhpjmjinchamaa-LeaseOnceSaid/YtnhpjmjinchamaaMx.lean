/- Steps of drawn regions. -/
import Derived.Test.YtnhpjmjinchamaaLu
set_option linter.unusedVariables false
set_option linter.unusedSimpArgs false
set_option linter.unnecessarySimpa false
namespace Go.Proofs.Ytnhpjmjinchamaa



end Go.Proofs.Ytnhpjmjinchamaa
