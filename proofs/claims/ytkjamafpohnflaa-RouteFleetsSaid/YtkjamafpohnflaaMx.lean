/- Steps of drawn regions. -/
import Derived.Test.YtkjamafpohnflaaLu
set_option linter.unusedVariables false
set_option linter.unusedSimpArgs false
set_option linter.unnecessarySimpa false
namespace Go.Proofs.Ytkjamafpohnflaa



end Go.Proofs.Ytkjamafpohnflaa
