/- Steps of drawn regions. -/
import Derived.Test.YthljjllcdocfiaaLu
set_option linter.unusedVariables false
set_option linter.unusedSimpArgs false
set_option linter.unnecessarySimpa false
namespace Go.Proofs.Ythljjllcdocfiaa



end Go.Proofs.Ythljjllcdocfiaa
