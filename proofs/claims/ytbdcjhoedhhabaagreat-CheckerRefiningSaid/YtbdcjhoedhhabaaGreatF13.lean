/- Contracts of the functions that the statements reach, part 13. -/
import Derived.Test.YtbdcjhoedhhabaaGreatF12
set_option linter.unusedSimpArgs false
set_option linter.unusedVariables false

/- Known answers, run by the executor. Printed by genkn.py. -/
namespace Go.Proofs.YtbdcjhoedhhabaaGreat

set_option maxRecDepth 1000000 in
theorem kn1_run:kn1.runs tabs 60=true:=by kernel_rfl

end Go.Proofs.YtbdcjhoedhhabaaGreat

