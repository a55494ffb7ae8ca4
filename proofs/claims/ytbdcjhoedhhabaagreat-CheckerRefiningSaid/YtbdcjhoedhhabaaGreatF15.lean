/- Contracts of the functions that the statements reach, part 15. -/
import Derived.Test.YtbdcjhoedhhabaaGreatF12
set_option linter.unusedSimpArgs false
set_option linter.unusedVariables false

/- Known answers, run by the executor. Printed by genkn.py. -/
namespace Go.Proofs.YtbdcjhoedhhabaaGreat

set_option maxRecDepth 1000000 in
theorem kn3_run:kn3.runs tabs 60=true:=by kernel_rfl

set_option maxRecDepth 1000000 in
theorem kn4_run:kn4.runs tabs 60=true:=by kernel_rfl

end Go.Proofs.YtbdcjhoedhhabaaGreat

