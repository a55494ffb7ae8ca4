/- Contracts of the functions that the statements reach, part 16. -/
import Derived.Test.YtbdcjhoedhhabaaGreatF12
set_option linter.unusedSimpArgs false
set_option linter.unusedVariables false

/- Known answers, run by the executor. Printed by genkn.py. -/
namespace Go.Proofs.YtbdcjhoedhhabaaGreat

set_option maxRecDepth 1000000 in
theorem kn5_run:kn5.runs tabs 60=true:=by kernel_rfl

set_option maxRecDepth 1000000 in
theorem kn6_run:kn6.runs tabs 60=true:=by kernel_rfl

set_option maxRecDepth 1000000 in
theorem kn7_run:kn7.runs tabs 60=true:=by kernel_rfl

set_option maxRecDepth 1000000 in
theorem kn8_run:kn8.runs tabs 60=true:=by kernel_rfl

end Go.Proofs.YtbdcjhoedhhabaaGreat

