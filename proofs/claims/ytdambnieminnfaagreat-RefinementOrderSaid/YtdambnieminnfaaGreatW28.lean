/- Contracts of the functions that the statements reach, part 28. -/
import Derived.Test.YtdambnieminnfaaGreatRows
import Derived.Test.YtdambnieminnfaaGreatW27
set_option linter.unusedSimpArgs false
set_option linter.unusedVariables false

/- The law's side of layer 40: witness. -/
namespace Go.Proofs.YtdambnieminnfaaGreat
open Go.RowKit
attribute [local go_sem ↓] Go.wp_at_zero Go.wp_at_succ

/- The law's side of layer 40: worth. -/

end Go.Proofs.YtdambnieminnfaaGreat

