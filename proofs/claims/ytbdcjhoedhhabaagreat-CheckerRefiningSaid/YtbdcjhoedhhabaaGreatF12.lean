/- Contracts of the functions that the statements reach, part 12. -/
import Derived.Test.YtbdcjhoedhhabaaGreatProg
import Derived.WalkKit
import Derived.Test.YtbdcjhoedhhabaaGreatF11
set_option linter.unusedSimpArgs false
set_option linter.unusedVariables false

/- The tables of the program, and the calls of the known answers that are run apart. Printed by genkn.py. -/
namespace Go.Proofs.YtbdcjhoedhhabaaGreat

noncomputable def tabs:Tabs:={ ty:=Tr.build 700 Tryz.prog.types.toList,fn:=Tr.build 700 Tryz.prog.funcs.toList,eqs:=[157,200,279] }

/-- checker.Exact: 28713 operations. -/
noncomputable def kn1:Entry:={ f:=16,vs:=[.agg [.sl 2 0 1 1 false, .nilSl, .sl 3 0 1 1 false], .agg [.nilSl, .bool false], .agg [.sl 8 0 3 3 false, .sl 14 0 5 5 false], .int .i64 3],bl:=[(2,[.str ⟨#[120]⟩, .int .i64 1, 
 .int .i64 0, .int .i64 2, .int .i64 0]),(3,[.int .i64 1, .int .i64 0, .int .i64 0, .int .i64 0, .int .i64 24, .int .i64 0, .nilSl, .nilSl, .nilSl, .nilSl]),(8,[.sl 5 0 1 1 false, .int .i64 0, .sl 6 0 1 1 false, 
 .int .i64 0, .sl 7 0 1 1 false, .int .i64 0]),(5,[.int .i64 0]),(6,[.int .i64 1]),(7,[.int .i64 2]),(14,[.int .i64 0, .int .i64 0, .sl 9 0 2 2 false, .nilSl, .int .i64 0, .int .i64 0, .int .i64 0, .nilSl, 
 .sl 10 0 1 1 false, .int .i64 0, .int .i64 0, .int .i64 1, .sl 11 0 2 2 false, .nilSl, .int .i64 0, .int .i64 0, .int .i64 0, .nilSl, .sl 12 0 1 1 false, .int .i64 0, .int .i64 0, .int .i64 0, .nilSl, 
 .sl 13 0 1 1 false, .int .i64 0]),(9,[.int .i64 1, .int .i64 2]),(10,[.int .i64 0]),(11,[.int .i64 3, .int .i64 4]),(12,[.int .i64 1]),(13,[.int .i64 2])],nx:=24,v:= .int .i64 0 }

/-- checker.Exact: 28713 operations. -/
noncomputable def kn2:Entry:={ f:=16,vs:=[.agg [.sl 2 0 1 1 false, .nilSl, .sl 3 0 1 1 false], .agg [.nilSl, .bool false], .agg [.sl 8 0 3 3 false, .sl 14 0 5 5 false], .int .i64 2],bl:=[(2,[.str ⟨#[120]⟩, .int .i64 1, 
 .int .i64 0, .int .i64 2, .int .i64 0]),(3,[.int .i64 1, .int .i64 0, .int .i64 0, .int .i64 0, .int .i64 24, .int .i64 0, .nilSl, .nilSl, .nilSl, .nilSl]),(8,[.sl 5 0 1 1 false, .int .i64 0, .sl 6 0 1 1 false, 
 .int .i64 0, .sl 7 0 1 1 false, .int .i64 0]),(5,[.int .i64 0]),(6,[.int .i64 1]),(7,[.int .i64 2]),(14,[.int .i64 0, .int .i64 0, .sl 9 0 2 2 false, .nilSl, .int .i64 0, .int .i64 0, .int .i64 0, .nilSl, 
 .sl 10 0 1 1 false, .int .i64 0, .int .i64 0, .int .i64 1, .sl 11 0 2 2 false, .nilSl, .int .i64 0, .int .i64 0, .int .i64 0, .nilSl, .sl 12 0 1 1 false, .int .i64 0, .int .i64 0, .int .i64 0, .nilSl, 
 .sl 13 0 1 1 false, .int .i64 0]),(9,[.int .i64 1, .int .i64 2]),(10,[.int .i64 0]),(11,[.int .i64 3, .int .i64 4]),(12,[.int .i64 1]),(13,[.int .i64 2])],nx:=24,v:= .int .i64 13 }

/-- checker.Upper: 17913 operations. -/
noncomputable def kn3:Entry:={ f:=18,vs:=[.agg [.sl 2 0 1 1 false, .nilSl, .sl 3 0 1 1 false], .agg [.nilSl, .bool false], .agg [.nilSl, .sl 18 0 3 3 false], .int .i64 3],bl:=[(2,[.str ⟨#[120]⟩, .int .i64 1, .int .i64 0, 
 .int .i64 2, .int .i64 0]),(3,[.int .i64 1, .int .i64 0, .int .i64 0, .int .i64 0, .int .i64 24, .int .i64 0, .nilSl, .nilSl, .nilSl, .nilSl]),(18,[.int .i64 0, .int .i64 0, .sl 17 0 2 2 false, .nilSl, .int .i64 0, 
 .int .i64 0, .int .i64 0, .nilSl, .nilSl, .int .i64 0, .int .i64 0, .int .i64 0, .nilSl, .nilSl, .int .i64 0]),(17,[.int .i64 1, .int .i64 2])],nx:=24,v:= .int .i64 0 }

/-- checker.Upper: 17913 operations. -/
noncomputable def kn4:Entry:={ f:=18,vs:=[.agg [.sl 2 0 1 1 false, .nilSl, .sl 3 0 1 1 false], .agg [.nilSl, .bool false], .agg [.nilSl, .sl 18 0 3 3 false], .int .i64 2],bl:=[(2,[.str ⟨#[120]⟩, .int .i64 1, .int .i64 0, 
 .int .i64 2, .int .i64 0]),(3,[.int .i64 1, .int .i64 0, .int .i64 0, .int .i64 0, .int .i64 24, .int .i64 0, .nilSl, .nilSl, .nilSl, .nilSl]),(18,[.int .i64 0, .int .i64 0, .sl 17 0 2 2 false, .nilSl, .int .i64 0, 
 .int .i64 0, .int .i64 0, .nilSl, .nilSl, .int .i64 0, .int .i64 0, .int .i64 0, .nilSl, .nilSl, .int .i64 0]),(17,[.int .i64 1, .int .i64 2])],nx:=24,v:= .int .i64 13 }

/-- checker.Ledger: 8077 operations. -/
noncomputable def kn5:Entry:={ f:=33,vs:=[.agg [.int .i64 0, .sl 20 0 1 1 false, .sl 21 0 1 1 false, .sl 22 0 1 1 false], .sl 24 0 1 1 false],bl:=[(20,[.int .i64 3]),(21,[.int .i64 0]),(22,[.sl 2 0 1 1 false, .nilSl, 
 .sl 3 0 1 1 false]),(2,[.str ⟨#[120]⟩, .int .i64 1, .int .i64 0, .int .i64 2, .int .i64 0]),(3,[.int .i64 1, .int .i64 0, .int .i64 0, .int .i64 0, .int .i64 24, .int .i64 0, .nilSl, .nilSl, .nilSl, .nilSl]),(24, 
 [.int .i64 1, .int .i64 0, .int .i64 0, .int .i64 0, .int .i64 1, .int .i64 0, .int .i64 0, .int .i64 0, .int .i64 3])],nx:=25,v:= .int .i64 0 }

/-- checker.Ledger: 7202 operations. -/
noncomputable def kn6:Entry:={ f:=33,vs:=[.agg [.int .i64 0, .sl 20 0 1 1 false, .sl 21 0 1 1 false, .sl 22 0 1 1 false], .sl 25 0 1 1 false],bl:=[(20,[.int .i64 3]),(21,[.int .i64 0]),(22,[.sl 2 0 1 1 false, .nilSl, 
 .sl 3 0 1 1 false]),(2,[.str ⟨#[120]⟩, .int .i64 1, .int .i64 0, .int .i64 2, .int .i64 0]),(3,[.int .i64 1, .int .i64 0, .int .i64 0, .int .i64 0, .int .i64 24, .int .i64 0, .nilSl, .nilSl, .nilSl, .nilSl]),(25, 
 [.int .i64 1, .int .i64 0, .int .i64 0, .int .i64 0, .int .i64 1, .int .i64 0, .int .i64 0, .int .i64 0, .int .i64 0])],nx:=26,v:= .int .i64 13 }

/-- checker.Same: 2443 operations. -/
noncomputable def kn7:Entry:={ f:=39,vs:=[.agg [.sl 2 0 1 1 false, .nilSl, .sl 3 0 1 1 false], .agg [.sl 2 0 1 1 false, .nilSl, .sl 3 0 1 1 false]],bl:=[(2,[.str ⟨#[120]⟩, .int .i64 1, .int .i64 0, .int .i64 2, .int .i64 0]), 
 (3,[.int .i64 1, .int .i64 0, .int .i64 0, .int .i64 0, .int .i64 24, .int .i64 0, .nilSl, .nilSl, .nilSl, .nilSl])],nx:=36,v:= .int .i64 0 }

/-- checker.Same: 1468 operations. -/
noncomputable def kn8:Entry:={ f:=39,vs:=[.agg [.sl 2 0 1 1 false, .nilSl, .sl 3 0 1 1 false], .agg [.nilSl, .nilSl, .nilSl]],bl:=[(2,[.str ⟨#[120]⟩, .int .i64 1, .int .i64 0, .int .i64 2, .int .i64 0]),(3,[.int .i64 1, 
 .int .i64 0, .int .i64 0, .int .i64 0, .int .i64 24, .int .i64 0, .nilSl, .nilSl, .nilSl, .nilSl])],nx:=36,v:= .int .i64 2 }

end Go.Proofs.YtbdcjhoedhhabaaGreat

