/- Contracts of the functions that the statements reach, part 50. -/
import Derived.Test.YtbdcjhoedhhabaaGreatRows
import Derived.JoinedOf
import Derived.KernelRfl
set_option linter.unusedSimpArgs false
set_option linter.unusedVariables false

/- The closed facts of a row, one by one: together they are too dear for one check of the kernel. -/
namespace Go.Proofs.YtbdcjhoedhhabaaGreat

/-- The facts that cost little. -/
def cheapFacts (P:Program) (fn:Func) (s:ChangeSpec) (c:OpenClaim):Bool:=
 c.wf (OpenSpec.ofChange s) &&
 fn.params.all (P.readableRec ·) && namedTie P c.named s.vars &&
 (c.stops == []) && (P.stops == []) && (c.knobs == []) && (P.stopKnobs == []) &&
 (c.maps == (fn.params.toList ++ s.plain.varTypes P).any (P.mapsRec ·)) && (c.ifaces == (fn.params.toList ++ s.plain.varTypes P).any (P.ifacesRec ·)) && (c.mapsOut == P.mapsAmong fn.resultTypes.toList) &&
 (c.loops == (fn.params.toList ++ s.plain.varTypes P).any (P.loopsFrom ·)) && (c.wideKeys == (fn.params.toList ++ s.plain.varTypes P ++ fn.resultTypes.toList).any (P.wideKeysFrom ·)) &&
 s.vars.all (P.varReadable ·) && fn.resultTypes.all (fun t=>P.readableRec t && decide (t<P.types.size)) && (c.ifacesOut == fn.resultTypes.toList.any (P.ifacesRec ·)) && (c.loopsOut == fn.resultTypes.toList.any (P.loopsFrom ·)) && (c.plainKeys == P.plainKeys) && c.shortTexts.isNone && P.stopsHeard && P.mayEnter && (c.lifted == P.liftsFinal) && (P.make == some c.make) && (c.kinds == (if c.domain.isEmpty then [] else fn.params.toList.map fun t=>match P.underlying t with | some (.int k)=>some k | _=>none)) && (c.pinned == c.pinnedBy) &&
 (c.veiled == (fn.params.toList ++ s.plain.varTypes P ++ fn.resultTypes.toList).any (P.veiledRec ·)) && c.veiledFits P fn.params.toList (fn.params.toList ++ s.plain.varTypes P ++ fn.resultTypes.toList)

theorem joined_mk {P:Program} {f:FuncId} {fn:Func} {s:ChangeSpec} {c:OpenClaim} (h1:laidOutB P=true) (h2:mapsRowed P=true) (h3:(c.inPlace == P.inPlace f)=true) (h4:(c.unfollowed == P.unfollowed f)=true)
 (h5:(c.recurses == P.recurses f)=true) (h6:(c.named == P.varsNamed f)=true) (h:cheapFacts P fn s c=true):joinedFacts P f fn s c=true:=by
 unfold joinedFacts
 rw [h1,h2,h3,h4,h5,h6]
 simp only [Bool.and_true]
 exact h

theorem rowed:mapsRowed Tryz.prog=true:=by kernel_rfl

end Go.Proofs.YtbdcjhoedhhabaaGreat

