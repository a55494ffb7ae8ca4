/-
  No cell of these rows narrows 'for every input' (looked for: loops, veiled, ifaces, maps, wideKeys, modest, calm, conditions, laid).
  DERIVED. THE GIVEN ROWS OF THIS SEAT. 11 by the template 'for every input the law returns true; each argument reads behind the call as it read before'; 0 by the template 'total and deterministic' (their statements: YtooheapikhdllaaTotals.lean).
  GIVEN WITH THE SEED: the statements are not yours to turn. If you find one false, say at which input.
  Laid BY PROGRAM, IN A SANDBOX (cutbox-rows.mjs): the forced cells as the released guide's own fill.sh prints them over the translation 1529d4acf73aa4cd… (all of the seat's roots in one cut). By AI agents, Wed Nov 11 2026. No macro, syntax, notation, axiom, sorry.
-/
import Derived.Test.YtooheapikhdllaaChecked
import GoSem.Claim
import GoSem.ClaimJoined
import GoSem.ClaimMapViews
import Derived.JoinedTies
import Derived.KernelRfl
namespace Go.Proofs.Ytooheapikhdllaa
/- THE CELL 'sum', in the pinned program and in every row, IS THE sha256 OF THE DUMP (.gsa) THAT YtooheapikhdllaaProg.lean LOADS. Nothing in Lean hashes anything: it is a label: what it is worth is what the hold of that sum in a sandbox is worth. -/
noncomputable def Try.pinned : Pinned := { name := "ytooheapikhdllaa", sum := "1529d4acf73aa4cd6c4bf3eb86b55d46643fc3b8fb35a7c89ed1fa2dbc324857", checked := Try.checked }
namespace Rows
def none {H : Type} : Left H := { results := [], args := [] }

/-- 'keyholelaw02.RationalNew': WHATEVER THE INPUT: true; the input reads as it did. -/
def rationalNewSpec : ChangeSpec := { name := "rationalNew", fn := fun _ => fun
  | [d1, d2] => { results := [.lit (.bool true)], args := [d1, d2] }
  | _ => none }
def rationalNewRow : OpenClaim := { program := "ytooheapikhdllaa", sum := "1529d4acf73aa4cd6c4bf3eb86b55d46643fc3b8fb35a7c89ed1fa2dbc324857", func := "keyhole/keyholelaw02.RationalNew", spec := "rationalNew", named := ["math/bits.overflowError"], apart := false }
def RationalNewSaid : Prop := rationalNewRow.holds Try.pinned (OpenSpec.ofChange rationalNewSpec)

/-- ITS FALSE NEIGHBOUR: 'it returns false'. Refute it at one input. -/
def rationalNewWrong : ChangeSpec := { name := "rationalNew", fn := fun _ => fun
  | [d1, d2] => { results := [.lit (.bool false)], args := [d1, d2] }
  | _ => none }
def RationalNewWrongFalsely : Prop := rationalNewRow.holds Try.pinned (OpenSpec.ofChange rationalNewWrong)

/-- 'keyholelaw02.RationalOf': WHATEVER THE INPUT: true; the input reads as it did. -/
def rationalOfSpec : ChangeSpec := { name := "rationalOf", fn := fun _ => fun
  | [d1, d2] => { results := [.lit (.bool true)], args := [d1, d2] }
  | _ => none }
def rationalOfRow : OpenClaim := { program := "ytooheapikhdllaa", sum := "1529d4acf73aa4cd6c4bf3eb86b55d46643fc3b8fb35a7c89ed1fa2dbc324857", func := "keyhole/keyholelaw02.RationalOf", spec := "rationalOf", named := ["math/bits.overflowError"], apart := false }
def RationalOfSaid : Prop := rationalOfRow.holds Try.pinned (OpenSpec.ofChange rationalOfSpec)

/-- ITS FALSE NEIGHBOUR: 'it returns false'. Refute it at one input. -/
def rationalOfWrong : ChangeSpec := { name := "rationalOf", fn := fun _ => fun
  | [d1, d2] => { results := [.lit (.bool false)], args := [d1, d2] }
  | _ => none }
def RationalOfWrongFalsely : Prop := rationalOfRow.holds Try.pinned (OpenSpec.ofChange rationalOfWrong)

/-- 'keyholelaw02.RationalText': WHATEVER THE INPUT: true; the input reads as it did. -/
def rationalTextSpec : ChangeSpec := { name := "rationalText", fn := fun _ => fun
  | [d] => { results := [.lit (.bool true)], args := [d] }
  | _ => none }
def rationalTextRow : OpenClaim := { program := "ytooheapikhdllaa", sum := "1529d4acf73aa4cd6c4bf3eb86b55d46643fc3b8fb35a7c89ed1fa2dbc324857", func := "keyhole/keyholelaw02.RationalText", spec := "rationalText", named := ["math/bits.overflowError"], apart := false }
def RationalTextSaid : Prop := rationalTextRow.holds Try.pinned (OpenSpec.ofChange rationalTextSpec)

/-- ITS FALSE NEIGHBOUR: 'it returns false'. Refute it at one input. -/
def rationalTextWrong : ChangeSpec := { name := "rationalText", fn := fun _ => fun
  | [d] => { results := [.lit (.bool false)], args := [d] }
  | _ => none }
def RationalTextWrongFalsely : Prop := rationalTextRow.holds Try.pinned (OpenSpec.ofChange rationalTextWrong)

/-- 'keyholelaw02.RationalParse': WHATEVER THE INPUT: true; the input reads as it did. -/
def rationalParseSpec : ChangeSpec := { name := "rationalParse", fn := fun _ => fun
  | [d] => { results := [.lit (.bool true)], args := [d] }
  | _ => none }
def rationalParseRow : OpenClaim := { program := "ytooheapikhdllaa", sum := "1529d4acf73aa4cd6c4bf3eb86b55d46643fc3b8fb35a7c89ed1fa2dbc324857", func := "keyhole/keyholelaw02.RationalParse", spec := "rationalParse", named := ["math/bits.overflowError"], apart := false }
def RationalParseSaid : Prop := rationalParseRow.holds Try.pinned (OpenSpec.ofChange rationalParseSpec)

/-- ITS FALSE NEIGHBOUR: 'it returns false'. Refute it at one input. -/
def rationalParseWrong : ChangeSpec := { name := "rationalParse", fn := fun _ => fun
  | [d] => { results := [.lit (.bool false)], args := [d] }
  | _ => none }
def RationalParseWrongFalsely : Prop := rationalParseRow.holds Try.pinned (OpenSpec.ofChange rationalParseWrong)

/-- 'keyholelaw02.RationalLog': WHATEVER THE INPUT: true; the input reads as it did. -/
def rationalLogSpec : ChangeSpec := { name := "rationalLog", fn := fun _ => fun
  | [d] => { results := [.lit (.bool true)], args := [d] }
  | _ => none }
def rationalLogRow : OpenClaim := { program := "ytooheapikhdllaa", sum := "1529d4acf73aa4cd6c4bf3eb86b55d46643fc3b8fb35a7c89ed1fa2dbc324857", func := "keyhole/keyholelaw02.RationalLog", spec := "rationalLog", named := ["math/bits.overflowError"], apart := false }
def RationalLogSaid : Prop := rationalLogRow.holds Try.pinned (OpenSpec.ofChange rationalLogSpec)

/-- ITS FALSE NEIGHBOUR: 'it returns false'. Refute it at one input. -/
def rationalLogWrong : ChangeSpec := { name := "rationalLog", fn := fun _ => fun
  | [d] => { results := [.lit (.bool false)], args := [d] }
  | _ => none }
def RationalLogWrongFalsely : Prop := rationalLogRow.holds Try.pinned (OpenSpec.ofChange rationalLogWrong)

/-- 'keyholelaw02.RationalOrder': WHATEVER THE INPUT: true; the input reads as it did. -/
def rationalOrderSpec : ChangeSpec := { name := "rationalOrder", fn := fun _ => fun
  | [d1, d2, d3] => { results := [.lit (.bool true)], args := [d1, d2, d3] }
  | _ => none }
def rationalOrderRow : OpenClaim := { program := "ytooheapikhdllaa", sum := "1529d4acf73aa4cd6c4bf3eb86b55d46643fc3b8fb35a7c89ed1fa2dbc324857", func := "keyhole/keyholelaw02.RationalOrder", spec := "rationalOrder", named := ["math/bits.overflowError"], apart := false }
def RationalOrderSaid : Prop := rationalOrderRow.holds Try.pinned (OpenSpec.ofChange rationalOrderSpec)

/-- ITS FALSE NEIGHBOUR: 'it returns false'. Refute it at one input. -/
def rationalOrderWrong : ChangeSpec := { name := "rationalOrder", fn := fun _ => fun
  | [d1, d2, d3] => { results := [.lit (.bool false)], args := [d1, d2, d3] }
  | _ => none }
def RationalOrderWrongFalsely : Prop := rationalOrderRow.holds Try.pinned (OpenSpec.ofChange rationalOrderWrong)

/-- 'keyholelaw02.RationalFloor': WHATEVER THE INPUT: true; the input reads as it did. -/
def rationalFloorSpec : ChangeSpec := { name := "rationalFloor", fn := fun _ => fun
  | [d] => { results := [.lit (.bool true)], args := [d] }
  | _ => none }
def rationalFloorRow : OpenClaim := { program := "ytooheapikhdllaa", sum := "1529d4acf73aa4cd6c4bf3eb86b55d46643fc3b8fb35a7c89ed1fa2dbc324857", func := "keyhole/keyholelaw02.RationalFloor", spec := "rationalFloor", named := ["math/bits.overflowError"], apart := false }
def RationalFloorSaid : Prop := rationalFloorRow.holds Try.pinned (OpenSpec.ofChange rationalFloorSpec)

/-- ITS FALSE NEIGHBOUR: 'it returns false'. Refute it at one input. -/
def rationalFloorWrong : ChangeSpec := { name := "rationalFloor", fn := fun _ => fun
  | [d] => { results := [.lit (.bool false)], args := [d] }
  | _ => none }
def RationalFloorWrongFalsely : Prop := rationalFloorRow.holds Try.pinned (OpenSpec.ofChange rationalFloorWrong)

/-- 'keyholelaw02.RationalArithmetic': WHATEVER THE INPUT: true; the input reads as it did. -/
def rationalArithmeticSpec : ChangeSpec := { name := "rationalArithmetic", fn := fun _ => fun
  | [d1, d2] => { results := [.lit (.bool true)], args := [d1, d2] }
  | _ => none }
def rationalArithmeticRow : OpenClaim := { program := "ytooheapikhdllaa", sum := "1529d4acf73aa4cd6c4bf3eb86b55d46643fc3b8fb35a7c89ed1fa2dbc324857", func := "keyhole/keyholelaw02.RationalArithmetic", spec := "rationalArithmetic", named := ["math/bits.overflowError"], apart := false }
def RationalArithmeticSaid : Prop := rationalArithmeticRow.holds Try.pinned (OpenSpec.ofChange rationalArithmeticSpec)

/-- ITS FALSE NEIGHBOUR: 'it returns false'. Refute it at one input. -/
def rationalArithmeticWrong : ChangeSpec := { name := "rationalArithmetic", fn := fun _ => fun
  | [d1, d2] => { results := [.lit (.bool false)], args := [d1, d2] }
  | _ => none }
def RationalArithmeticWrongFalsely : Prop := rationalArithmeticRow.holds Try.pinned (OpenSpec.ofChange rationalArithmeticWrong)

/-- 'keyholelaw02.RationalField': WHATEVER THE INPUT: true; the input reads as it did. -/
def rationalFieldSpec : ChangeSpec := { name := "rationalField", fn := fun _ => fun
  | [d1, d2, d3] => { results := [.lit (.bool true)], args := [d1, d2, d3] }
  | _ => none }
def rationalFieldRow : OpenClaim := { program := "ytooheapikhdllaa", sum := "1529d4acf73aa4cd6c4bf3eb86b55d46643fc3b8fb35a7c89ed1fa2dbc324857", func := "keyhole/keyholelaw02.RationalField", spec := "rationalField", named := ["math/bits.overflowError"], apart := false }
def RationalFieldSaid : Prop := rationalFieldRow.holds Try.pinned (OpenSpec.ofChange rationalFieldSpec)

/-- ITS FALSE NEIGHBOUR: 'it returns false'. Refute it at one input. -/
def rationalFieldWrong : ChangeSpec := { name := "rationalField", fn := fun _ => fun
  | [d1, d2, d3] => { results := [.lit (.bool false)], args := [d1, d2, d3] }
  | _ => none }
def RationalFieldWrongFalsely : Prop := rationalFieldRow.holds Try.pinned (OpenSpec.ofChange rationalFieldWrong)

/-- 'keyholelaw02.RationalClean': WHATEVER THE INPUT: true; the input reads as it did. -/
def rationalCleanSpec : ChangeSpec := { name := "rationalClean", fn := fun _ => fun
  | [d] => { results := [.lit (.bool true)], args := [d] }
  | _ => none }
def rationalCleanRow : OpenClaim := { program := "ytooheapikhdllaa", sum := "1529d4acf73aa4cd6c4bf3eb86b55d46643fc3b8fb35a7c89ed1fa2dbc324857", func := "keyhole/keyholelaw02.RationalClean", spec := "rationalClean", named := ["math/bits.overflowError"], apart := false }
def RationalCleanSaid : Prop := rationalCleanRow.holds Try.pinned (OpenSpec.ofChange rationalCleanSpec)

/-- ITS FALSE NEIGHBOUR: 'it returns false'. Refute it at one input. -/
def rationalCleanWrong : ChangeSpec := { name := "rationalClean", fn := fun _ => fun
  | [d] => { results := [.lit (.bool false)], args := [d] }
  | _ => none }
def RationalCleanWrongFalsely : Prop := rationalCleanRow.holds Try.pinned (OpenSpec.ofChange rationalCleanWrong)

/-- 'keyholelaw02.RationalFrac': WHATEVER THE INPUT: true; the input reads as it did. -/
def rationalFracSpec : ChangeSpec := { name := "rationalFrac", fn := fun _ => fun
  | [d1, d2, d3] => { results := [.lit (.bool true)], args := [d1, d2, d3] }
  | _ => none }
def rationalFracRow : OpenClaim := { program := "ytooheapikhdllaa", sum := "1529d4acf73aa4cd6c4bf3eb86b55d46643fc3b8fb35a7c89ed1fa2dbc324857", func := "keyhole/keyholelaw02.RationalFrac", spec := "rationalFrac", named := ["math/bits.overflowError"], apart := false }
def RationalFracSaid : Prop := rationalFracRow.holds Try.pinned (OpenSpec.ofChange rationalFracSpec)

/-- ITS FALSE NEIGHBOUR: 'it returns false'. Refute it at one input. -/
def rationalFracWrong : ChangeSpec := { name := "rationalFrac", fn := fun _ => fun
  | [d1, d2, d3] => { results := [.lit (.bool false)], args := [d1, d2, d3] }
  | _ => none }
def RationalFracWrongFalsely : Prop := rationalFracRow.holds Try.pinned (OpenSpec.ofChange rationalFracWrong)

/- THE SECOND FORM. 'bulk': how many values and letters a reading holds, each counted each time it is reached (what is shared counts as often as it is met; a slice's spare places count too). A statement '..UptoSaid' is the law's where the arguments, and the package variables that the reading takes, are together of bulk at most 1048576: NARROWER than '..Said'. Prove '..Said' where nothing that the law and all that it calls make is longer than what came in: it says more and counts as full. Else prove '..UptoSaid'. A law counts once. -/
mutual
def uptoBulk {H : Type} : DataW H → Nat
  | .lit (.string bytes) => bytes.length + 1
  | .lit _ => 1
  | .nil => 1
  | .ptr d => uptoBulk d + 1
  | .slice elems spare => uptoBulkAll elems + uptoBulkAll spare + 1
  | .agg parts => uptoBulkAll parts + 1
  | .iface _ d => uptoBulk d + 1
  | .map entries => uptoBulkEntries entries + 1
  | .held _ => 1
def uptoBulkAll {H : Type} : List (DataW H) → Nat
  | [] => 0
  | d :: r => uptoBulk d + uptoBulkAll r
def uptoBulkEntries {H : Type} : List (Lit × DataW H) → Nat
  | [] => 0
  | x :: r => uptoBulkEntry x + uptoBulkEntries r
def uptoBulkEntry {H : Type} : Lit × DataW H → Nat
  | (.string bytes, d) => bytes.length + uptoBulk d + 1
  | (_, d) => uptoBulk d + 1
 end
def uptoSmall : (H : Type) → List (DataW H) → Bool := fun _ ds => decide (uptoBulkAll ds ≤ 1048576)
def OpenSpec.upto (s : _root_.Go.ChangeSpec) : _root_.Go.OpenSpec := { _root_.Go.OpenSpec.ofChange s with cond := some uptoSmall }

/-- 'keyholelaw02.RationalNew', WHERE WHAT IT READS IS OF BULK AT MOST 1048576: true; the input reads as it did. -/
def rationalNewUptoRow : OpenClaim := { program := "ytooheapikhdllaa", sum := "1529d4acf73aa4cd6c4bf3eb86b55d46643fc3b8fb35a7c89ed1fa2dbc324857", func := "keyhole/keyholelaw02.RationalNew", spec := "rationalNew", named := ["math/bits.overflowError"], apart := false, narrowed := true }
def RationalNewUptoSaid : Prop := rationalNewUptoRow.holds Try.pinned (OpenSpec.upto rationalNewSpec)

/-- 'keyholelaw02.RationalOf', WHERE WHAT IT READS IS OF BULK AT MOST 1048576: true; the input reads as it did. -/
def rationalOfUptoRow : OpenClaim := { program := "ytooheapikhdllaa", sum := "1529d4acf73aa4cd6c4bf3eb86b55d46643fc3b8fb35a7c89ed1fa2dbc324857", func := "keyhole/keyholelaw02.RationalOf", spec := "rationalOf", named := ["math/bits.overflowError"], apart := false, narrowed := true }
def RationalOfUptoSaid : Prop := rationalOfUptoRow.holds Try.pinned (OpenSpec.upto rationalOfSpec)

/-- 'keyholelaw02.RationalText', WHERE WHAT IT READS IS OF BULK AT MOST 1048576: true; the input reads as it did. -/
def rationalTextUptoRow : OpenClaim := { program := "ytooheapikhdllaa", sum := "1529d4acf73aa4cd6c4bf3eb86b55d46643fc3b8fb35a7c89ed1fa2dbc324857", func := "keyhole/keyholelaw02.RationalText", spec := "rationalText", named := ["math/bits.overflowError"], apart := false, narrowed := true }
def RationalTextUptoSaid : Prop := rationalTextUptoRow.holds Try.pinned (OpenSpec.upto rationalTextSpec)

/-- 'keyholelaw02.RationalParse', WHERE WHAT IT READS IS OF BULK AT MOST 1048576: true; the input reads as it did. -/
def rationalParseUptoRow : OpenClaim := { program := "ytooheapikhdllaa", sum := "1529d4acf73aa4cd6c4bf3eb86b55d46643fc3b8fb35a7c89ed1fa2dbc324857", func := "keyhole/keyholelaw02.RationalParse", spec := "rationalParse", named := ["math/bits.overflowError"], apart := false, narrowed := true }
def RationalParseUptoSaid : Prop := rationalParseUptoRow.holds Try.pinned (OpenSpec.upto rationalParseSpec)

/-- 'keyholelaw02.RationalLog', WHERE WHAT IT READS IS OF BULK AT MOST 1048576: true; the input reads as it did. -/
def rationalLogUptoRow : OpenClaim := { program := "ytooheapikhdllaa", sum := "1529d4acf73aa4cd6c4bf3eb86b55d46643fc3b8fb35a7c89ed1fa2dbc324857", func := "keyhole/keyholelaw02.RationalLog", spec := "rationalLog", named := ["math/bits.overflowError"], apart := false, narrowed := true }
def RationalLogUptoSaid : Prop := rationalLogUptoRow.holds Try.pinned (OpenSpec.upto rationalLogSpec)

/-- 'keyholelaw02.RationalOrder', WHERE WHAT IT READS IS OF BULK AT MOST 1048576: true; the input reads as it did. -/
def rationalOrderUptoRow : OpenClaim := { program := "ytooheapikhdllaa", sum := "1529d4acf73aa4cd6c4bf3eb86b55d46643fc3b8fb35a7c89ed1fa2dbc324857", func := "keyhole/keyholelaw02.RationalOrder", spec := "rationalOrder", named := ["math/bits.overflowError"], apart := false, narrowed := true }
def RationalOrderUptoSaid : Prop := rationalOrderUptoRow.holds Try.pinned (OpenSpec.upto rationalOrderSpec)

/-- 'keyholelaw02.RationalFloor', WHERE WHAT IT READS IS OF BULK AT MOST 1048576: true; the input reads as it did. -/
def rationalFloorUptoRow : OpenClaim := { program := "ytooheapikhdllaa", sum := "1529d4acf73aa4cd6c4bf3eb86b55d46643fc3b8fb35a7c89ed1fa2dbc324857", func := "keyhole/keyholelaw02.RationalFloor", spec := "rationalFloor", named := ["math/bits.overflowError"], apart := false, narrowed := true }
def RationalFloorUptoSaid : Prop := rationalFloorUptoRow.holds Try.pinned (OpenSpec.upto rationalFloorSpec)

/-- 'keyholelaw02.RationalArithmetic', WHERE WHAT IT READS IS OF BULK AT MOST 1048576: true; the input reads as it did. -/
def rationalArithmeticUptoRow : OpenClaim := { program := "ytooheapikhdllaa", sum := "1529d4acf73aa4cd6c4bf3eb86b55d46643fc3b8fb35a7c89ed1fa2dbc324857", func := "keyhole/keyholelaw02.RationalArithmetic", spec := "rationalArithmetic", named := ["math/bits.overflowError"], apart := false, narrowed := true }
def RationalArithmeticUptoSaid : Prop := rationalArithmeticUptoRow.holds Try.pinned (OpenSpec.upto rationalArithmeticSpec)

/-- 'keyholelaw02.RationalField', WHERE WHAT IT READS IS OF BULK AT MOST 1048576: true; the input reads as it did. -/
def rationalFieldUptoRow : OpenClaim := { program := "ytooheapikhdllaa", sum := "1529d4acf73aa4cd6c4bf3eb86b55d46643fc3b8fb35a7c89ed1fa2dbc324857", func := "keyhole/keyholelaw02.RationalField", spec := "rationalField", named := ["math/bits.overflowError"], apart := false, narrowed := true }
def RationalFieldUptoSaid : Prop := rationalFieldUptoRow.holds Try.pinned (OpenSpec.upto rationalFieldSpec)

/-- 'keyholelaw02.RationalClean', WHERE WHAT IT READS IS OF BULK AT MOST 1048576: true; the input reads as it did. -/
def rationalCleanUptoRow : OpenClaim := { program := "ytooheapikhdllaa", sum := "1529d4acf73aa4cd6c4bf3eb86b55d46643fc3b8fb35a7c89ed1fa2dbc324857", func := "keyhole/keyholelaw02.RationalClean", spec := "rationalClean", named := ["math/bits.overflowError"], apart := false, narrowed := true }
def RationalCleanUptoSaid : Prop := rationalCleanUptoRow.holds Try.pinned (OpenSpec.upto rationalCleanSpec)

/-- 'keyholelaw02.RationalFrac', WHERE WHAT IT READS IS OF BULK AT MOST 1048576: true; the input reads as it did. -/
def rationalFracUptoRow : OpenClaim := { program := "ytooheapikhdllaa", sum := "1529d4acf73aa4cd6c4bf3eb86b55d46643fc3b8fb35a7c89ed1fa2dbc324857", func := "keyhole/keyholelaw02.RationalFrac", spec := "rationalFrac", named := ["math/bits.overflowError"], apart := false, narrowed := true }
def RationalFracUptoSaid : Prop := rationalFracUptoRow.holds Try.pinned (OpenSpec.upto rationalFracSpec)

end Rows
end Go.Proofs.Ytooheapikhdllaa
