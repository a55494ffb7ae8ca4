/-
  NARROWER THAN 'FOR EVERY INPUT', by the rows' own cells (each row's printed sentence says how): CheckerExact: loops · CheckerUpper: loops · CheckerSound: loops · CheckerLedger: loops · CheckerSame: loops.
  DERIVED. THE GIVEN ROWS OF THIS SEAT. 11 by the template 'for every input the law returns true; each argument reads behind the call as it read before'; 0 by the template 'total and deterministic' (their statements: YtbdcjhoedhhabaaGreatTotals.lean).
  GIVEN WITH THE SEED: the statements are not yours to turn. If you find one false, say at which input.
  Laid BY PROGRAM, IN A SANDBOX (cutbox-rows.mjs): the forced cells as the released guide's own fill.sh prints them over the translation 12f38b5cf03b3437… (all of the seat's roots in one cut). By AI agents, Wed Nov 11 2026. No macro, syntax, notation, axiom, sorry.
-/
import Derived.Test.YtbdcjhoedhhabaaGreatChecked
import GoSem.Claim
import GoSem.ClaimJoined
import GoSem.ClaimMapViews
import Derived.JoinedTies
import Derived.KernelRfl
namespace Go.Proofs.YtbdcjhoedhhabaaGreat
/- THE CELL 'sum', in the pinned program and in every row, IS THE sha256 OF THE DUMP (.gsa) THAT YtbdcjhoedhhabaaGreatProg.lean LOADS. Nothing in Lean hashes anything: it is a label: what it is worth is what the hold of that sum in a sandbox is worth. -/
noncomputable def Tryz.pinned : Pinned := { name := "ytbdcjhoedhhabaagreat", sum := "12f38b5cf03b34375961642fdddccb0506a037cd5ebb82607583c91881a7e345", checked := Tryz.checked }
namespace Rows
def none {H : Type} : Left H := { results := [], args := [] }

/-- 'keyholelaw48.CheckerExact': WHATEVER THE INPUT: true; the input reads as it did. -/
def checkerExactSpec : ChangeSpec := { name := "checkerExact", fn := fun _ => fun
  | [d1, d2, d3] => { results := [.lit (.bool true)], args := [d1, d2, d3] }
  | _ => none }
def checkerExactRow : OpenClaim := { program := "ytbdcjhoedhhabaagreat", sum := "12f38b5cf03b34375961642fdddccb0506a037cd5ebb82607583c91881a7e345", func := "keyhole/keyholelaw48.CheckerExact", spec := "checkerExact", inPlace := ["slices.overlaps[keyhole/api.Observation]"], unfollowed := true, recurses := true, named := ["math/bits.divideError", "math/bits.overflowError"], loops := true, plainKeys := false, apart := false }
def CheckerExactSaid : Prop := checkerExactRow.holds Tryz.pinned (OpenSpec.ofChange checkerExactSpec)

/-- ITS FALSE NEIGHBOUR: 'it returns false'. Refute it at one input. -/
def checkerExactWrong : ChangeSpec := { name := "checkerExact", fn := fun _ => fun
  | [d1, d2, d3] => { results := [.lit (.bool false)], args := [d1, d2, d3] }
  | _ => none }
def CheckerExactWrongFalsely : Prop := checkerExactRow.holds Tryz.pinned (OpenSpec.ofChange checkerExactWrong)

/-- 'keyholelaw48.CheckerUpper': WHATEVER THE INPUT: true; the input reads as it did. -/
def checkerUpperSpec : ChangeSpec := { name := "checkerUpper", fn := fun _ => fun
  | [d1, d2, d3] => { results := [.lit (.bool true)], args := [d1, d2, d3] }
  | _ => none }
def checkerUpperRow : OpenClaim := { program := "ytbdcjhoedhhabaagreat", sum := "12f38b5cf03b34375961642fdddccb0506a037cd5ebb82607583c91881a7e345", func := "keyhole/keyholelaw48.CheckerUpper", spec := "checkerUpper", inPlace := ["slices.overlaps[keyhole/api.Observation]"], unfollowed := true, recurses := true, named := ["math/bits.divideError", "math/bits.overflowError"], loops := true, plainKeys := false, apart := false }
def CheckerUpperSaid : Prop := checkerUpperRow.holds Tryz.pinned (OpenSpec.ofChange checkerUpperSpec)

/-- ITS FALSE NEIGHBOUR: 'it returns false'. Refute it at one input. -/
def checkerUpperWrong : ChangeSpec := { name := "checkerUpper", fn := fun _ => fun
  | [d1, d2, d3] => { results := [.lit (.bool false)], args := [d1, d2, d3] }
  | _ => none }
def CheckerUpperWrongFalsely : Prop := checkerUpperRow.holds Tryz.pinned (OpenSpec.ofChange checkerUpperWrong)

/-- 'keyholelaw48.CheckerSound': WHATEVER THE INPUT: true; the input reads as it did. -/
def checkerSoundSpec : ChangeSpec := { name := "checkerSound", fn := fun _ => fun
  | [d1, d2, d3] => { results := [.lit (.bool true)], args := [d1, d2, d3] }
  | _ => none }
def checkerSoundRow : OpenClaim := { program := "ytbdcjhoedhhabaagreat", sum := "12f38b5cf03b34375961642fdddccb0506a037cd5ebb82607583c91881a7e345", func := "keyhole/keyholelaw48.CheckerSound", spec := "checkerSound", inPlace := ["slices.overlaps[keyhole/api.Observation]"], unfollowed := true, recurses := true, named := ["math/bits.divideError", "math/bits.overflowError"], loops := true, plainKeys := false, apart := false }
def CheckerSoundSaid : Prop := checkerSoundRow.holds Tryz.pinned (OpenSpec.ofChange checkerSoundSpec)

/-- ITS FALSE NEIGHBOUR: 'it returns false'. Refute it at one input. -/
def checkerSoundWrong : ChangeSpec := { name := "checkerSound", fn := fun _ => fun
  | [d1, d2, d3] => { results := [.lit (.bool false)], args := [d1, d2, d3] }
  | _ => none }
def CheckerSoundWrongFalsely : Prop := checkerSoundRow.holds Tryz.pinned (OpenSpec.ofChange checkerSoundWrong)

/-- 'keyholelaw48.CheckerLedger': WHATEVER THE INPUT: true; the input reads as it did. -/
def checkerLedgerSpec : ChangeSpec := { name := "checkerLedger", fn := fun _ => fun
  | [d1, d2] => { results := [.lit (.bool true)], args := [d1, d2] }
  | _ => none }
def checkerLedgerRow : OpenClaim := { program := "ytbdcjhoedhhabaagreat", sum := "12f38b5cf03b34375961642fdddccb0506a037cd5ebb82607583c91881a7e345", func := "keyhole/keyholelaw48.CheckerLedger", spec := "checkerLedger", inPlace := ["slices.overlaps[keyhole/api.Observation]"], unfollowed := true, recurses := true, named := ["math/bits.divideError", "math/bits.overflowError"], loops := true, plainKeys := false, apart := false }
def CheckerLedgerSaid : Prop := checkerLedgerRow.holds Tryz.pinned (OpenSpec.ofChange checkerLedgerSpec)

/-- ITS FALSE NEIGHBOUR: 'it returns false'. Refute it at one input. -/
def checkerLedgerWrong : ChangeSpec := { name := "checkerLedger", fn := fun _ => fun
  | [d1, d2] => { results := [.lit (.bool false)], args := [d1, d2] }
  | _ => none }
def CheckerLedgerWrongFalsely : Prop := checkerLedgerRow.holds Tryz.pinned (OpenSpec.ofChange checkerLedgerWrong)

/-- 'keyholelaw48.CheckerLinear': WHATEVER THE INPUT: true; the input reads as it did. -/
def checkerLinearSpec : ChangeSpec := { name := "checkerLinear", fn := fun _ => fun
  | [d1, d2] => { results := [.lit (.bool true)], args := [d1, d2] }
  | _ => none }
def checkerLinearRow : OpenClaim := { program := "ytbdcjhoedhhabaagreat", sum := "12f38b5cf03b34375961642fdddccb0506a037cd5ebb82607583c91881a7e345", func := "keyhole/keyholelaw48.CheckerLinear", spec := "checkerLinear", inPlace := ["slices.overlaps[keyhole/api.Observation]"], unfollowed := true, recurses := true, named := ["math/bits.divideError", "math/bits.overflowError"], plainKeys := false, apart := false }
def CheckerLinearSaid : Prop := checkerLinearRow.holds Tryz.pinned (OpenSpec.ofChange checkerLinearSpec)

/-- ITS FALSE NEIGHBOUR: 'it returns false'. Refute it at one input. -/
def checkerLinearWrong : ChangeSpec := { name := "checkerLinear", fn := fun _ => fun
  | [d1, d2] => { results := [.lit (.bool false)], args := [d1, d2] }
  | _ => none }
def CheckerLinearWrongFalsely : Prop := checkerLinearRow.holds Tryz.pinned (OpenSpec.ofChange checkerLinearWrong)

/-- 'keyholelaw48.CheckerSame': WHATEVER THE INPUT: true; the input reads as it did. -/
def checkerSameSpec : ChangeSpec := { name := "checkerSame", fn := fun _ => fun
  | [d1, d2] => { results := [.lit (.bool true)], args := [d1, d2] }
  | _ => none }
def checkerSameRow : OpenClaim := { program := "ytbdcjhoedhhabaagreat", sum := "12f38b5cf03b34375961642fdddccb0506a037cd5ebb82607583c91881a7e345", func := "keyhole/keyholelaw48.CheckerSame", spec := "checkerSame", inPlace := ["slices.overlaps[keyhole/api.Observation]"], unfollowed := true, recurses := true, named := ["math/bits.divideError", "math/bits.overflowError"], loops := true, plainKeys := false, apart := false }
def CheckerSameSaid : Prop := checkerSameRow.holds Tryz.pinned (OpenSpec.ofChange checkerSameSpec)

/-- ITS FALSE NEIGHBOUR: 'it returns false'. Refute it at one input. -/
def checkerSameWrong : ChangeSpec := { name := "checkerSame", fn := fun _ => fun
  | [d1, d2] => { results := [.lit (.bool false)], args := [d1, d2] }
  | _ => none }
def CheckerSameWrongFalsely : Prop := checkerSameRow.holds Tryz.pinned (OpenSpec.ofChange checkerSameWrong)

/-- 'keyholelaw48.CheckerHard': WHATEVER THE INPUT: true; the input reads as it did. -/
def checkerHardSpec : ChangeSpec := { name := "checkerHard", fn := fun _ => fun
  | [d1, d2, d3] => { results := [.lit (.bool true)], args := [d1, d2, d3] }
  | _ => none }
def checkerHardRow : OpenClaim := { program := "ytbdcjhoedhhabaagreat", sum := "12f38b5cf03b34375961642fdddccb0506a037cd5ebb82607583c91881a7e345", func := "keyhole/keyholelaw48.CheckerHard", spec := "checkerHard", inPlace := ["slices.overlaps[keyhole/api.Observation]"], unfollowed := true, recurses := true, named := ["math/bits.divideError", "math/bits.overflowError"], plainKeys := false, apart := false }
def CheckerHardSaid : Prop := checkerHardRow.holds Tryz.pinned (OpenSpec.ofChange checkerHardSpec)

/-- ITS FALSE NEIGHBOUR: 'it returns false'. Refute it at one input. -/
def checkerHardWrong : ChangeSpec := { name := "checkerHard", fn := fun _ => fun
  | [d1, d2, d3] => { results := [.lit (.bool false)], args := [d1, d2, d3] }
  | _ => none }
def CheckerHardWrongFalsely : Prop := checkerHardRow.holds Tryz.pinned (OpenSpec.ofChange checkerHardWrong)

/-- 'keyholelaw48.CheckerSegments': WHATEVER THE INPUT: true; the input reads as it did. -/
def checkerSegmentsSpec : ChangeSpec := { name := "checkerSegments", fn := fun _ => fun
  | [d1, d2, d3] => { results := [.lit (.bool true)], args := [d1, d2, d3] }
  | _ => none }
def checkerSegmentsRow : OpenClaim := { program := "ytbdcjhoedhhabaagreat", sum := "12f38b5cf03b34375961642fdddccb0506a037cd5ebb82607583c91881a7e345", func := "keyhole/keyholelaw48.CheckerSegments", spec := "checkerSegments", inPlace := ["slices.overlaps[keyhole/api.Observation]"], unfollowed := true, recurses := true, named := ["math/bits.divideError", "math/bits.overflowError"], plainKeys := false, apart := false }
def CheckerSegmentsSaid : Prop := checkerSegmentsRow.holds Tryz.pinned (OpenSpec.ofChange checkerSegmentsSpec)

/-- ITS FALSE NEIGHBOUR: 'it returns false'. Refute it at one input. -/
def checkerSegmentsWrong : ChangeSpec := { name := "checkerSegments", fn := fun _ => fun
  | [d1, d2, d3] => { results := [.lit (.bool false)], args := [d1, d2, d3] }
  | _ => none }
def CheckerSegmentsWrongFalsely : Prop := checkerSegmentsRow.holds Tryz.pinned (OpenSpec.ofChange checkerSegmentsWrong)

/-- 'keyholelaw48.CheckerBellman': WHATEVER THE INPUT: true; the input reads as it did. -/
def checkerBellmanSpec : ChangeSpec := { name := "checkerBellman", fn := fun _ => fun
  | [d1, d2, d3] => { results := [.lit (.bool true)], args := [d1, d2, d3] }
  | _ => none }
def checkerBellmanRow : OpenClaim := { program := "ytbdcjhoedhhabaagreat", sum := "12f38b5cf03b34375961642fdddccb0506a037cd5ebb82607583c91881a7e345", func := "keyhole/keyholelaw48.CheckerBellman", spec := "checkerBellman", inPlace := ["slices.overlaps[keyhole/api.Observation]"], unfollowed := true, recurses := true, named := ["math/bits.divideError", "math/bits.overflowError"], plainKeys := false, apart := false }
def CheckerBellmanSaid : Prop := checkerBellmanRow.holds Tryz.pinned (OpenSpec.ofChange checkerBellmanSpec)

/-- ITS FALSE NEIGHBOUR: 'it returns false'. Refute it at one input. -/
def checkerBellmanWrong : ChangeSpec := { name := "checkerBellman", fn := fun _ => fun
  | [d1, d2, d3] => { results := [.lit (.bool false)], args := [d1, d2, d3] }
  | _ => none }
def CheckerBellmanWrongFalsely : Prop := checkerBellmanRow.holds Tryz.pinned (OpenSpec.ofChange checkerBellmanWrong)

/-- 'keyholelaw48.CheckerCuts': WHATEVER THE INPUT: true; the input reads as it did. -/
def checkerCutsSpec : ChangeSpec := { name := "checkerCuts", fn := fun _ => fun
  | [d1, d2, d3] => { results := [.lit (.bool true)], args := [d1, d2, d3] }
  | _ => none }
def checkerCutsRow : OpenClaim := { program := "ytbdcjhoedhhabaagreat", sum := "12f38b5cf03b34375961642fdddccb0506a037cd5ebb82607583c91881a7e345", func := "keyhole/keyholelaw48.CheckerCuts", spec := "checkerCuts", inPlace := ["slices.overlaps[keyhole/api.Observation]"], unfollowed := true, recurses := true, named := ["math/bits.divideError", "math/bits.overflowError"], plainKeys := false, apart := false }
def CheckerCutsSaid : Prop := checkerCutsRow.holds Tryz.pinned (OpenSpec.ofChange checkerCutsSpec)

/-- ITS FALSE NEIGHBOUR: 'it returns false'. Refute it at one input. -/
def checkerCutsWrong : ChangeSpec := { name := "checkerCuts", fn := fun _ => fun
  | [d1, d2, d3] => { results := [.lit (.bool false)], args := [d1, d2, d3] }
  | _ => none }
def CheckerCutsWrongFalsely : Prop := checkerCutsRow.holds Tryz.pinned (OpenSpec.ofChange checkerCutsWrong)

/-- 'keyholelaw48.CheckerRefining': WHATEVER THE INPUT: true; the input reads as it did. -/
def checkerRefiningSpec : ChangeSpec := { name := "checkerRefining", fn := fun _ => fun
  | [d1, d2, d3] => { results := [.lit (.bool true)], args := [d1, d2, d3] }
  | _ => none }
def checkerRefiningRow : OpenClaim := { program := "ytbdcjhoedhhabaagreat", sum := "12f38b5cf03b34375961642fdddccb0506a037cd5ebb82607583c91881a7e345", func := "keyhole/keyholelaw48.CheckerRefining", spec := "checkerRefining", inPlace := ["slices.overlaps[keyhole/api.Observation]"], unfollowed := true, recurses := true, named := ["math/bits.divideError", "math/bits.overflowError"], plainKeys := false, apart := false }
def CheckerRefiningSaid : Prop := checkerRefiningRow.holds Tryz.pinned (OpenSpec.ofChange checkerRefiningSpec)

/-- ITS FALSE NEIGHBOUR: 'it returns false'. Refute it at one input. -/
def checkerRefiningWrong : ChangeSpec := { name := "checkerRefining", fn := fun _ => fun
  | [d1, d2, d3] => { results := [.lit (.bool false)], args := [d1, d2, d3] }
  | _ => none }
def CheckerRefiningWrongFalsely : Prop := checkerRefiningRow.holds Tryz.pinned (OpenSpec.ofChange checkerRefiningWrong)

/- THE SECOND FORM. 'bulk': how many values and letters a reading holds, each counted each time it is reached (what is shared counts as often as it is met; a slice's spare places count too). A statement '..UptoSaid' is the law's where the arguments, and the package variables that the reading takes, are together of bulk at most 1048576: NARROWER than '..Said'. Prove '..Said' where nothing that the law and all that it calls make is longer than what came in: it says more and counts as full. Else prove '..UptoSaid'. A law counts once. -/
mutual
def uptoBulk {H : Type} : DataW H → Nat
  | .lit (.string bytes) => bytes.length + 1
  | .lit _ => 1
  | .nil => 1
  | .ptr d => uptoBulk d + 1
  | .slice elems spare => uptoBulkAll elems + uptoBulkAll spare + 1
  | .agg parts => uptoBulkAll parts + 1
  | .iface _ d => uptoBulk d + 1
  | .map entries => uptoBulkEntries entries + 1
  | .held _ => 1
def uptoBulkAll {H : Type} : List (DataW H) → Nat
  | [] => 0
  | d :: r => uptoBulk d + uptoBulkAll r
def uptoBulkEntries {H : Type} : List (Lit × DataW H) → Nat
  | [] => 0
  | x :: r => uptoBulkEntry x + uptoBulkEntries r
def uptoBulkEntry {H : Type} : Lit × DataW H → Nat
  | (.string bytes, d) => bytes.length + uptoBulk d + 1
  | (_, d) => uptoBulk d + 1
 end
def uptoSmall : (H : Type) → List (DataW H) → Bool := fun _ ds => decide (uptoBulkAll ds ≤ 1048576)
def OpenSpec.upto (s : _root_.Go.ChangeSpec) : _root_.Go.OpenSpec := { _root_.Go.OpenSpec.ofChange s with cond := some uptoSmall }

/-- 'keyholelaw48.CheckerExact', WHERE WHAT IT READS IS OF BULK AT MOST 1048576: true; the input reads as it did. -/
def checkerExactUptoRow : OpenClaim := { program := "ytbdcjhoedhhabaagreat", sum := "12f38b5cf03b34375961642fdddccb0506a037cd5ebb82607583c91881a7e345", func := "keyhole/keyholelaw48.CheckerExact", spec := "checkerExact", inPlace := ["slices.overlaps[keyhole/api.Observation]"], unfollowed := true, recurses := true, named := ["math/bits.divideError", "math/bits.overflowError"], loops := true, plainKeys := false, apart := false, narrowed := true }
def CheckerExactUptoSaid : Prop := checkerExactUptoRow.holds Tryz.pinned (OpenSpec.upto checkerExactSpec)

/-- 'keyholelaw48.CheckerUpper', WHERE WHAT IT READS IS OF BULK AT MOST 1048576: true; the input reads as it did. -/
def checkerUpperUptoRow : OpenClaim := { program := "ytbdcjhoedhhabaagreat", sum := "12f38b5cf03b34375961642fdddccb0506a037cd5ebb82607583c91881a7e345", func := "keyhole/keyholelaw48.CheckerUpper", spec := "checkerUpper", inPlace := ["slices.overlaps[keyhole/api.Observation]"], unfollowed := true, recurses := true, named := ["math/bits.divideError", "math/bits.overflowError"], loops := true, plainKeys := false, apart := false, narrowed := true }
def CheckerUpperUptoSaid : Prop := checkerUpperUptoRow.holds Tryz.pinned (OpenSpec.upto checkerUpperSpec)

/-- 'keyholelaw48.CheckerSound', WHERE WHAT IT READS IS OF BULK AT MOST 1048576: true; the input reads as it did. -/
def checkerSoundUptoRow : OpenClaim := { program := "ytbdcjhoedhhabaagreat", sum := "12f38b5cf03b34375961642fdddccb0506a037cd5ebb82607583c91881a7e345", func := "keyhole/keyholelaw48.CheckerSound", spec := "checkerSound", inPlace := ["slices.overlaps[keyhole/api.Observation]"], unfollowed := true, recurses := true, named := ["math/bits.divideError", "math/bits.overflowError"], loops := true, plainKeys := false, apart := false, narrowed := true }
def CheckerSoundUptoSaid : Prop := checkerSoundUptoRow.holds Tryz.pinned (OpenSpec.upto checkerSoundSpec)

/-- 'keyholelaw48.CheckerLedger', WHERE WHAT IT READS IS OF BULK AT MOST 1048576: true; the input reads as it did. -/
def checkerLedgerUptoRow : OpenClaim := { program := "ytbdcjhoedhhabaagreat", sum := "12f38b5cf03b34375961642fdddccb0506a037cd5ebb82607583c91881a7e345", func := "keyhole/keyholelaw48.CheckerLedger", spec := "checkerLedger", inPlace := ["slices.overlaps[keyhole/api.Observation]"], unfollowed := true, recurses := true, named := ["math/bits.divideError", "math/bits.overflowError"], loops := true, plainKeys := false, apart := false, narrowed := true }
def CheckerLedgerUptoSaid : Prop := checkerLedgerUptoRow.holds Tryz.pinned (OpenSpec.upto checkerLedgerSpec)

/-- 'keyholelaw48.CheckerLinear', WHERE WHAT IT READS IS OF BULK AT MOST 1048576: true; the input reads as it did. -/
def checkerLinearUptoRow : OpenClaim := { program := "ytbdcjhoedhhabaagreat", sum := "12f38b5cf03b34375961642fdddccb0506a037cd5ebb82607583c91881a7e345", func := "keyhole/keyholelaw48.CheckerLinear", spec := "checkerLinear", inPlace := ["slices.overlaps[keyhole/api.Observation]"], unfollowed := true, recurses := true, named := ["math/bits.divideError", "math/bits.overflowError"], plainKeys := false, apart := false, narrowed := true }
def CheckerLinearUptoSaid : Prop := checkerLinearUptoRow.holds Tryz.pinned (OpenSpec.upto checkerLinearSpec)

/-- 'keyholelaw48.CheckerSame', WHERE WHAT IT READS IS OF BULK AT MOST 1048576: true; the input reads as it did. -/
def checkerSameUptoRow : OpenClaim := { program := "ytbdcjhoedhhabaagreat", sum := "12f38b5cf03b34375961642fdddccb0506a037cd5ebb82607583c91881a7e345", func := "keyhole/keyholelaw48.CheckerSame", spec := "checkerSame", inPlace := ["slices.overlaps[keyhole/api.Observation]"], unfollowed := true, recurses := true, named := ["math/bits.divideError", "math/bits.overflowError"], loops := true, plainKeys := false, apart := false, narrowed := true }
def CheckerSameUptoSaid : Prop := checkerSameUptoRow.holds Tryz.pinned (OpenSpec.upto checkerSameSpec)

/-- 'keyholelaw48.CheckerHard', WHERE WHAT IT READS IS OF BULK AT MOST 1048576: true; the input reads as it did. -/
def checkerHardUptoRow : OpenClaim := { program := "ytbdcjhoedhhabaagreat", sum := "12f38b5cf03b34375961642fdddccb0506a037cd5ebb82607583c91881a7e345", func := "keyhole/keyholelaw48.CheckerHard", spec := "checkerHard", inPlace := ["slices.overlaps[keyhole/api.Observation]"], unfollowed := true, recurses := true, named := ["math/bits.divideError", "math/bits.overflowError"], plainKeys := false, apart := false, narrowed := true }
def CheckerHardUptoSaid : Prop := checkerHardUptoRow.holds Tryz.pinned (OpenSpec.upto checkerHardSpec)

/-- 'keyholelaw48.CheckerSegments', WHERE WHAT IT READS IS OF BULK AT MOST 1048576: true; the input reads as it did. -/
def checkerSegmentsUptoRow : OpenClaim := { program := "ytbdcjhoedhhabaagreat", sum := "12f38b5cf03b34375961642fdddccb0506a037cd5ebb82607583c91881a7e345", func := "keyhole/keyholelaw48.CheckerSegments", spec := "checkerSegments", inPlace := ["slices.overlaps[keyhole/api.Observation]"], unfollowed := true, recurses := true, named := ["math/bits.divideError", "math/bits.overflowError"], plainKeys := false, apart := false, narrowed := true }
def CheckerSegmentsUptoSaid : Prop := checkerSegmentsUptoRow.holds Tryz.pinned (OpenSpec.upto checkerSegmentsSpec)

/-- 'keyholelaw48.CheckerBellman', WHERE WHAT IT READS IS OF BULK AT MOST 1048576: true; the input reads as it did. -/
def checkerBellmanUptoRow : OpenClaim := { program := "ytbdcjhoedhhabaagreat", sum := "12f38b5cf03b34375961642fdddccb0506a037cd5ebb82607583c91881a7e345", func := "keyhole/keyholelaw48.CheckerBellman", spec := "checkerBellman", inPlace := ["slices.overlaps[keyhole/api.Observation]"], unfollowed := true, recurses := true, named := ["math/bits.divideError", "math/bits.overflowError"], plainKeys := false, apart := false, narrowed := true }
def CheckerBellmanUptoSaid : Prop := checkerBellmanUptoRow.holds Tryz.pinned (OpenSpec.upto checkerBellmanSpec)

/-- 'keyholelaw48.CheckerCuts', WHERE WHAT IT READS IS OF BULK AT MOST 1048576: true; the input reads as it did. -/
def checkerCutsUptoRow : OpenClaim := { program := "ytbdcjhoedhhabaagreat", sum := "12f38b5cf03b34375961642fdddccb0506a037cd5ebb82607583c91881a7e345", func := "keyhole/keyholelaw48.CheckerCuts", spec := "checkerCuts", inPlace := ["slices.overlaps[keyhole/api.Observation]"], unfollowed := true, recurses := true, named := ["math/bits.divideError", "math/bits.overflowError"], plainKeys := false, apart := false, narrowed := true }
def CheckerCutsUptoSaid : Prop := checkerCutsUptoRow.holds Tryz.pinned (OpenSpec.upto checkerCutsSpec)

/-- 'keyholelaw48.CheckerRefining', WHERE WHAT IT READS IS OF BULK AT MOST 1048576: true; the input reads as it did. -/
def checkerRefiningUptoRow : OpenClaim := { program := "ytbdcjhoedhhabaagreat", sum := "12f38b5cf03b34375961642fdddccb0506a037cd5ebb82607583c91881a7e345", func := "keyhole/keyholelaw48.CheckerRefining", spec := "checkerRefining", inPlace := ["slices.overlaps[keyhole/api.Observation]"], unfollowed := true, recurses := true, named := ["math/bits.divideError", "math/bits.overflowError"], plainKeys := false, apart := false, narrowed := true }
def CheckerRefiningUptoSaid : Prop := checkerRefiningUptoRow.holds Tryz.pinned (OpenSpec.upto checkerRefiningSpec)

end Rows
end Go.Proofs.YtbdcjhoedhhabaaGreat
