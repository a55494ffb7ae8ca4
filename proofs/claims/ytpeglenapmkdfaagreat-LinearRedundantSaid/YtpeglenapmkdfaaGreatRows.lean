/-
  No cell of these rows narrows 'for every input' (looked for: loops, veiled, ifaces, maps, wideKeys, modest, calm, conditions, laid).
  DERIVED. THE GIVEN ROWS OF THIS SEAT. 8 by the template 'for every input the law returns true; each argument reads behind the call as it read before'; 0 by the template 'total and deterministic' (their statements: YtpeglenapmkdfaaGreatTotals.lean).
  GIVEN WITH THE SEED: the statements are not yours to turn. If you find one false, say at which input.
  Laid BY PROGRAM, IN A SANDBOX (cutbox-rows.mjs): the forced cells as the released guide's own fill.sh prints them over the translation 71f8e2fd79f0329f… (all of the seat's roots in one cut). By AI agents, Wed Nov 11 2026. No macro, syntax, notation, axiom, sorry.
-/
import Derived.Test.YtpeglenapmkdfaaGreatChecked
import GoSem.Claim
import GoSem.ClaimJoined
import GoSem.ClaimMapViews
import Derived.JoinedTies
import Derived.KernelRfl
namespace Go.Proofs.YtpeglenapmkdfaaGreat
/- THE CELL 'sum', in the pinned program and in every row, IS THE sha256 OF THE DUMP (.gsa) THAT YtpeglenapmkdfaaGreatProg.lean LOADS. Nothing in Lean hashes anything: it is a label: what it is worth is what the hold of that sum in a sandbox is worth. -/
noncomputable def Tryz.pinned : Pinned := { name := "ytpeglenapmkdfaagreat", sum := "71f8e2fd79f0329fc688ff81fc61cc5c8251edc9ac31161faca775c3cc68a2b8", checked := Tryz.checked }
namespace Rows
def none {H : Type} : Left H := { results := [], args := [] }

/-- 'keyholelaw08.LinearChecks': WHATEVER THE INPUT: true; the input reads as it did. -/
def linearChecksSpec : ChangeSpec := { name := "linearChecks", fn := fun _ => fun
  | [d1, d2, d3] => { results := [.lit (.bool true)], args := [d1, d2, d3] }
  | _ => none }
def linearChecksRow : OpenClaim := { program := "ytpeglenapmkdfaagreat", sum := "71f8e2fd79f0329fc688ff81fc61cc5c8251edc9ac31161faca775c3cc68a2b8", func := "keyhole/keyholelaw08.LinearChecks", spec := "linearChecks", unfollowed := true, recurses := true, named := ["math/bits.overflowError"], apart := false }
def LinearChecksSaid : Prop := linearChecksRow.holds Tryz.pinned (OpenSpec.ofChange linearChecksSpec)

/-- ITS FALSE NEIGHBOUR: 'it returns false'. Refute it at one input. -/
def linearChecksWrong : ChangeSpec := { name := "linearChecks", fn := fun _ => fun
  | [d1, d2, d3] => { results := [.lit (.bool false)], args := [d1, d2, d3] }
  | _ => none }
def LinearChecksWrongFalsely : Prop := linearChecksRow.holds Tryz.pinned (OpenSpec.ofChange linearChecksWrong)

/-- 'keyholelaw08.LinearFarkas': WHATEVER THE INPUT: true; the input reads as it did. -/
def linearFarkasSpec : ChangeSpec := { name := "linearFarkas", fn := fun _ => fun
  | [d1, d2, d3] => { results := [.lit (.bool true)], args := [d1, d2, d3] }
  | _ => none }
def linearFarkasRow : OpenClaim := { program := "ytpeglenapmkdfaagreat", sum := "71f8e2fd79f0329fc688ff81fc61cc5c8251edc9ac31161faca775c3cc68a2b8", func := "keyhole/keyholelaw08.LinearFarkas", spec := "linearFarkas", unfollowed := true, recurses := true, named := ["math/bits.overflowError"], apart := false }
def LinearFarkasSaid : Prop := linearFarkasRow.holds Tryz.pinned (OpenSpec.ofChange linearFarkasSpec)

/-- ITS FALSE NEIGHBOUR: 'it returns false'. Refute it at one input. -/
def linearFarkasWrong : ChangeSpec := { name := "linearFarkas", fn := fun _ => fun
  | [d1, d2, d3] => { results := [.lit (.bool false)], args := [d1, d2, d3] }
  | _ => none }
def LinearFarkasWrongFalsely : Prop := linearFarkasRow.holds Tryz.pinned (OpenSpec.ofChange linearFarkasWrong)

/-- 'keyholelaw08.LinearRedundant': WHATEVER THE INPUT: true; the input reads as it did. -/
def linearRedundantSpec : ChangeSpec := { name := "linearRedundant", fn := fun _ => fun
  | [d1, d2, d3] => { results := [.lit (.bool true)], args := [d1, d2, d3] }
  | _ => none }
def linearRedundantRow : OpenClaim := { program := "ytpeglenapmkdfaagreat", sum := "71f8e2fd79f0329fc688ff81fc61cc5c8251edc9ac31161faca775c3cc68a2b8", func := "keyhole/keyholelaw08.LinearRedundant", spec := "linearRedundant", unfollowed := true, recurses := true, named := ["math/bits.overflowError"], apart := false }
def LinearRedundantSaid : Prop := linearRedundantRow.holds Tryz.pinned (OpenSpec.ofChange linearRedundantSpec)

/-- ITS FALSE NEIGHBOUR: 'it returns false'. Refute it at one input. -/
def linearRedundantWrong : ChangeSpec := { name := "linearRedundant", fn := fun _ => fun
  | [d1, d2, d3] => { results := [.lit (.bool false)], args := [d1, d2, d3] }
  | _ => none }
def LinearRedundantWrongFalsely : Prop := linearRedundantRow.holds Tryz.pinned (OpenSpec.ofChange linearRedundantWrong)

/-- 'keyholelaw08.LinearTighter': WHATEVER THE INPUT: true; the input reads as it did. -/
def linearTighterSpec : ChangeSpec := { name := "linearTighter", fn := fun _ => fun
  | [d1, d2, d3] => { results := [.lit (.bool true)], args := [d1, d2, d3] }
  | _ => none }
def linearTighterRow : OpenClaim := { program := "ytpeglenapmkdfaagreat", sum := "71f8e2fd79f0329fc688ff81fc61cc5c8251edc9ac31161faca775c3cc68a2b8", func := "keyhole/keyholelaw08.LinearTighter", spec := "linearTighter", unfollowed := true, recurses := true, named := ["math/bits.overflowError"], apart := false }
def LinearTighterSaid : Prop := linearTighterRow.holds Tryz.pinned (OpenSpec.ofChange linearTighterSpec)

/-- ITS FALSE NEIGHBOUR: 'it returns false'. Refute it at one input. -/
def linearTighterWrong : ChangeSpec := { name := "linearTighter", fn := fun _ => fun
  | [d1, d2, d3] => { results := [.lit (.bool false)], args := [d1, d2, d3] }
  | _ => none }
def LinearTighterWrongFalsely : Prop := linearTighterRow.holds Tryz.pinned (OpenSpec.ofChange linearTighterWrong)

/-- 'keyholelaw08.LinearSolves': WHATEVER THE INPUT: true; the input reads as it did. -/
def linearSolvesSpec : ChangeSpec := { name := "linearSolves", fn := fun _ => fun
  | [d] => { results := [.lit (.bool true)], args := [d] }
  | _ => none }
def linearSolvesRow : OpenClaim := { program := "ytpeglenapmkdfaagreat", sum := "71f8e2fd79f0329fc688ff81fc61cc5c8251edc9ac31161faca775c3cc68a2b8", func := "keyhole/keyholelaw08.LinearSolves", spec := "linearSolves", unfollowed := true, recurses := true, named := ["math/bits.overflowError"], apart := false }
def LinearSolvesSaid : Prop := linearSolvesRow.holds Tryz.pinned (OpenSpec.ofChange linearSolvesSpec)

/-- ITS FALSE NEIGHBOUR: 'it returns false'. Refute it at one input. -/
def linearSolvesWrong : ChangeSpec := { name := "linearSolves", fn := fun _ => fun
  | [d] => { results := [.lit (.bool false)], args := [d] }
  | _ => none }
def LinearSolvesWrongFalsely : Prop := linearSolvesRow.holds Tryz.pinned (OpenSpec.ofChange linearSolvesWrong)

/-- 'keyholelaw08.LinearMinimizes': WHATEVER THE INPUT: true; the input reads as it did. -/
def linearMinimizesSpec : ChangeSpec := { name := "linearMinimizes", fn := fun _ => fun
  | [d] => { results := [.lit (.bool true)], args := [d] }
  | _ => none }
def linearMinimizesRow : OpenClaim := { program := "ytpeglenapmkdfaagreat", sum := "71f8e2fd79f0329fc688ff81fc61cc5c8251edc9ac31161faca775c3cc68a2b8", func := "keyhole/keyholelaw08.LinearMinimizes", spec := "linearMinimizes", unfollowed := true, recurses := true, named := ["math/bits.overflowError"], apart := false }
def LinearMinimizesSaid : Prop := linearMinimizesRow.holds Tryz.pinned (OpenSpec.ofChange linearMinimizesSpec)

/-- ITS FALSE NEIGHBOUR: 'it returns false'. Refute it at one input. -/
def linearMinimizesWrong : ChangeSpec := { name := "linearMinimizes", fn := fun _ => fun
  | [d] => { results := [.lit (.bool false)], args := [d] }
  | _ => none }
def LinearMinimizesWrongFalsely : Prop := linearMinimizesRow.holds Tryz.pinned (OpenSpec.ofChange linearMinimizesWrong)

/-- 'keyholelaw08.LinearDuality': WHATEVER THE INPUT: true; the input reads as it did. -/
def linearDualitySpec : ChangeSpec := { name := "linearDuality", fn := fun _ => fun
  | [d1, d2, d3] => { results := [.lit (.bool true)], args := [d1, d2, d3] }
  | _ => none }
def linearDualityRow : OpenClaim := { program := "ytpeglenapmkdfaagreat", sum := "71f8e2fd79f0329fc688ff81fc61cc5c8251edc9ac31161faca775c3cc68a2b8", func := "keyhole/keyholelaw08.LinearDuality", spec := "linearDuality", unfollowed := true, recurses := true, named := ["math/bits.overflowError"], apart := false }
def LinearDualitySaid : Prop := linearDualityRow.holds Tryz.pinned (OpenSpec.ofChange linearDualitySpec)

/-- ITS FALSE NEIGHBOUR: 'it returns false'. Refute it at one input. -/
def linearDualityWrong : ChangeSpec := { name := "linearDuality", fn := fun _ => fun
  | [d1, d2, d3] => { results := [.lit (.bool false)], args := [d1, d2, d3] }
  | _ => none }
def LinearDualityWrongFalsely : Prop := linearDualityRow.holds Tryz.pinned (OpenSpec.ofChange linearDualityWrong)

/-- 'keyholelaw08.LinearProofs': WHATEVER THE INPUT: true; the input reads as it did. -/
def linearProofsSpec : ChangeSpec := { name := "linearProofs", fn := fun _ => fun
  | [d1, d2, d3] => { results := [.lit (.bool true)], args := [d1, d2, d3] }
  | _ => none }
def linearProofsRow : OpenClaim := { program := "ytpeglenapmkdfaagreat", sum := "71f8e2fd79f0329fc688ff81fc61cc5c8251edc9ac31161faca775c3cc68a2b8", func := "keyhole/keyholelaw08.LinearProofs", spec := "linearProofs", unfollowed := true, recurses := true, named := ["math/bits.overflowError"], apart := false }
def LinearProofsSaid : Prop := linearProofsRow.holds Tryz.pinned (OpenSpec.ofChange linearProofsSpec)

/-- ITS FALSE NEIGHBOUR: 'it returns false'. Refute it at one input. -/
def linearProofsWrong : ChangeSpec := { name := "linearProofs", fn := fun _ => fun
  | [d1, d2, d3] => { results := [.lit (.bool false)], args := [d1, d2, d3] }
  | _ => none }
def LinearProofsWrongFalsely : Prop := linearProofsRow.holds Tryz.pinned (OpenSpec.ofChange linearProofsWrong)

/- THE SECOND FORM. 'bulk': how many values and letters a reading holds, each counted each time it is reached (what is shared counts as often as it is met; a slice's spare places count too). A statement '..UptoSaid' is the law's where the arguments, and the package variables that the reading takes, are together of bulk at most 1048576: NARROWER than '..Said'. Prove '..Said' where nothing that the law and all that it calls make is longer than what came in: it says more and counts as full. Else prove '..UptoSaid'. A law counts once. -/
mutual
def uptoBulk {H : Type} : DataW H → Nat
  | .lit (.string bytes) => bytes.length + 1
  | .lit _ => 1
  | .nil => 1
  | .ptr d => uptoBulk d + 1
  | .slice elems spare => uptoBulkAll elems + uptoBulkAll spare + 1
  | .agg parts => uptoBulkAll parts + 1
  | .iface _ d => uptoBulk d + 1
  | .map entries => uptoBulkEntries entries + 1
  | .held _ => 1
def uptoBulkAll {H : Type} : List (DataW H) → Nat
  | [] => 0
  | d :: r => uptoBulk d + uptoBulkAll r
def uptoBulkEntries {H : Type} : List (Lit × DataW H) → Nat
  | [] => 0
  | x :: r => uptoBulkEntry x + uptoBulkEntries r
def uptoBulkEntry {H : Type} : Lit × DataW H → Nat
  | (.string bytes, d) => bytes.length + uptoBulk d + 1
  | (_, d) => uptoBulk d + 1
 end
def uptoSmall : (H : Type) → List (DataW H) → Bool := fun _ ds => decide (uptoBulkAll ds ≤ 1048576)
def OpenSpec.upto (s : _root_.Go.ChangeSpec) : _root_.Go.OpenSpec := { _root_.Go.OpenSpec.ofChange s with cond := some uptoSmall }

/-- 'keyholelaw08.LinearChecks', WHERE WHAT IT READS IS OF BULK AT MOST 1048576: true; the input reads as it did. -/
def linearChecksUptoRow : OpenClaim := { program := "ytpeglenapmkdfaagreat", sum := "71f8e2fd79f0329fc688ff81fc61cc5c8251edc9ac31161faca775c3cc68a2b8", func := "keyhole/keyholelaw08.LinearChecks", spec := "linearChecks", unfollowed := true, recurses := true, named := ["math/bits.overflowError"], apart := false, narrowed := true }
def LinearChecksUptoSaid : Prop := linearChecksUptoRow.holds Tryz.pinned (OpenSpec.upto linearChecksSpec)

/-- 'keyholelaw08.LinearFarkas', WHERE WHAT IT READS IS OF BULK AT MOST 1048576: true; the input reads as it did. -/
def linearFarkasUptoRow : OpenClaim := { program := "ytpeglenapmkdfaagreat", sum := "71f8e2fd79f0329fc688ff81fc61cc5c8251edc9ac31161faca775c3cc68a2b8", func := "keyhole/keyholelaw08.LinearFarkas", spec := "linearFarkas", unfollowed := true, recurses := true, named := ["math/bits.overflowError"], apart := false, narrowed := true }
def LinearFarkasUptoSaid : Prop := linearFarkasUptoRow.holds Tryz.pinned (OpenSpec.upto linearFarkasSpec)

/-- 'keyholelaw08.LinearRedundant', WHERE WHAT IT READS IS OF BULK AT MOST 1048576: true; the input reads as it did. -/
def linearRedundantUptoRow : OpenClaim := { program := "ytpeglenapmkdfaagreat", sum := "71f8e2fd79f0329fc688ff81fc61cc5c8251edc9ac31161faca775c3cc68a2b8", func := "keyhole/keyholelaw08.LinearRedundant", spec := "linearRedundant", unfollowed := true, recurses := true, named := ["math/bits.overflowError"], apart := false, narrowed := true }
def LinearRedundantUptoSaid : Prop := linearRedundantUptoRow.holds Tryz.pinned (OpenSpec.upto linearRedundantSpec)

/-- 'keyholelaw08.LinearTighter', WHERE WHAT IT READS IS OF BULK AT MOST 1048576: true; the input reads as it did. -/
def linearTighterUptoRow : OpenClaim := { program := "ytpeglenapmkdfaagreat", sum := "71f8e2fd79f0329fc688ff81fc61cc5c8251edc9ac31161faca775c3cc68a2b8", func := "keyhole/keyholelaw08.LinearTighter", spec := "linearTighter", unfollowed := true, recurses := true, named := ["math/bits.overflowError"], apart := false, narrowed := true }
def LinearTighterUptoSaid : Prop := linearTighterUptoRow.holds Tryz.pinned (OpenSpec.upto linearTighterSpec)

/-- 'keyholelaw08.LinearSolves', WHERE WHAT IT READS IS OF BULK AT MOST 1048576: true; the input reads as it did. -/
def linearSolvesUptoRow : OpenClaim := { program := "ytpeglenapmkdfaagreat", sum := "71f8e2fd79f0329fc688ff81fc61cc5c8251edc9ac31161faca775c3cc68a2b8", func := "keyhole/keyholelaw08.LinearSolves", spec := "linearSolves", unfollowed := true, recurses := true, named := ["math/bits.overflowError"], apart := false, narrowed := true }
def LinearSolvesUptoSaid : Prop := linearSolvesUptoRow.holds Tryz.pinned (OpenSpec.upto linearSolvesSpec)

/-- 'keyholelaw08.LinearMinimizes', WHERE WHAT IT READS IS OF BULK AT MOST 1048576: true; the input reads as it did. -/
def linearMinimizesUptoRow : OpenClaim := { program := "ytpeglenapmkdfaagreat", sum := "71f8e2fd79f0329fc688ff81fc61cc5c8251edc9ac31161faca775c3cc68a2b8", func := "keyhole/keyholelaw08.LinearMinimizes", spec := "linearMinimizes", unfollowed := true, recurses := true, named := ["math/bits.overflowError"], apart := false, narrowed := true }
def LinearMinimizesUptoSaid : Prop := linearMinimizesUptoRow.holds Tryz.pinned (OpenSpec.upto linearMinimizesSpec)

/-- 'keyholelaw08.LinearDuality', WHERE WHAT IT READS IS OF BULK AT MOST 1048576: true; the input reads as it did. -/
def linearDualityUptoRow : OpenClaim := { program := "ytpeglenapmkdfaagreat", sum := "71f8e2fd79f0329fc688ff81fc61cc5c8251edc9ac31161faca775c3cc68a2b8", func := "keyhole/keyholelaw08.LinearDuality", spec := "linearDuality", unfollowed := true, recurses := true, named := ["math/bits.overflowError"], apart := false, narrowed := true }
def LinearDualityUptoSaid : Prop := linearDualityUptoRow.holds Tryz.pinned (OpenSpec.upto linearDualitySpec)

/-- 'keyholelaw08.LinearProofs', WHERE WHAT IT READS IS OF BULK AT MOST 1048576: true; the input reads as it did. -/
def linearProofsUptoRow : OpenClaim := { program := "ytpeglenapmkdfaagreat", sum := "71f8e2fd79f0329fc688ff81fc61cc5c8251edc9ac31161faca775c3cc68a2b8", func := "keyhole/keyholelaw08.LinearProofs", spec := "linearProofs", unfollowed := true, recurses := true, named := ["math/bits.overflowError"], apart := false, narrowed := true }
def LinearProofsUptoSaid : Prop := linearProofsUptoRow.holds Tryz.pinned (OpenSpec.upto linearProofsSpec)

end Rows
end Go.Proofs.YtpeglenapmkdfaaGreat
