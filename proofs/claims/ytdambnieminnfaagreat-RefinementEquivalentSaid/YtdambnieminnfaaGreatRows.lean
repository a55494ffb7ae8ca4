/-
  No cell of these rows narrows 'for every input' (looked for: loops, veiled, ifaces, maps, wideKeys, modest, calm, conditions, laid).
  DERIVED. THE GIVEN ROWS OF THIS SEAT. 10 by the template 'for every input the law returns true; each argument reads behind the call as it read before'; 0 by the template 'total and deterministic' (their statements: YtdambnieminnfaaGreatTotals.lean).
  GIVEN WITH THE SEED: the statements are not yours to turn. If you find one false, say at which input.
  Laid BY PROGRAM, IN A SANDBOX (cutbox-rows.mjs): the forced cells as the released guide's own fill.sh prints them over the translation e98ce6c05f92a914… (all of the seat's roots in one cut). By AI agents, Wed Nov 11 2026. No macro, syntax, notation, axiom, sorry.
-/
import Derived.Test.YtdambnieminnfaaGreatChecked
import GoSem.Claim
import GoSem.ClaimJoined
import GoSem.ClaimMapViews
import Derived.JoinedTies
import Derived.KernelRfl
namespace Go.Proofs.YtdambnieminnfaaGreat
/- THE CELL 'sum', in the pinned program and in every row, IS THE sha256 OF THE DUMP (.gsa) THAT YtdambnieminnfaaGreatProg.lean LOADS. Nothing in Lean hashes anything: it is a label: what it is worth is what the hold of that sum in a sandbox is worth. -/
noncomputable def Tryz.pinned : Pinned := { name := "ytdambnieminnfaagreat", sum := "e98ce6c05f92a914f49eec75524b5d3f6c8886cdaf45b6447e30abd6f4ac5c9e", checked := Tryz.checked }
namespace Rows
def none {H : Type} : Left H := { results := [], args := [] }

/-- 'keyholelaw40.RefinementChecks': WHATEVER THE INPUT: true; the input reads as it did. -/
def refinementChecksSpec : ChangeSpec := { name := "refinementChecks", fn := fun _ => fun
  | [d1, d2, d3] => { results := [.lit (.bool true)], args := [d1, d2, d3] }
  | _ => none }
def refinementChecksRow : OpenClaim := { program := "ytdambnieminnfaagreat", sum := "e98ce6c05f92a914f49eec75524b5d3f6c8886cdaf45b6447e30abd6f4ac5c9e", func := "keyhole/keyholelaw40.RefinementChecks", spec := "refinementChecks", unfollowed := true, recurses := true, named := ["math/bits.overflowError"], apart := false }
def RefinementChecksSaid : Prop := refinementChecksRow.holds Tryz.pinned (OpenSpec.ofChange refinementChecksSpec)

/-- ITS FALSE NEIGHBOUR: 'it returns false'. Refute it at one input. -/
def refinementChecksWrong : ChangeSpec := { name := "refinementChecks", fn := fun _ => fun
  | [d1, d2, d3] => { results := [.lit (.bool false)], args := [d1, d2, d3] }
  | _ => none }
def RefinementChecksWrongFalsely : Prop := refinementChecksRow.holds Tryz.pinned (OpenSpec.ofChange refinementChecksWrong)

/-- 'keyholelaw40.RefinementDecides': WHATEVER THE INPUT: true; the input reads as it did. -/
def refinementDecidesSpec : ChangeSpec := { name := "refinementDecides", fn := fun _ => fun
  | [d1, d2] => { results := [.lit (.bool true)], args := [d1, d2] }
  | _ => none }
def refinementDecidesRow : OpenClaim := { program := "ytdambnieminnfaagreat", sum := "e98ce6c05f92a914f49eec75524b5d3f6c8886cdaf45b6447e30abd6f4ac5c9e", func := "keyhole/keyholelaw40.RefinementDecides", spec := "refinementDecides", unfollowed := true, recurses := true, named := ["math/bits.overflowError"], apart := false }
def RefinementDecidesSaid : Prop := refinementDecidesRow.holds Tryz.pinned (OpenSpec.ofChange refinementDecidesSpec)

/-- ITS FALSE NEIGHBOUR: 'it returns false'. Refute it at one input. -/
def refinementDecidesWrong : ChangeSpec := { name := "refinementDecides", fn := fun _ => fun
  | [d1, d2] => { results := [.lit (.bool false)], args := [d1, d2] }
  | _ => none }
def RefinementDecidesWrongFalsely : Prop := refinementDecidesRow.holds Tryz.pinned (OpenSpec.ofChange refinementDecidesWrong)

/-- 'keyholelaw40.RefinementLimits': WHATEVER THE INPUT: true; the input reads as it did. -/
def refinementLimitsSpec : ChangeSpec := { name := "refinementLimits", fn := fun _ => fun
  | [d1, d2] => { results := [.lit (.bool true)], args := [d1, d2] }
  | _ => none }
def refinementLimitsRow : OpenClaim := { program := "ytdambnieminnfaagreat", sum := "e98ce6c05f92a914f49eec75524b5d3f6c8886cdaf45b6447e30abd6f4ac5c9e", func := "keyhole/keyholelaw40.RefinementLimits", spec := "refinementLimits", unfollowed := true, recurses := true, named := ["math/bits.overflowError"], apart := false }
def RefinementLimitsSaid : Prop := refinementLimitsRow.holds Tryz.pinned (OpenSpec.ofChange refinementLimitsSpec)

/-- ITS FALSE NEIGHBOUR: 'it returns false'. Refute it at one input. -/
def refinementLimitsWrong : ChangeSpec := { name := "refinementLimits", fn := fun _ => fun
  | [d1, d2] => { results := [.lit (.bool false)], args := [d1, d2] }
  | _ => none }
def RefinementLimitsWrongFalsely : Prop := refinementLimitsRow.holds Tryz.pinned (OpenSpec.ofChange refinementLimitsWrong)

/-- 'keyholelaw40.RefinementExclusive': WHATEVER THE INPUT: true; the input reads as it did. -/
def refinementExclusiveSpec : ChangeSpec := { name := "refinementExclusive", fn := fun _ => fun
  | [d1, d2, d3] => { results := [.lit (.bool true)], args := [d1, d2, d3] }
  | _ => none }
def refinementExclusiveRow : OpenClaim := { program := "ytdambnieminnfaagreat", sum := "e98ce6c05f92a914f49eec75524b5d3f6c8886cdaf45b6447e30abd6f4ac5c9e", func := "keyhole/keyholelaw40.RefinementExclusive", spec := "refinementExclusive", unfollowed := true, recurses := true, named := ["math/bits.overflowError"], apart := false }
def RefinementExclusiveSaid : Prop := refinementExclusiveRow.holds Tryz.pinned (OpenSpec.ofChange refinementExclusiveSpec)

/-- ITS FALSE NEIGHBOUR: 'it returns false'. Refute it at one input. -/
def refinementExclusiveWrong : ChangeSpec := { name := "refinementExclusive", fn := fun _ => fun
  | [d1, d2, d3] => { results := [.lit (.bool false)], args := [d1, d2, d3] }
  | _ => none }
def RefinementExclusiveWrongFalsely : Prop := refinementExclusiveRow.holds Tryz.pinned (OpenSpec.ofChange refinementExclusiveWrong)

/-- 'keyholelaw40.RefinementProcessed': WHATEVER THE INPUT: true; the input reads as it did. -/
def refinementProcessedSpec : ChangeSpec := { name := "refinementProcessed", fn := fun _ => fun
  | [d1, d2] => { results := [.lit (.bool true)], args := [d1, d2] }
  | _ => none }
def refinementProcessedRow : OpenClaim := { program := "ytdambnieminnfaagreat", sum := "e98ce6c05f92a914f49eec75524b5d3f6c8886cdaf45b6447e30abd6f4ac5c9e", func := "keyhole/keyholelaw40.RefinementProcessed", spec := "refinementProcessed", unfollowed := true, recurses := true, named := ["math/bits.overflowError"], apart := false }
def RefinementProcessedSaid : Prop := refinementProcessedRow.holds Tryz.pinned (OpenSpec.ofChange refinementProcessedSpec)

/-- ITS FALSE NEIGHBOUR: 'it returns false'. Refute it at one input. -/
def refinementProcessedWrong : ChangeSpec := { name := "refinementProcessed", fn := fun _ => fun
  | [d1, d2] => { results := [.lit (.bool false)], args := [d1, d2] }
  | _ => none }
def RefinementProcessedWrongFalsely : Prop := refinementProcessedRow.holds Tryz.pinned (OpenSpec.ofChange refinementProcessedWrong)

/-- 'keyholelaw40.RefinementMonotone': WHATEVER THE INPUT: true; the input reads as it did. -/
def refinementMonotoneSpec : ChangeSpec := { name := "refinementMonotone", fn := fun _ => fun
  | [d1, d2, d3] => { results := [.lit (.bool true)], args := [d1, d2, d3] }
  | _ => none }
def refinementMonotoneRow : OpenClaim := { program := "ytdambnieminnfaagreat", sum := "e98ce6c05f92a914f49eec75524b5d3f6c8886cdaf45b6447e30abd6f4ac5c9e", func := "keyhole/keyholelaw40.RefinementMonotone", spec := "refinementMonotone", unfollowed := true, recurses := true, named := ["math/bits.overflowError"], apart := false }
def RefinementMonotoneSaid : Prop := refinementMonotoneRow.holds Tryz.pinned (OpenSpec.ofChange refinementMonotoneSpec)

/-- ITS FALSE NEIGHBOUR: 'it returns false'. Refute it at one input. -/
def refinementMonotoneWrong : ChangeSpec := { name := "refinementMonotone", fn := fun _ => fun
  | [d1, d2, d3] => { results := [.lit (.bool false)], args := [d1, d2, d3] }
  | _ => none }
def RefinementMonotoneWrongFalsely : Prop := refinementMonotoneRow.holds Tryz.pinned (OpenSpec.ofChange refinementMonotoneWrong)

/-- 'keyholelaw40.RefinementDeterministic': WHATEVER THE INPUT: true; the input reads as it did. -/
def refinementDeterministicSpec : ChangeSpec := { name := "refinementDeterministic", fn := fun _ => fun
  | [d1, d2, d3] => { results := [.lit (.bool true)], args := [d1, d2, d3] }
  | _ => none }
def refinementDeterministicRow : OpenClaim := { program := "ytdambnieminnfaagreat", sum := "e98ce6c05f92a914f49eec75524b5d3f6c8886cdaf45b6447e30abd6f4ac5c9e", func := "keyhole/keyholelaw40.RefinementDeterministic", spec := "refinementDeterministic", unfollowed := true, recurses := true, named := ["math/bits.overflowError"], apart := false }
def RefinementDeterministicSaid : Prop := refinementDeterministicRow.holds Tryz.pinned (OpenSpec.ofChange refinementDeterministicSpec)

/-- ITS FALSE NEIGHBOUR: 'it returns false'. Refute it at one input. -/
def refinementDeterministicWrong : ChangeSpec := { name := "refinementDeterministic", fn := fun _ => fun
  | [d1, d2, d3] => { results := [.lit (.bool false)], args := [d1, d2, d3] }
  | _ => none }
def RefinementDeterministicWrongFalsely : Prop := refinementDeterministicRow.holds Tryz.pinned (OpenSpec.ofChange refinementDeterministicWrong)

/-- 'keyholelaw40.RefinementOrder': WHATEVER THE INPUT: true; the input reads as it did. -/
def refinementOrderSpec : ChangeSpec := { name := "refinementOrder", fn := fun _ => fun
  | [d1, d2, d3] => { results := [.lit (.bool true)], args := [d1, d2, d3] }
  | _ => none }
def refinementOrderRow : OpenClaim := { program := "ytdambnieminnfaagreat", sum := "e98ce6c05f92a914f49eec75524b5d3f6c8886cdaf45b6447e30abd6f4ac5c9e", func := "keyhole/keyholelaw40.RefinementOrder", spec := "refinementOrder", unfollowed := true, recurses := true, named := ["math/bits.overflowError"], apart := false }
def RefinementOrderSaid : Prop := refinementOrderRow.holds Tryz.pinned (OpenSpec.ofChange refinementOrderSpec)

/-- ITS FALSE NEIGHBOUR: 'it returns false'. Refute it at one input. -/
def refinementOrderWrong : ChangeSpec := { name := "refinementOrder", fn := fun _ => fun
  | [d1, d2, d3] => { results := [.lit (.bool false)], args := [d1, d2, d3] }
  | _ => none }
def RefinementOrderWrongFalsely : Prop := refinementOrderRow.holds Tryz.pinned (OpenSpec.ofChange refinementOrderWrong)

/-- 'keyholelaw40.RefinementChains': WHATEVER THE INPUT: true; the input reads as it did. -/
def refinementChainsSpec : ChangeSpec := { name := "refinementChains", fn := fun _ => fun
  | [d1, d2] => { results := [.lit (.bool true)], args := [d1, d2] }
  | _ => none }
def refinementChainsRow : OpenClaim := { program := "ytdambnieminnfaagreat", sum := "e98ce6c05f92a914f49eec75524b5d3f6c8886cdaf45b6447e30abd6f4ac5c9e", func := "keyhole/keyholelaw40.RefinementChains", spec := "refinementChains", unfollowed := true, recurses := true, named := ["math/bits.overflowError"], apart := false }
def RefinementChainsSaid : Prop := refinementChainsRow.holds Tryz.pinned (OpenSpec.ofChange refinementChainsSpec)

/-- ITS FALSE NEIGHBOUR: 'it returns false'. Refute it at one input. -/
def refinementChainsWrong : ChangeSpec := { name := "refinementChains", fn := fun _ => fun
  | [d1, d2] => { results := [.lit (.bool false)], args := [d1, d2] }
  | _ => none }
def RefinementChainsWrongFalsely : Prop := refinementChainsRow.holds Tryz.pinned (OpenSpec.ofChange refinementChainsWrong)

/-- 'keyholelaw40.RefinementEquivalent': WHATEVER THE INPUT: true; the input reads as it did. -/
def refinementEquivalentSpec : ChangeSpec := { name := "refinementEquivalent", fn := fun _ => fun
  | [d1, d2] => { results := [.lit (.bool true)], args := [d1, d2] }
  | _ => none }
def refinementEquivalentRow : OpenClaim := { program := "ytdambnieminnfaagreat", sum := "e98ce6c05f92a914f49eec75524b5d3f6c8886cdaf45b6447e30abd6f4ac5c9e", func := "keyhole/keyholelaw40.RefinementEquivalent", spec := "refinementEquivalent", unfollowed := true, recurses := true, named := ["math/bits.overflowError"], apart := false }
def RefinementEquivalentSaid : Prop := refinementEquivalentRow.holds Tryz.pinned (OpenSpec.ofChange refinementEquivalentSpec)

/-- ITS FALSE NEIGHBOUR: 'it returns false'. Refute it at one input. -/
def refinementEquivalentWrong : ChangeSpec := { name := "refinementEquivalent", fn := fun _ => fun
  | [d1, d2] => { results := [.lit (.bool false)], args := [d1, d2] }
  | _ => none }
def RefinementEquivalentWrongFalsely : Prop := refinementEquivalentRow.holds Tryz.pinned (OpenSpec.ofChange refinementEquivalentWrong)

/- THE SECOND FORM. 'bulk': how many values and letters a reading holds, each counted each time it is reached (what is shared counts as often as it is met; a slice's spare places count too). A statement '..UptoSaid' is the law's where the arguments, and the package variables that the reading takes, are together of bulk at most 1048576: NARROWER than '..Said'. Prove '..Said' where nothing that the law and all that it calls make is longer than what came in: it says more and counts as full. Else prove '..UptoSaid'. A law counts once. -/
mutual
def uptoBulk {H : Type} : DataW H → Nat
  | .lit (.string bytes) => bytes.length + 1
  | .lit _ => 1
  | .nil => 1
  | .ptr d => uptoBulk d + 1
  | .slice elems spare => uptoBulkAll elems + uptoBulkAll spare + 1
  | .agg parts => uptoBulkAll parts + 1
  | .iface _ d => uptoBulk d + 1
  | .map entries => uptoBulkEntries entries + 1
  | .held _ => 1
def uptoBulkAll {H : Type} : List (DataW H) → Nat
  | [] => 0
  | d :: r => uptoBulk d + uptoBulkAll r
def uptoBulkEntries {H : Type} : List (Lit × DataW H) → Nat
  | [] => 0
  | x :: r => uptoBulkEntry x + uptoBulkEntries r
def uptoBulkEntry {H : Type} : Lit × DataW H → Nat
  | (.string bytes, d) => bytes.length + uptoBulk d + 1
  | (_, d) => uptoBulk d + 1
 end
def uptoSmall : (H : Type) → List (DataW H) → Bool := fun _ ds => decide (uptoBulkAll ds ≤ 1048576)
def OpenSpec.upto (s : _root_.Go.ChangeSpec) : _root_.Go.OpenSpec := { _root_.Go.OpenSpec.ofChange s with cond := some uptoSmall }

/-- 'keyholelaw40.RefinementChecks', WHERE WHAT IT READS IS OF BULK AT MOST 1048576: true; the input reads as it did. -/
def refinementChecksUptoRow : OpenClaim := { program := "ytdambnieminnfaagreat", sum := "e98ce6c05f92a914f49eec75524b5d3f6c8886cdaf45b6447e30abd6f4ac5c9e", func := "keyhole/keyholelaw40.RefinementChecks", spec := "refinementChecks", unfollowed := true, recurses := true, named := ["math/bits.overflowError"], apart := false, narrowed := true }
def RefinementChecksUptoSaid : Prop := refinementChecksUptoRow.holds Tryz.pinned (OpenSpec.upto refinementChecksSpec)

/-- 'keyholelaw40.RefinementDecides', WHERE WHAT IT READS IS OF BULK AT MOST 1048576: true; the input reads as it did. -/
def refinementDecidesUptoRow : OpenClaim := { program := "ytdambnieminnfaagreat", sum := "e98ce6c05f92a914f49eec75524b5d3f6c8886cdaf45b6447e30abd6f4ac5c9e", func := "keyhole/keyholelaw40.RefinementDecides", spec := "refinementDecides", unfollowed := true, recurses := true, named := ["math/bits.overflowError"], apart := false, narrowed := true }
def RefinementDecidesUptoSaid : Prop := refinementDecidesUptoRow.holds Tryz.pinned (OpenSpec.upto refinementDecidesSpec)

/-- 'keyholelaw40.RefinementLimits', WHERE WHAT IT READS IS OF BULK AT MOST 1048576: true; the input reads as it did. -/
def refinementLimitsUptoRow : OpenClaim := { program := "ytdambnieminnfaagreat", sum := "e98ce6c05f92a914f49eec75524b5d3f6c8886cdaf45b6447e30abd6f4ac5c9e", func := "keyhole/keyholelaw40.RefinementLimits", spec := "refinementLimits", unfollowed := true, recurses := true, named := ["math/bits.overflowError"], apart := false, narrowed := true }
def RefinementLimitsUptoSaid : Prop := refinementLimitsUptoRow.holds Tryz.pinned (OpenSpec.upto refinementLimitsSpec)

/-- 'keyholelaw40.RefinementExclusive', WHERE WHAT IT READS IS OF BULK AT MOST 1048576: true; the input reads as it did. -/
def refinementExclusiveUptoRow : OpenClaim := { program := "ytdambnieminnfaagreat", sum := "e98ce6c05f92a914f49eec75524b5d3f6c8886cdaf45b6447e30abd6f4ac5c9e", func := "keyhole/keyholelaw40.RefinementExclusive", spec := "refinementExclusive", unfollowed := true, recurses := true, named := ["math/bits.overflowError"], apart := false, narrowed := true }
def RefinementExclusiveUptoSaid : Prop := refinementExclusiveUptoRow.holds Tryz.pinned (OpenSpec.upto refinementExclusiveSpec)

/-- 'keyholelaw40.RefinementProcessed', WHERE WHAT IT READS IS OF BULK AT MOST 1048576: true; the input reads as it did. -/
def refinementProcessedUptoRow : OpenClaim := { program := "ytdambnieminnfaagreat", sum := "e98ce6c05f92a914f49eec75524b5d3f6c8886cdaf45b6447e30abd6f4ac5c9e", func := "keyhole/keyholelaw40.RefinementProcessed", spec := "refinementProcessed", unfollowed := true, recurses := true, named := ["math/bits.overflowError"], apart := false, narrowed := true }
def RefinementProcessedUptoSaid : Prop := refinementProcessedUptoRow.holds Tryz.pinned (OpenSpec.upto refinementProcessedSpec)

/-- 'keyholelaw40.RefinementMonotone', WHERE WHAT IT READS IS OF BULK AT MOST 1048576: true; the input reads as it did. -/
def refinementMonotoneUptoRow : OpenClaim := { program := "ytdambnieminnfaagreat", sum := "e98ce6c05f92a914f49eec75524b5d3f6c8886cdaf45b6447e30abd6f4ac5c9e", func := "keyhole/keyholelaw40.RefinementMonotone", spec := "refinementMonotone", unfollowed := true, recurses := true, named := ["math/bits.overflowError"], apart := false, narrowed := true }
def RefinementMonotoneUptoSaid : Prop := refinementMonotoneUptoRow.holds Tryz.pinned (OpenSpec.upto refinementMonotoneSpec)

/-- 'keyholelaw40.RefinementDeterministic', WHERE WHAT IT READS IS OF BULK AT MOST 1048576: true; the input reads as it did. -/
def refinementDeterministicUptoRow : OpenClaim := { program := "ytdambnieminnfaagreat", sum := "e98ce6c05f92a914f49eec75524b5d3f6c8886cdaf45b6447e30abd6f4ac5c9e", func := "keyhole/keyholelaw40.RefinementDeterministic", spec := "refinementDeterministic", unfollowed := true, recurses := true, named := ["math/bits.overflowError"], apart := false, narrowed := true }
def RefinementDeterministicUptoSaid : Prop := refinementDeterministicUptoRow.holds Tryz.pinned (OpenSpec.upto refinementDeterministicSpec)

/-- 'keyholelaw40.RefinementOrder', WHERE WHAT IT READS IS OF BULK AT MOST 1048576: true; the input reads as it did. -/
def refinementOrderUptoRow : OpenClaim := { program := "ytdambnieminnfaagreat", sum := "e98ce6c05f92a914f49eec75524b5d3f6c8886cdaf45b6447e30abd6f4ac5c9e", func := "keyhole/keyholelaw40.RefinementOrder", spec := "refinementOrder", unfollowed := true, recurses := true, named := ["math/bits.overflowError"], apart := false, narrowed := true }
def RefinementOrderUptoSaid : Prop := refinementOrderUptoRow.holds Tryz.pinned (OpenSpec.upto refinementOrderSpec)

/-- 'keyholelaw40.RefinementChains', WHERE WHAT IT READS IS OF BULK AT MOST 1048576: true; the input reads as it did. -/
def refinementChainsUptoRow : OpenClaim := { program := "ytdambnieminnfaagreat", sum := "e98ce6c05f92a914f49eec75524b5d3f6c8886cdaf45b6447e30abd6f4ac5c9e", func := "keyhole/keyholelaw40.RefinementChains", spec := "refinementChains", unfollowed := true, recurses := true, named := ["math/bits.overflowError"], apart := false, narrowed := true }
def RefinementChainsUptoSaid : Prop := refinementChainsUptoRow.holds Tryz.pinned (OpenSpec.upto refinementChainsSpec)

/-- 'keyholelaw40.RefinementEquivalent', WHERE WHAT IT READS IS OF BULK AT MOST 1048576: true; the input reads as it did. -/
def refinementEquivalentUptoRow : OpenClaim := { program := "ytdambnieminnfaagreat", sum := "e98ce6c05f92a914f49eec75524b5d3f6c8886cdaf45b6447e30abd6f4ac5c9e", func := "keyhole/keyholelaw40.RefinementEquivalent", spec := "refinementEquivalent", unfollowed := true, recurses := true, named := ["math/bits.overflowError"], apart := false, narrowed := true }
def RefinementEquivalentUptoSaid : Prop := refinementEquivalentUptoRow.holds Tryz.pinned (OpenSpec.upto refinementEquivalentSpec)

end Rows
end Go.Proofs.YtdambnieminnfaaGreat
