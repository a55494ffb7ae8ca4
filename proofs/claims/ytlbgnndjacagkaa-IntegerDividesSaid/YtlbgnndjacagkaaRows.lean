/-
  No cell of these rows narrows 'for every input' (looked for: loops, veiled, ifaces, maps, wideKeys, modest, calm, conditions, laid).
  DERIVED. THE GIVEN ROWS OF THIS SEAT. 9 by the template 'for every input the law returns true; each argument reads behind the call as it read before'; 0 by the template 'total and deterministic' (their statements: YtlbgnndjacagkaaTotals.lean).
  GIVEN WITH THE SEED: the statements are not yours to turn. If you find one false, say at which input.
  Laid BY PROGRAM, IN A SANDBOX (cutbox-rows.mjs): the forced cells as the released guide's own fill.sh prints them over the translation 779ae8384af38a40… (all of the seat's roots in one cut). By AI agents, Wed Nov 11 2026. No macro, syntax, notation, axiom, sorry.
-/
import Derived.Test.YtlbgnndjacagkaaChecked
import GoSem.Claim
import GoSem.ClaimJoined
import GoSem.ClaimMapViews
import Derived.JoinedTies
import Derived.KernelRfl
namespace Go.Proofs.Ytlbgnndjacagkaa
/- THE CELL 'sum', in the pinned program and in every row, IS THE sha256 OF THE DUMP (.gsa) THAT YtlbgnndjacagkaaProg.lean LOADS. Nothing in Lean hashes anything: it is a label: what it is worth is what the hold of that sum in a sandbox is worth. -/
noncomputable def Try.pinned : Pinned := { name := "ytlbgnndjacagkaa", sum := "779ae8384af38a40516853dca2117a7c179f24900e2b489eae3d935d4c60c736", checked := Try.checked }
namespace Rows
def none {H : Type} : Left H := { results := [], args := [] }

/-- 'keyholelaw01.IntegerInts': WHATEVER THE INPUT: true; the input reads as it did. -/
def integerIntsSpec : ChangeSpec := { name := "integerInts", fn := fun _ => fun
  | [d1, d2] => { results := [.lit (.bool true)], args := [d1, d2] }
  | _ => none }
def integerIntsRow : OpenClaim := { program := "ytlbgnndjacagkaa", sum := "779ae8384af38a40516853dca2117a7c179f24900e2b489eae3d935d4c60c736", func := "keyhole/keyholelaw01.IntegerInts", spec := "integerInts", named := ["math/bits.overflowError"], apart := false }
def IntegerIntsSaid : Prop := integerIntsRow.holds Try.pinned (OpenSpec.ofChange integerIntsSpec)

/-- ITS FALSE NEIGHBOUR: 'it returns false'. Refute it at one input. -/
def integerIntsWrong : ChangeSpec := { name := "integerInts", fn := fun _ => fun
  | [d1, d2] => { results := [.lit (.bool false)], args := [d1, d2] }
  | _ => none }
def IntegerIntsWrongFalsely : Prop := integerIntsRow.holds Try.pinned (OpenSpec.ofChange integerIntsWrong)

/-- 'keyholelaw01.IntegerCanonical': WHATEVER THE INPUT: true; the input reads as it did. -/
def integerCanonicalSpec : ChangeSpec := { name := "integerCanonical", fn := fun _ => fun
  | [d] => { results := [.lit (.bool true)], args := [d] }
  | _ => none }
def integerCanonicalRow : OpenClaim := { program := "ytlbgnndjacagkaa", sum := "779ae8384af38a40516853dca2117a7c179f24900e2b489eae3d935d4c60c736", func := "keyhole/keyholelaw01.IntegerCanonical", spec := "integerCanonical", named := ["math/bits.overflowError"], apart := false }
def IntegerCanonicalSaid : Prop := integerCanonicalRow.holds Try.pinned (OpenSpec.ofChange integerCanonicalSpec)

/-- ITS FALSE NEIGHBOUR: 'it returns false'. Refute it at one input. -/
def integerCanonicalWrong : ChangeSpec := { name := "integerCanonical", fn := fun _ => fun
  | [d] => { results := [.lit (.bool false)], args := [d] }
  | _ => none }
def IntegerCanonicalWrongFalsely : Prop := integerCanonicalRow.holds Try.pinned (OpenSpec.ofChange integerCanonicalWrong)

/-- 'keyholelaw01.IntegerParses': WHATEVER THE INPUT: true; the input reads as it did. -/
def integerParsesSpec : ChangeSpec := { name := "integerParses", fn := fun _ => fun
  | [d] => { results := [.lit (.bool true)], args := [d] }
  | _ => none }
def integerParsesRow : OpenClaim := { program := "ytlbgnndjacagkaa", sum := "779ae8384af38a40516853dca2117a7c179f24900e2b489eae3d935d4c60c736", func := "keyhole/keyholelaw01.IntegerParses", spec := "integerParses", named := ["math/bits.overflowError"], apart := false }
def IntegerParsesSaid : Prop := integerParsesRow.holds Try.pinned (OpenSpec.ofChange integerParsesSpec)

/-- ITS FALSE NEIGHBOUR: 'it returns false'. Refute it at one input. -/
def integerParsesWrong : ChangeSpec := { name := "integerParses", fn := fun _ => fun
  | [d] => { results := [.lit (.bool false)], args := [d] }
  | _ => none }
def IntegerParsesWrongFalsely : Prop := integerParsesRow.holds Try.pinned (OpenSpec.ofChange integerParsesWrong)

/-- 'keyholelaw01.IntegerTexts': WHATEVER THE INPUT: true; the input reads as it did. -/
def integerTextsSpec : ChangeSpec := { name := "integerTexts", fn := fun _ => fun
  | [d] => { results := [.lit (.bool true)], args := [d] }
  | _ => none }
def integerTextsRow : OpenClaim := { program := "ytlbgnndjacagkaa", sum := "779ae8384af38a40516853dca2117a7c179f24900e2b489eae3d935d4c60c736", func := "keyhole/keyholelaw01.IntegerTexts", spec := "integerTexts", named := ["math/bits.overflowError"], apart := false }
def IntegerTextsSaid : Prop := integerTextsRow.holds Try.pinned (OpenSpec.ofChange integerTextsSpec)

/-- ITS FALSE NEIGHBOUR: 'it returns false'. Refute it at one input. -/
def integerTextsWrong : ChangeSpec := { name := "integerTexts", fn := fun _ => fun
  | [d] => { results := [.lit (.bool false)], args := [d] }
  | _ => none }
def IntegerTextsWrongFalsely : Prop := integerTextsRow.holds Try.pinned (OpenSpec.ofChange integerTextsWrong)

/-- 'keyholelaw01.IntegerProducts': WHATEVER THE INPUT: true; the input reads as it did. -/
def integerProductsSpec : ChangeSpec := { name := "integerProducts", fn := fun _ => fun
  | [d1, d2, d3] => { results := [.lit (.bool true)], args := [d1, d2, d3] }
  | _ => none }
def integerProductsRow : OpenClaim := { program := "ytlbgnndjacagkaa", sum := "779ae8384af38a40516853dca2117a7c179f24900e2b489eae3d935d4c60c736", func := "keyhole/keyholelaw01.IntegerProducts", spec := "integerProducts", named := ["math/bits.overflowError"], apart := false }
def IntegerProductsSaid : Prop := integerProductsRow.holds Try.pinned (OpenSpec.ofChange integerProductsSpec)

/-- ITS FALSE NEIGHBOUR: 'it returns false'. Refute it at one input. -/
def integerProductsWrong : ChangeSpec := { name := "integerProducts", fn := fun _ => fun
  | [d1, d2, d3] => { results := [.lit (.bool false)], args := [d1, d2, d3] }
  | _ => none }
def IntegerProductsWrongFalsely : Prop := integerProductsRow.holds Try.pinned (OpenSpec.ofChange integerProductsWrong)

/-- 'keyholelaw01.IntegerSums': WHATEVER THE INPUT: true; the input reads as it did. -/
def integerSumsSpec : ChangeSpec := { name := "integerSums", fn := fun _ => fun
  | [d1, d2, d3] => { results := [.lit (.bool true)], args := [d1, d2, d3] }
  | _ => none }
def integerSumsRow : OpenClaim := { program := "ytlbgnndjacagkaa", sum := "779ae8384af38a40516853dca2117a7c179f24900e2b489eae3d935d4c60c736", func := "keyhole/keyholelaw01.IntegerSums", spec := "integerSums", named := ["math/bits.overflowError"], apart := false }
def IntegerSumsSaid : Prop := integerSumsRow.holds Try.pinned (OpenSpec.ofChange integerSumsSpec)

/-- ITS FALSE NEIGHBOUR: 'it returns false'. Refute it at one input. -/
def integerSumsWrong : ChangeSpec := { name := "integerSums", fn := fun _ => fun
  | [d1, d2, d3] => { results := [.lit (.bool false)], args := [d1, d2, d3] }
  | _ => none }
def IntegerSumsWrongFalsely : Prop := integerSumsRow.holds Try.pinned (OpenSpec.ofChange integerSumsWrong)

/-- 'keyholelaw01.IntegerOrder': WHATEVER THE INPUT: true; the input reads as it did. -/
def integerOrderSpec : ChangeSpec := { name := "integerOrder", fn := fun _ => fun
  | [d1, d2, d3] => { results := [.lit (.bool true)], args := [d1, d2, d3] }
  | _ => none }
def integerOrderRow : OpenClaim := { program := "ytlbgnndjacagkaa", sum := "779ae8384af38a40516853dca2117a7c179f24900e2b489eae3d935d4c60c736", func := "keyhole/keyholelaw01.IntegerOrder", spec := "integerOrder", named := ["math/bits.overflowError"], apart := false }
def IntegerOrderSaid : Prop := integerOrderRow.holds Try.pinned (OpenSpec.ofChange integerOrderSpec)

/-- ITS FALSE NEIGHBOUR: 'it returns false'. Refute it at one input. -/
def integerOrderWrong : ChangeSpec := { name := "integerOrder", fn := fun _ => fun
  | [d1, d2, d3] => { results := [.lit (.bool false)], args := [d1, d2, d3] }
  | _ => none }
def IntegerOrderWrongFalsely : Prop := integerOrderRow.holds Try.pinned (OpenSpec.ofChange integerOrderWrong)

/-- 'keyholelaw01.IntegerGcds': WHATEVER THE INPUT: true; the input reads as it did. -/
def integerGcdsSpec : ChangeSpec := { name := "integerGcds", fn := fun _ => fun
  | [d1, d2] => { results := [.lit (.bool true)], args := [d1, d2] }
  | _ => none }
def integerGcdsRow : OpenClaim := { program := "ytlbgnndjacagkaa", sum := "779ae8384af38a40516853dca2117a7c179f24900e2b489eae3d935d4c60c736", func := "keyhole/keyholelaw01.IntegerGcds", spec := "integerGcds", named := ["math/bits.overflowError"], apart := false }
def IntegerGcdsSaid : Prop := integerGcdsRow.holds Try.pinned (OpenSpec.ofChange integerGcdsSpec)

/-- ITS FALSE NEIGHBOUR: 'it returns false'. Refute it at one input. -/
def integerGcdsWrong : ChangeSpec := { name := "integerGcds", fn := fun _ => fun
  | [d1, d2] => { results := [.lit (.bool false)], args := [d1, d2] }
  | _ => none }
def IntegerGcdsWrongFalsely : Prop := integerGcdsRow.holds Try.pinned (OpenSpec.ofChange integerGcdsWrong)

/-- 'keyholelaw01.IntegerDivides': WHATEVER THE INPUT: true; the input reads as it did. -/
def integerDividesSpec : ChangeSpec := { name := "integerDivides", fn := fun _ => fun
  | [d1, d2] => { results := [.lit (.bool true)], args := [d1, d2] }
  | _ => none }
def integerDividesRow : OpenClaim := { program := "ytlbgnndjacagkaa", sum := "779ae8384af38a40516853dca2117a7c179f24900e2b489eae3d935d4c60c736", func := "keyhole/keyholelaw01.IntegerDivides", spec := "integerDivides", named := ["math/bits.overflowError"], apart := false }
def IntegerDividesSaid : Prop := integerDividesRow.holds Try.pinned (OpenSpec.ofChange integerDividesSpec)

/-- ITS FALSE NEIGHBOUR: 'it returns false'. Refute it at one input. -/
def integerDividesWrong : ChangeSpec := { name := "integerDivides", fn := fun _ => fun
  | [d1, d2] => { results := [.lit (.bool false)], args := [d1, d2] }
  | _ => none }
def IntegerDividesWrongFalsely : Prop := integerDividesRow.holds Try.pinned (OpenSpec.ofChange integerDividesWrong)

/- THE SECOND FORM. 'bulk': how many values and letters a reading holds, each counted each time it is reached (what is shared counts as often as it is met; a slice's spare places count too). A statement '..UptoSaid' is the law's where the arguments, and the package variables that the reading takes, are together of bulk at most 1048576: NARROWER than '..Said'. Prove '..Said' where nothing that the law and all that it calls make is longer than what came in: it says more and counts as full. Else prove '..UptoSaid'. A law counts once. -/
mutual
def uptoBulk {H : Type} : DataW H → Nat
  | .lit (.string bytes) => bytes.length + 1
  | .lit _ => 1
  | .nil => 1
  | .ptr d => uptoBulk d + 1
  | .slice elems spare => uptoBulkAll elems + uptoBulkAll spare + 1
  | .agg parts => uptoBulkAll parts + 1
  | .iface _ d => uptoBulk d + 1
  | .map entries => uptoBulkEntries entries + 1
  | .held _ => 1
def uptoBulkAll {H : Type} : List (DataW H) → Nat
  | [] => 0
  | d :: r => uptoBulk d + uptoBulkAll r
def uptoBulkEntries {H : Type} : List (Lit × DataW H) → Nat
  | [] => 0
  | x :: r => uptoBulkEntry x + uptoBulkEntries r
def uptoBulkEntry {H : Type} : Lit × DataW H → Nat
  | (.string bytes, d) => bytes.length + uptoBulk d + 1
  | (_, d) => uptoBulk d + 1
 end
def uptoSmall : (H : Type) → List (DataW H) → Bool := fun _ ds => decide (uptoBulkAll ds ≤ 1048576)
def OpenSpec.upto (s : _root_.Go.ChangeSpec) : _root_.Go.OpenSpec := { _root_.Go.OpenSpec.ofChange s with cond := some uptoSmall }

/-- 'keyholelaw01.IntegerInts', WHERE WHAT IT READS IS OF BULK AT MOST 1048576: true; the input reads as it did. -/
def integerIntsUptoRow : OpenClaim := { program := "ytlbgnndjacagkaa", sum := "779ae8384af38a40516853dca2117a7c179f24900e2b489eae3d935d4c60c736", func := "keyhole/keyholelaw01.IntegerInts", spec := "integerInts", named := ["math/bits.overflowError"], apart := false, narrowed := true }
def IntegerIntsUptoSaid : Prop := integerIntsUptoRow.holds Try.pinned (OpenSpec.upto integerIntsSpec)

/-- 'keyholelaw01.IntegerCanonical', WHERE WHAT IT READS IS OF BULK AT MOST 1048576: true; the input reads as it did. -/
def integerCanonicalUptoRow : OpenClaim := { program := "ytlbgnndjacagkaa", sum := "779ae8384af38a40516853dca2117a7c179f24900e2b489eae3d935d4c60c736", func := "keyhole/keyholelaw01.IntegerCanonical", spec := "integerCanonical", named := ["math/bits.overflowError"], apart := false, narrowed := true }
def IntegerCanonicalUptoSaid : Prop := integerCanonicalUptoRow.holds Try.pinned (OpenSpec.upto integerCanonicalSpec)

/-- 'keyholelaw01.IntegerParses', WHERE WHAT IT READS IS OF BULK AT MOST 1048576: true; the input reads as it did. -/
def integerParsesUptoRow : OpenClaim := { program := "ytlbgnndjacagkaa", sum := "779ae8384af38a40516853dca2117a7c179f24900e2b489eae3d935d4c60c736", func := "keyhole/keyholelaw01.IntegerParses", spec := "integerParses", named := ["math/bits.overflowError"], apart := false, narrowed := true }
def IntegerParsesUptoSaid : Prop := integerParsesUptoRow.holds Try.pinned (OpenSpec.upto integerParsesSpec)

/-- 'keyholelaw01.IntegerTexts', WHERE WHAT IT READS IS OF BULK AT MOST 1048576: true; the input reads as it did. -/
def integerTextsUptoRow : OpenClaim := { program := "ytlbgnndjacagkaa", sum := "779ae8384af38a40516853dca2117a7c179f24900e2b489eae3d935d4c60c736", func := "keyhole/keyholelaw01.IntegerTexts", spec := "integerTexts", named := ["math/bits.overflowError"], apart := false, narrowed := true }
def IntegerTextsUptoSaid : Prop := integerTextsUptoRow.holds Try.pinned (OpenSpec.upto integerTextsSpec)

/-- 'keyholelaw01.IntegerProducts', WHERE WHAT IT READS IS OF BULK AT MOST 1048576: true; the input reads as it did. -/
def integerProductsUptoRow : OpenClaim := { program := "ytlbgnndjacagkaa", sum := "779ae8384af38a40516853dca2117a7c179f24900e2b489eae3d935d4c60c736", func := "keyhole/keyholelaw01.IntegerProducts", spec := "integerProducts", named := ["math/bits.overflowError"], apart := false, narrowed := true }
def IntegerProductsUptoSaid : Prop := integerProductsUptoRow.holds Try.pinned (OpenSpec.upto integerProductsSpec)

/-- 'keyholelaw01.IntegerSums', WHERE WHAT IT READS IS OF BULK AT MOST 1048576: true; the input reads as it did. -/
def integerSumsUptoRow : OpenClaim := { program := "ytlbgnndjacagkaa", sum := "779ae8384af38a40516853dca2117a7c179f24900e2b489eae3d935d4c60c736", func := "keyhole/keyholelaw01.IntegerSums", spec := "integerSums", named := ["math/bits.overflowError"], apart := false, narrowed := true }
def IntegerSumsUptoSaid : Prop := integerSumsUptoRow.holds Try.pinned (OpenSpec.upto integerSumsSpec)

/-- 'keyholelaw01.IntegerOrder', WHERE WHAT IT READS IS OF BULK AT MOST 1048576: true; the input reads as it did. -/
def integerOrderUptoRow : OpenClaim := { program := "ytlbgnndjacagkaa", sum := "779ae8384af38a40516853dca2117a7c179f24900e2b489eae3d935d4c60c736", func := "keyhole/keyholelaw01.IntegerOrder", spec := "integerOrder", named := ["math/bits.overflowError"], apart := false, narrowed := true }
def IntegerOrderUptoSaid : Prop := integerOrderUptoRow.holds Try.pinned (OpenSpec.upto integerOrderSpec)

/-- 'keyholelaw01.IntegerGcds', WHERE WHAT IT READS IS OF BULK AT MOST 1048576: true; the input reads as it did. -/
def integerGcdsUptoRow : OpenClaim := { program := "ytlbgnndjacagkaa", sum := "779ae8384af38a40516853dca2117a7c179f24900e2b489eae3d935d4c60c736", func := "keyhole/keyholelaw01.IntegerGcds", spec := "integerGcds", named := ["math/bits.overflowError"], apart := false, narrowed := true }
def IntegerGcdsUptoSaid : Prop := integerGcdsUptoRow.holds Try.pinned (OpenSpec.upto integerGcdsSpec)

/-- 'keyholelaw01.IntegerDivides', WHERE WHAT IT READS IS OF BULK AT MOST 1048576: true; the input reads as it did. -/
def integerDividesUptoRow : OpenClaim := { program := "ytlbgnndjacagkaa", sum := "779ae8384af38a40516853dca2117a7c179f24900e2b489eae3d935d4c60c736", func := "keyhole/keyholelaw01.IntegerDivides", spec := "integerDivides", named := ["math/bits.overflowError"], apart := false, narrowed := true }
def IntegerDividesUptoSaid : Prop := integerDividesUptoRow.holds Try.pinned (OpenSpec.upto integerDividesSpec)

end Rows
end Go.Proofs.Ytlbgnndjacagkaa
