/- Contracts of the functions that the statements reach, part 47. -/
import Derived.Test.YtpeglenapmkdfaaGreatRows
import Derived.Deep.RegionHeld3
import Derived.Test.YtpeglenapmkdfaaGreatM45
set_option linter.unusedSimpArgs false
set_option linter.unusedVariables false

/- The moves of a drawn region's walk, short: an operation that is off; an operation that yields a value. -/
namespace Go.Proofs.YtpeglenapmkdfaaGreat
open Go
section
variable {P : Program} {ops : Array Oper} {Q : Exit → Act → World → Prop} {md : Region.Mode} {S : World → Prop} {oi : Oper} {v : Value} {fuel : Nat} {listed : Array Bool} {a : Act} {w : World}
theorem offT (i : Nat) (hS : S w) (h : wpAnyH P md ops (NoPanic Q) S fuel (listed.setIfInBounds i true) (a.put oi.dst undef) w) (hi : ops[i]? = some oi := by rfl) (hs : Region.noSelect ops = true := by kernel_rfl) (hf : Region.free md ops listed i = true := by kernel_rfl)
    (hr : (Region.ready md ops listed).contains i = true := by kernel_rfl) (hy : YieldsIf P ops S oi undef a := by exact Or.inr ⟨by kernel_rfl, rfl⟩) : wpAnyH P md ops (NoPanic Q) S (fuel + 1) listed a w :=
  wpAnyH_take hi hs hf hr (fun _ _ _ h => h) hy hS h
theorem takeT (i : Nat) (hS : S w) (h : wpAnyH P md ops (NoPanic Q) S fuel (listed.setIfInBounds i true) (a.put oi.dst v) w) (hi : ops[i]? = some oi := by rfl) (hy : YieldsIf P ops S oi v a := by
      refine Or.inl ⟨by kernel_rfl, ?_⟩
      intro w hSw
      (try dsimp only at hSw)
      first | (go_simp; done) | (go_simp; with_reducible rfl)) (hs : Region.noSelect ops = true := by kernel_rfl) (hf : Region.free md ops listed i = true := by kernel_rfl)
    (hr : (Region.ready md ops listed).contains i = true := by kernel_rfl) : wpAnyH P md ops (NoPanic Q) S (fuel + 1) listed a w :=
  wpAnyH_take hi hs hf hr (fun _ _ _ h => h) hy hS h
end
end Go.Proofs.YtpeglenapmkdfaaGreat

