/- Contracts of the functions that the statements reach, part 47. -/
import Derived.Test.YtpeglenapmkdfaaGreatRows
import Derived.Deep.RegionHeld3
import Derived.Test.YtpeglenapmkdfaaGreatM17
import Derived.Test.YtpeglenapmkdfaaGreatM45
set_option linter.unusedSimpArgs false
set_option linter.unusedVariables false

/- The moves of a drawn region's walk, short: an operation that is off; an operation that yields a value. -/
namespace Go.Proofs.YtpeglenapmkdfaaGreat
open Go
section
variable {P : Program} {ops : Array Oper} {Q : Exit → Act → World → Prop} {md : Region.Mode} {S : World → Prop} {oi : Oper} {v : Value} {fuel : Nat} {listed : Array Bool} {a : Act} {w : World}
theorem offT (i : Nat) (hS : S w) (h : wpAnyH P md ops (NoPanic Q) S fuel (listed.setIfInBounds i true) (a.put oi.dst undef) w) (hi : ops[i]? = some oi := by rfl) (hs : Region.noSelect ops = true := by kernel_rfl) (hf : Region.free md ops listed i = true := by kernel_rfl)
    (hr : (Region.ready md ops listed).contains i = true := by kernel_rfl) (hy : YieldsIf P ops S oi undef a := by exact Or.inr ⟨by kernel_rfl, rfl⟩) : wpAnyH P md ops (NoPanic Q) S (fuel + 1) listed a w :=
  wpAnyH_take hi hs hf hr (fun _ _ _ h => h) hy hS h
theorem takeT (i : Nat) (hS : S w) (h : wpAnyH P md ops (NoPanic Q) S fuel (listed.setIfInBounds i true) (a.put oi.dst v) w) (hi : ops[i]? = some oi := by rfl) (hy : YieldsIf P ops S oi v a := by
      refine Or.inl ⟨by kernel_rfl, ?_⟩
      intro w hSw
      (try dsimp only at hSw)
      first | (go_simp; done) | (go_simp; with_reducible rfl)) (hs : Region.noSelect ops = true := by kernel_rfl) (hf : Region.free md ops listed i = true := by kernel_rfl)
    (hr : (Region.ready md ops listed).contains i = true := by kernel_rfl) : wpAnyH P md ops (NoPanic Q) S (fuel + 1) listed a w :=
  wpAnyH_take hi hs hf hr (fun _ _ _ h => h) hy hS h
end
end Go.Proofs.YtpeglenapmkdfaaGreat

/- Arguments opened: two bytes. -/
namespace Go.Proofs.YtpeglenapmkdfaaGreat
open Go.ChangeShapes Go.WideShapes Go.ChangeAt Go.RowKit Go.Joins
theorem cellsAt : Tryz.prog.cellsOf 38 = 2 := by kernel_rfl
theorem cellsU8 : Tryz.prog.cellsOf 5 = 1 := by kernel_rfl
set_option maxRecDepth 100000 in
theorem open_At {H : Type} {enc : TypeId × Value → H} {W : World} {base : Nat} {r : Reach} {b0 : Nat} {v : Value} {d : DataW H} {p : List MemPlace}
    (hv : Value.okWide Tryz.prog W r b0 38 v) (h : DataW.Trod enc Tryz.prog W base (fun _ => true) true 38 v d p) : ∃ a b, v = .agg #[.int .u8 a, .int .u8 b] ∧ (Lit.int .u8 a).wf = true ∧ (Lit.int .u8 b).wf = true := by
  obtain ⟨cs, rfl, hsz⟩ := okWide_array Tryz.underlying38 hv
  obtain ⟨l⟩ := cs
  match l, hsz.trans cellsAt with
  | [c0, c1], _ =>
    obtain ⟨fuel, hf⟩ := h
    obtain ⟨xs, n, _, _, _, hlen, hg⟩ := DataW.trod_array Tryz.underlying38 hf
    match xs, hlen with
    | [y0, y1], _ =>
      have g0 := hg 0 (by decide)
      have g1 := hg 1 (by decide)
      rw [cellsU8] at g0 g1
      have h0 : DataW.trod enc Tryz.prog W base (fun _ => true) true n 5 [c0] = some y0 := g0
      have h1 : DataW.trod enc Tryz.prog W base (fun _ => true) true n 5 [c1] = some y1 := g1
      obtain ⟨a, e0, _, ha⟩ := DataW.trod_int Tryz.underlying5 h0
      obtain ⟨b, e1, _, hb⟩ := DataW.trod_int Tryz.underlying5 h1
      simp at e0 e1
      subst e0 e1
      exact ⟨a, b, rfl, ha, hb⟩
end Go.Proofs.YtpeglenapmkdfaaGreat

