/- Contracts of the functions that the statements reach, part 37. -/
import Derived.Test.YtbdcjhoedhhabaaGreatRows
import Derived.JoinedOf
import Derived.KernelRfl
import Derived.Test.YtbdcjhoedhhabaaGreatE33
import Derived.Test.YtbdcjhoedhhabaaGreatE36
set_option linter.unusedSimpArgs false
set_option linter.unusedVariables false

/- Arguments opened: nets, flows. -/
namespace Go.Proofs.YtbdcjhoedhhabaaGreat
open Go.ChangeShapes Go.WideShapes Go.ChangeAt Go.RowKit Go.Joins

theorem cellsEdge : Tryz.prog.cellsOf 200 = 2 := by kernel_rfl
theorem cellsEdges : Tryz.prog.cellsOf 107 = 1 := by kernel_rfl
theorem cellsGraph : Tryz.prog.cellsOf 109 = 2 := by kernel_rfl
theorem cellsNet : Tryz.prog.cellsOf 111 = 5 := by kernel_rfl
theorem cellsFlow : Tryz.prog.cellsOf 115 = 2 := by kernel_rfl

set_option maxRecDepth 100000 in
theorem open_EdgeC {H : Type} {enc : TypeId × Value → H} {W : World} {base fuel : Nat} {c0 c1 : Value} {x : DataW H × List MemPlace}
 (h : DataW.trod enc Tryz.prog W base (fun _ => true) true fuel 200 [c0, c1] = some x) : ∃ a b : Int, c0 = .int .i64 a ∧ c1 = .int .i64 b ∧ (-9223372036854775808 ≤ a ∧ a ≤ 9223372036854775807) ∧ (-9223372036854775808 ≤ b ∧ b ≤ 9223372036854775807) := by
 obtain ⟨xs, n, _, _, _, hlen, hg⟩ := DataW.trod_array Tryz.underlying200 h
 match xs, hlen with
 | [y0, y1], _ =>
   have g0 := hg 0 (by decide)
   have g1 := hg 1 (by decide)
   rw [cellsInt1] at g0 g1
   have h0 : DataW.trod enc Tryz.prog W base (fun _ => true) true n 3 [c0] = some y0 := g0
   have h1 : DataW.trod enc Tryz.prog W base (fun _ => true) true n 3 [c1] = some y1 := g1
   obtain ⟨a, e0, _, ha⟩ := DataW.trod_int Tryz.underlying3 h0
   obtain ⟨b, e1, _, hb⟩ := DataW.trod_int Tryz.underlying3 h1
   simp at e0 e1
   subst e0 e1
   have ha := bounds_i64 ha
   have hb := bounds_i64 hb
   exact ⟨a, b, rfl, rfl, by omega, by omega⟩

set_option maxRecDepth 100000 in
theorem open_EdgesT {H : Type} {enc : TypeId × Value → H} {W : World} {base fuel : Nat} {v : Value} {x : DataW H × List MemPlace}
 (h : DataW.trod enc Tryz.prog W base (fun _ => true) true fuel 107 [v] = some x) : ∃ l, Tims W v l := by
 rcases DataW.trod_slice Tryz.underlying107 h with ⟨hcs, _⟩ | ⟨a, len, cap, elems, rest, n, _, hcs, _, hb, hl, hm, hlen, hel, _⟩
 ·simp at hcs
  subst hcs
  exact ⟨[], none, 0, rfl, Nat.le_refl _, Nat.zero_le _, fun h => absurd rfl h, fun x hx => by simp at hx⟩
 ·simp at hcs
  subst hcs
  have key : ∀ i, i < len → ∃ e : Int × Int, ((W.cell? (a.add (i * 2)) = some (.int .i64 e.1) ∧ W.cell? ((a.add (i * 2)).add 1) = some (.int .i64 e.2)) ∧ (-9223372036854775808 ≤ e.1 ∧ e.1 ≤ 9223372036854775807) ∧ (-9223372036854775808 ≤ e.2 ∧ e.2 ≤ 9223372036854775807)) ∧ a.block < W.heap.size := fun i hi => by
   have hq := hel i hi
   rw [cellsEdge, List.getElem?_eq_getElem (l := elems) (i := i) (by omega), Option.bind_eq_some_iff] at hq
   obtain ⟨cs, hcs, ht⟩ := hq
   obtain ⟨_, hn, hc⟩ := World.cells?_some hcs
   match cs, hn with
   | [c0, c1], _ =>
     obtain ⟨x, y, e0, e1, b0, b1⟩ := open_EdgeC ht
     have hbl0 := World.cells?_block hcs (show 0 < 2 by decide)
     have hbl : a.block < W.heap.size := by rw [add_block] at hbl0; exact hbl0
     refine ⟨(x, y), ⟨⟨?_, ?_⟩, b0, b1⟩, hbl⟩
     ·have h0 := hc 0 (by decide)
      rw [addr_zero] at h0
      rw [h0, ← e0]; rfl
     ·have h1 := hc 1 (by decide)
      rw [h1, ← e1]; rfl
  obtain ⟨l, hl', hp⟩ := list_of _ len (fun i hi => key i hi)
  subst hl'
  refine ⟨l, some a, cap, rfl, hl, hm, fun hz => ⟨a, rfl, ?_, fun i e he => (hp i e he).1.1⟩, fun x hx => ?_⟩
  ·obtain ⟨e, he⟩ := key 0 (by omega)
   exact he.2
  ·obtain ⟨i, hi, rfl⟩ := List.getElem_of_mem hx
   exact (hp i _ (List.getElem?_eq_getElem hi)).1.2

set_option maxRecDepth 100000 in
theorem open_Net {H : Type} {enc : TypeId × Value → H} {W : World} {base : Nat} {r : Reach} {b0 : Nat} {v : Value} {d : DataW H} {p : List MemPlace}
 (hv : Value.okWide Tryz.prog W r b0 111 v) (h : DataW.Trod enc Tryz.prog W base (fun _ => true) true 111 v d p) : ∃ (n : Int) (vE vW vF vT : Value) (es : List (Int × Int)) (ws s t : List Int), v = .agg #[.int .i64 n, vE, vW, vF, vT] ∧ (-9223372036854775808 ≤ n ∧ n ≤ 9223372036854775807) ∧ Tims W vE es ∧ IntsV W vW ws ∧ IntsV W vF s ∧ IntsV W vT t := by
 obtain ⟨cs, rfl, hsz⟩ := okWide_struct Tryz.underlying111 hv
 obtain ⟨l⟩ := cs
 match l, hsz.trans cellsNet with
 | [c0, c1, c2, c3, c4], _ =>
   obtain ⟨fuel, hf⟩ := h
   obtain ⟨xs, n, _, _, _, hlen, hg⟩ := DataW.trod_struct Tryz.underlying111 hf
   match xs, hlen with
   | [y0, y1, y2, y3], _ =>
     have g0 : DataW.trod enc Tryz.prog W base (fun _ => true) true n 109 (([c0, c1, c2, c3, c4].drop 0).take (Tryz.prog.cellsOf 109)) = [y0, y1, y2, y3][0]? := hg 0 _ rfl
     have g1 : DataW.trod enc Tryz.prog W base (fun _ => true) true n 27 (([c0, c1, c2, c3, c4].drop 2).take (Tryz.prog.cellsOf 27)) = [y0, y1, y2, y3][1]? := hg 1 _ rfl
     have g2 : DataW.trod enc Tryz.prog W base (fun _ => true) true n 27 (([c0, c1, c2, c3, c4].drop 3).take (Tryz.prog.cellsOf 27)) = [y0, y1, y2, y3][2]? := hg 2 _ rfl
     have g3 : DataW.trod enc Tryz.prog W base (fun _ => true) true n 27 (([c0, c1, c2, c3, c4].drop 4).take (Tryz.prog.cellsOf 27)) = [y0, y1, y2, y3][3]? := hg 3 _ rfl
     rw [cellsGraph] at g0
     rw [cellsInts] at g1 g2 g3
     have h0 : DataW.trod enc Tryz.prog W base (fun _ => true) true n 109 [c0, c1] = some y0 := g0
     have h1 : DataW.trod enc Tryz.prog W base (fun _ => true) true n 27 [c2] = some y1 := g1
     have h2 : DataW.trod enc Tryz.prog W base (fun _ => true) true n 27 [c3] = some y2 := g2
     have h3 : DataW.trod enc Tryz.prog W base (fun _ => true) true n 27 [c4] = some y3 := g3
     obtain ⟨ws, q1⟩ := open_Ints h1
     obtain ⟨s, q2⟩ := open_Ints h2
     obtain ⟨t, q3⟩ := open_Ints h3
     obtain ⟨zs, n', _, _, _, hlen', hg'⟩ := DataW.trod_struct Tryz.underlying109 h0
     match zs, hlen' with
     | [z0, z1], _ =>
       have g4 : DataW.trod enc Tryz.prog W base (fun _ => true) true n' 3 (([c0, c1].drop 0).take (Tryz.prog.cellsOf 3)) = [z0, z1][0]? := hg' 0 _ rfl
       have g5 : DataW.trod enc Tryz.prog W base (fun _ => true) true n' 107 (([c0, c1].drop 1).take (Tryz.prog.cellsOf 107)) = [z0, z1][1]? := hg' 1 _ rfl
       rw [cellsInt1] at g4
       rw [cellsEdges] at g5
       have h4 : DataW.trod enc Tryz.prog W base (fun _ => true) true n' 3 [c0] = some z0 := g4
       have h5 : DataW.trod enc Tryz.prog W base (fun _ => true) true n' 107 [c1] = some z1 := g5
       obtain ⟨a, e0, _, ha⟩ := DataW.trod_int Tryz.underlying3 h4
       simp at e0
       subst e0
       have ha := bounds_i64 ha
       obtain ⟨es, q0⟩ := open_EdgesT h5
       exact ⟨a, c1, c2, c3, c4, es, ws, s, t, rfl, by omega, q0, q1, q2, q3⟩

set_option maxRecDepth 100000 in
theorem open_IntsW {H : Type} {enc : TypeId × Value → H} {W : World} {base : Nat} {r : Reach} {b0 : Nat} {v : Value} {d : DataW H} {p : List MemPlace}
 (hv : Value.okWide Tryz.prog W r b0 27 v) (h : DataW.Trod enc Tryz.prog W base (fun _ => true) true 27 v d p) : ∃ zs, IntsV W v zs := by
 obtain ⟨a, len, cap, rfl⟩ := okWide_slice Tryz.underlying27 hv
 obtain ⟨fuel, hf⟩ := h
 exact open_Ints hf

set_option maxRecDepth 100000 in
theorem open_Flows {H : Type} {enc : TypeId × Value → H} {W : World} {base : Nat} {r : Reach} {b0 : Nat} {v : Value} {d : DataW H} {p : List MemPlace}
 (hv : Value.okWide Tryz.prog W r b0 112 v) (h : DataW.Trod enc Tryz.prog W base (fun _ => true) true 112 v d p) : ∃ l, FlowsV W v l := by
 obtain ⟨a', len', cap', rfl⟩ := okWide_slice Tryz.underlying112 hv
 obtain ⟨fuel, hf⟩ := h
 rcases DataW.trod_slice Tryz.underlying112 hf with ⟨hcs, _⟩ | ⟨a, len, cap, elems, rest, n, _, hcs, _, hb, hl, hm, hlen, hel, _⟩
 ·simp [Value.cells] at hcs
  obtain ⟨rfl, rfl, rfl⟩ := hcs
  exact ⟨[], none, 0, rfl, Nat.le_refl _, Nat.zero_le _, fun h => absurd rfl h, fun x hx => by simp at hx⟩
 ·simp [Value.cells] at hcs
  obtain ⟨rfl, rfl, rfl⟩ := hcs
  have key : ∀ i, i < len' → ∃ e : List Int × Int, ((∃ B c, W.cell? (a.add (i * 2)) = some (.slice B e.1.length c) ∧ W.cell? ((a.add (i * 2)).add 1) = some (.int .i64 e.2) ∧ IntsV W (.slice B e.1.length c) e.1) ∧ (-9223372036854775808 ≤ e.2 ∧ e.2 ≤ 9223372036854775807)) ∧ a.block < W.heap.size := fun i hi => by
   have hq := hel i hi
   rw [cellsFlow, List.getElem?_eq_getElem (l := elems) (i := i) (by omega), Option.bind_eq_some_iff] at hq
   obtain ⟨cs, hcs, ht⟩ := hq
   obtain ⟨_, hn, hc⟩ := World.cells?_some hcs
   match cs, hn with
   | [c0, c1], _ =>
     obtain ⟨zs, n', _, _, _, hlen', hg'⟩ := DataW.trod_struct Tryz.underlying115 ht
     match zs, hlen' with
     | [z0, z1], _ =>
       have g4 : DataW.trod enc Tryz.prog W base (fun _ => true) true n' 27 (([c0, c1].drop 0).take (Tryz.prog.cellsOf 27)) = [z0, z1][0]? := hg' 0 _ rfl
       have g5 : DataW.trod enc Tryz.prog W base (fun _ => true) true n' 3 (([c0, c1].drop 1).take (Tryz.prog.cellsOf 3)) = [z0, z1][1]? := hg' 1 _ rfl
       rw [cellsInts] at g4
       rw [cellsInt1] at g5
       have h4 : DataW.trod enc Tryz.prog W base (fun _ => true) true n' 27 [c0] = some z0 := g4
       have h5 : DataW.trod enc Tryz.prog W base (fun _ => true) true n' 3 [c1] = some z1 := g5
       obtain ⟨l, q0⟩ := open_Ints h4
       obtain ⟨y, e1, _, hy⟩ := DataW.trod_int Tryz.underlying3 h5
       simp at e1
       subst e1
       have hy := bounds_i64 hy
       have hbl0 := World.cells?_block hcs (show 0 < 2 by decide)
       have hbl : a.block < W.heap.size := by rw [add_block] at hbl0; exact hbl0
       obtain ⟨B, c, e, hr2, -, -⟩ := q0.op
       have h0 := hc 0 (by decide)
       rw [addr_zero] at h0
       have h1 := hc 1 (by decide)
       refine ⟨(l, y), ⟨⟨B, c, ?_, ?_, hr2⟩, by show _ ∧ _; omega⟩, hbl⟩
       ·rw [h0, ← e]; rfl
       ·rw [h1]; rfl
  obtain ⟨l, hl', hp⟩ := list_of _ len' (fun i hi => key i hi)
  subst hl'
  refine ⟨l, some a, cap', rfl, hl, hm, fun hz => ⟨a, rfl, ?_, fun i e he => (hp i e he).1.1⟩, fun x hx => ?_⟩
  ·obtain ⟨e, he⟩ := key 0 (by omega)
   exact he.2
  ·obtain ⟨i, hi, rfl⟩ := List.getElem_of_mem hx
   exact (hp i _ (List.getElem?_eq_getElem hi)).1.2
end Go.Proofs.YtbdcjhoedhhabaaGreat

/- The closed facts of a row, one by one: together they are too dear for one check of the kernel. -/
namespace Go.Proofs.YtbdcjhoedhhabaaGreat

/-- The facts that cost little. -/
def cheapFacts (P : Program) (fn : Func) (s : ChangeSpec) (c : OpenClaim) : Bool :=
 c.wf (OpenSpec.ofChange s) &&
 fn.params.all (P.readableRec ·) && namedTie P c.named s.vars &&
 (c.stops == []) && (P.stops == []) && (c.knobs == []) && (P.stopKnobs == []) &&
 (c.maps == (fn.params.toList ++ s.plain.varTypes P).any (P.mapsRec ·)) && (c.ifaces == (fn.params.toList ++ s.plain.varTypes P).any (P.ifacesRec ·)) && (c.mapsOut == P.mapsAmong fn.resultTypes.toList) &&
 (c.loops == (fn.params.toList ++ s.plain.varTypes P).any (P.loopsFrom ·)) && (c.wideKeys == (fn.params.toList ++ s.plain.varTypes P ++ fn.resultTypes.toList).any (P.wideKeysFrom ·)) &&
 s.vars.all (P.varReadable ·) && fn.resultTypes.all (fun t => P.readableRec t && decide (t < P.types.size)) && (c.ifacesOut == fn.resultTypes.toList.any (P.ifacesRec ·)) && (c.loopsOut == fn.resultTypes.toList.any (P.loopsFrom ·)) && (c.plainKeys == P.plainKeys) && c.shortTexts.isNone && P.stopsHeard && P.mayEnter && (c.lifted == P.liftsFinal) && (P.make == some c.make) && (c.kinds == (if c.domain.isEmpty then [] else fn.params.toList.map fun t => match P.underlying t with | some (.int k) => some k | _ => none)) && (c.pinned == c.pinnedBy) &&
 (c.veiled == (fn.params.toList ++ s.plain.varTypes P ++ fn.resultTypes.toList).any (P.veiledRec ·)) && c.veiledFits P fn.params.toList (fn.params.toList ++ s.plain.varTypes P ++ fn.resultTypes.toList)

theorem joined_mk {P : Program} {f : FuncId} {fn : Func} {s : ChangeSpec} {c : OpenClaim} (h1 : laidOutB P = true) (h2 : mapsRowed P = true) (h3 : (c.inPlace == P.inPlace f) = true) (h4 : (c.unfollowed == P.unfollowed f) = true)
 (h5 : (c.recurses == P.recurses f) = true) (h6 : (c.named == P.varsNamed f) = true) (h : cheapFacts P fn s c = true) : joinedFacts P f fn s c = true := by
 unfold joinedFacts
 rw [h1, h2, h3, h4, h5, h6]
 simp only [Bool.and_true]
 exact h

theorem rowed : mapsRowed Tryz.prog = true := by kernel_rfl

end Go.Proofs.YtbdcjhoedhhabaaGreat

