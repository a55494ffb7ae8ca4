/- Contracts of the functions that the statements reach, part 33. -/
import Derived.Test.YtbdcjhoedhhabaaGreatRows
import Derived.JoinedOf
import Derived.KernelRfl
import Derived.Test.YtbdcjhoedhhabaaGreatB21
import Derived.Test.YtbdcjhoedhhabaaGreatB22
import Derived.Test.YtbdcjhoedhhabaaGreatB25
import Derived.Test.YtbdcjhoedhhabaaGreatB32
set_option linter.unusedSimpArgs false
set_option linter.unusedVariables false

/- Arguments opened: a list of lists of fractions (as in OpenS, which serves layer 8). -/
namespace Go.Proofs.YtbdcjhoedhhabaaGreat
open Go.ChangeShapes Go.WideShapes Go.ChangeAt Go.RowKit Go.Joins

/-- A list of lists of raw fractions. -/
def RMat (w : World) (v : Value) (L : List (List RF)) : Prop :=
 ∃ A cap, v = .slice A L.length cap ∧ L.length ≤ cap ∧ cap ≤ maxLen ∧ (L.length ≠ 0 → ∃ a, A = some a ∧ a.block < w.heap.size ∧ ∀ i l, L[i]? = some l → ∃ B c, w.cell? (a.add i) = some (.slice B l.length c) ∧ Rats w (fun _ => False) (.slice B l.length c) l)

section
variable {w w' : World} {v : Value} {L : List (List RF)}
theorem RMat.keep (h : RMat w v L) (hk : Keep (fun _ => False) w w') : RMat w' v L := by
 obtain ⟨A, cap, hv, h1, h2, h3⟩ := h
 refine ⟨A, cap, hv, h1, h2, fun hn => ?_⟩
 obtain ⟨a, ha, hb, hc⟩ := h3 hn
 refine ⟨a, ha, Nat.lt_of_lt_of_le hb hk.size, fun i l hl => ?_⟩
 obtain ⟨B, c, h4, h5⟩ := hc i l hl
 exact ⟨B, c, cell_keep h4 (by rw [addr_block]; exact hb) id hk, h5.keep hk⟩
theorem RMat.op (h : RMat w v L) : ∃ (A : Option Addr) (cap : Nat), v = .slice A L.length cap ∧ RMat w (.slice A L.length cap) L ∧ L.length ≤ cap ∧ cap ≤ maxLen := by
 have h0 := h
 obtain ⟨A, cap, rfl, h1, h2, -⟩ := h
 exact ⟨A, cap, rfl, h0, h1, h2⟩
theorem RMat.at {A : Option Addr} {n cap : Nat} (h : RMat w (.slice A n cap) L) {i : Nat} {l : List RF} (he : L[i]? = some l) : ∃ (a : Addr) (B : Option Addr) (c : Nat), A = some a ∧ a.block < w.heap.size ∧ w.cell? (a.add i) = some (.slice B l.length c) ∧ Rats w (fun _ => False) (.slice B l.length c) l ∧ l.length ≤ c ∧ c ≤ maxLen := by
 obtain ⟨A', cap', hv, h1, h2, h3⟩ := h
 injection hv with e1 e2 e3
 subst e1
 obtain ⟨a, ha, hb, hc⟩ := h3 (by have := (List.getElem?_eq_some_iff.1 he).1; omega)
 obtain ⟨B, c, h4, h5⟩ := hc i l he
 obtain ⟨A2, c2, h6, -, h7, h8⟩ := h5.op
 injection h6 with e1 e2 e3
 subst e1 e3
 exact ⟨a, B, c, ha, hb, h4, h5, h7, h8⟩
end

/- Arguments opened: lists of integers, channels, a refining. -/
theorem cellsInt1 : Tryz.prog.cellsOf 3 = 1 := by kernel_rfl
theorem cellsInts : Tryz.prog.cellsOf 27 = 1 := by kernel_rfl
theorem open_Ints {H : Type} {enc : TypeId × Value → H} {W : World} {base : Nat} {fuel : Nat} {v : Value} {x : DataW H × List MemPlace}
 (h : DataW.trod enc Tryz.prog W base (fun _ => true) true fuel 27 [v] = some x) : ∃ zs, IntsV W v zs := by
 rcases open_ints Tryz.underlying27 Tryz.underlying3 cellsInt1 h with ⟨hcs, _⟩ | ⟨a, len, cap, zs, hcs, _, hl, hm, hz, _, hcell, hwz⟩
 ·simp at hcs
  subst hcs
  exact ⟨[], none, 0, rfl, Nat.le_refl _, Nat.zero_le _, fun h => absurd rfl h, fun z hz => by simp at hz⟩
 ·simp at hcs
  subst hcs
  have hz' : zs.length = cap := by simpa using hz
  have hlen : (zs.take len).length = len := by simp; omega
  refine ⟨zs.take len, _, _, by rw [hlen], by rw [hlen]; exact hl, hm, fun hn => ⟨a, rfl, ?_, fun j u hu => ?_⟩, fun z hz => ?_⟩
  ·rw [hlen] at hn
   have h0 := hcell 0 (by omega)
   rw [addr_zero] at h0
   exact World.block_lt_of_cell? W a h0
  ·have hj : j < len := by have := (List.getElem?_eq_some_iff.1 hu).1; simp at this; omega
   have hjz : j < zs.length := by omega
   rw [hcell j hjz]
   rw [List.getElem?_take, if_pos hj, List.getElem?_eq_getElem hjz] at hu
   injection hu with hu
   rw [← hu]
   simp [hjz]
  ·have := bounds_i64 (hwz z (List.mem_of_mem_take hz))
   omega

/- Arguments opened: running times, losses, tables with a number of groups and a cost. -/

theorem cellsTimed : Tryz.prog.cellsOf 133 = 2 := by kernel_rfl
theorem cellsSegments : Tryz.prog.cellsOf 91 = 1 := by kernel_rfl

set_option maxRecDepth 100000 in
theorem open_IMatT {H : Type} {enc : TypeId × Value → H} {W : World} {base : Nat} {fuel : Nat} {v : Value} {x : DataW H × List MemPlace} {t : TypeId} (ht : Tryz.prog.underlying t = some (.slice 27))
 (h : DataW.trod enc Tryz.prog W base (fun _ => true) true fuel t [v] = some x) : ∃ L, IMat W v L := by
 rcases DataW.trod_slice ht h with ⟨hcs, _⟩ | ⟨a, len, cap, elems, rest, n, _, hcs, _, hb, hl, hm, hlen, hel, _⟩
 ·simp at hcs
  subst hcs
  exact ⟨[], none, 0, rfl, Nat.le_refl _, Nat.zero_le _, fun h => absurd rfl h⟩
 ·simp at hcs
  subst hcs
  have key : ∀ i, i < len → ∃ l, (∃ B c, W.cell? (a.add i) = some (.slice B l.length c) ∧ IntsV W (.slice B l.length c) l) ∧ a.block < W.heap.size := fun i hi => by
   have hq := hel i hi
   rw [cellsInts, List.getElem?_eq_getElem (l := elems) (i := i) (by omega), Option.bind_eq_some_iff, Nat.mul_one] at hq
   obtain ⟨cs, hcs, ht⟩ := hq
   obtain ⟨_, hn, hc⟩ := World.cells?_some hcs
   match cs, hn with
   | [c0], _ =>
     obtain ⟨l, hr⟩ := open_Ints ht
     have hbl0 := World.cells?_block hcs (show 0 < 1 by decide)
     have hbl : a.block < W.heap.size := by rw [add_block] at hbl0; exact hbl0
     obtain ⟨B, c, e, hr2, -, -⟩ := hr.op
     have h0 := hc 0 (by decide)
     rw [addr_zero] at h0
     refine ⟨l, ⟨B, c, ?_, hr2⟩, hbl⟩
     rw [← e]; exact h0
  obtain ⟨L, hl', hp⟩ := list_of _ len (fun i hi => key i hi)
  subst hl'
  refine ⟨L, some a, cap, rfl, hl, hm, fun hz => ⟨a, rfl, ?_, fun i e he => (hp i e he).1⟩⟩
  obtain ⟨e, he⟩ := key 0 (by omega)
  exact he.2

set_option maxRecDepth 100000 in
theorem open_Losses {H : Type} {enc : TypeId × Value → H} {W : World} {base : Nat} {r : Reach} {b0 : Nat} {v : Value} {d : DataW H} {p : List MemPlace}
 (hv : Value.okWide Tryz.prog W r b0 90 v) (h : DataW.Trod enc Tryz.prog W base (fun _ => true) true 90 v d p) : ∃ L, IMat W v L := by
 obtain ⟨a, len, cap, rfl⟩ := okWide_slice Tryz.underlying90 hv
 obtain ⟨fuel, hf⟩ := h
 exact open_IMatT Tryz.underlying90 hf

set_option maxRecDepth 100000 in
theorem open_TimedC {H : Type} {enc : TypeId × Value → H} {W : World} {base fuel : Nat} {c0 c1 : Value} {x : DataW H × List MemPlace}
 (h : DataW.trod enc Tryz.prog W base (fun _ => true) true fuel 133 [c0, c1] = some x) : ∃ a b : Int, c0 = .int .i64 a ∧ c1 = .int .i64 b ∧ (-9223372036854775808 ≤ a ∧ a ≤ 9223372036854775807) ∧ (-9223372036854775808 ≤ b ∧ b ≤ 9223372036854775807) := by
 obtain ⟨xs, n, _, _, _, hlen, hg⟩ := DataW.trod_struct Tryz.underlying133 h
 match xs, hlen with
 | [y0, y1], _ =>
   have g0 : DataW.trod enc Tryz.prog W base (fun _ => true) true n 3 (([c0, c1].drop 0).take (Tryz.prog.cellsOf 3)) = [y0, y1][0]? := hg 0 _ rfl
   have g1 : DataW.trod enc Tryz.prog W base (fun _ => true) true n 3 (([c0, c1].drop 1).take (Tryz.prog.cellsOf 3)) = [y0, y1][1]? := hg 1 _ rfl
   rw [cellsInt1] at g0 g1
   have h0 : DataW.trod enc Tryz.prog W base (fun _ => true) true n 3 [c0] = some y0 := g0
   have h1 : DataW.trod enc Tryz.prog W base (fun _ => true) true n 3 [c1] = some y1 := g1
   obtain ⟨a, e0, _, ha⟩ := DataW.trod_int Tryz.underlying3 h0
   obtain ⟨b, e1, _, hb⟩ := DataW.trod_int Tryz.underlying3 h1
   simp at e0 e1
   subst e0 e1
   have ha := bounds_i64 ha
   have hb := bounds_i64 hb
   exact ⟨a, b, rfl, rfl, by omega, by omega⟩

set_option maxRecDepth 100000 in
theorem open_Timeds {H : Type} {enc : TypeId × Value → H} {W : World} {base : Nat} {r : Reach} {b0 : Nat} {v : Value} {d : DataW H} {p : List MemPlace}
 (hv : Value.okWide Tryz.prog W r b0 89 v) (h : DataW.Trod enc Tryz.prog W base (fun _ => true) true 89 v d p) : ∃ l, Tims W v l := by
 obtain ⟨a', len', cap', rfl⟩ := okWide_slice Tryz.underlying89 hv
 obtain ⟨fuel, hf⟩ := h
 rcases DataW.trod_slice Tryz.underlying89 hf with ⟨hcs, _⟩ | ⟨a, len, cap, elems, rest, n, _, hcs, _, hb, hl, hm, hlen, hel, _⟩
 ·simp [Value.cells] at hcs
  obtain ⟨rfl, rfl, rfl⟩ := hcs
  exact ⟨[], none, 0, rfl, Nat.le_refl _, Nat.zero_le _, fun h => absurd rfl h, fun x hx => by simp at hx⟩
 ·simp [Value.cells] at hcs
  obtain ⟨rfl, rfl, rfl⟩ := hcs
  have key : ∀ i, i < len' → ∃ e : Int × Int, ((W.cell? (a.add (i * 2)) = some (.int .i64 e.1) ∧ W.cell? ((a.add (i * 2)).add 1) = some (.int .i64 e.2)) ∧ (-9223372036854775808 ≤ e.1 ∧ e.1 ≤ 9223372036854775807) ∧ (-9223372036854775808 ≤ e.2 ∧ e.2 ≤ 9223372036854775807)) ∧ a.block < W.heap.size := fun i hi => by
   have hq := hel i hi
   rw [cellsTimed, List.getElem?_eq_getElem (l := elems) (i := i) (by omega), Option.bind_eq_some_iff] at hq
   obtain ⟨cs, hcs, ht⟩ := hq
   obtain ⟨_, hn, hc⟩ := World.cells?_some hcs
   match cs, hn with
   | [c0, c1], _ =>
     obtain ⟨x, y, e0, e1, b0, b1⟩ := open_TimedC ht
     have hbl0 := World.cells?_block hcs (show 0 < 2 by decide)
     have hbl : a.block < W.heap.size := by rw [add_block] at hbl0; exact hbl0
     refine ⟨(x, y), ⟨⟨?_, ?_⟩, b0, b1⟩, hbl⟩
     ·have h0 := hc 0 (by decide)
      rw [addr_zero] at h0
      rw [h0, ← e0]; rfl
     ·have h1 := hc 1 (by decide)
      rw [h1, ← e1]; rfl
  obtain ⟨l, hl', hp⟩ := list_of _ len' (fun i hi => key i hi)
  subst hl'
  refine ⟨l, some a, cap', rfl, hl, hm, fun hz => ⟨a, rfl, ?_, fun i e he => (hp i e he).1.1⟩, fun x hx => ?_⟩
  ·obtain ⟨e, he⟩ := key 0 (by omega)
   exact he.2
  ·obtain ⟨i, hi, rfl⟩ := List.getElem_of_mem hx
   exact (hp i _ (List.getElem?_eq_getElem hi)).1.2

theorem cellsGrouped : Tryz.prog.cellsOf 93 = 3 := by kernel_rfl
set_option maxRecDepth 100000 in
theorem open_Grouped {H : Type} {enc : TypeId × Value → H} {W : World} {base : Nat} {r : Reach} {b0 : Nat} {v : Value} {d : DataW H} {p : List MemPlace}
 (hv : Value.okWide Tryz.prog W r b0 93 v) (h : DataW.Trod enc Tryz.prog W base (fun _ => true) true 93 v d p) : ∃ (k cost : Int) (u : Value) (L : List (List Int)), v = .agg #[.int .i64 k, u, .int .i64 cost] ∧ IMat W u L ∧ -9223372036854775808 ≤ k ∧ k ≤ 9223372036854775807 := by
 obtain ⟨cs, rfl, hsz⟩ := okWide_struct Tryz.underlying93 hv
 obtain ⟨l⟩ := cs
 match l, hsz.trans cellsGrouped with
 | [c0, c1, c2], _ =>
   obtain ⟨fuel, hf⟩ := h
   obtain ⟨xs, n, _, _, _, hlen, hg⟩ := DataW.trod_struct Tryz.underlying93 hf
   match xs, hlen with
   | [y0, y1, y2], _ =>
     have g0 : DataW.trod enc Tryz.prog W base (fun _ => true) true n 3 (([c0, c1, c2].drop 0).take (Tryz.prog.cellsOf 3)) = [y0, y1, y2][0]? := hg 0 _ rfl
     have g1 : DataW.trod enc Tryz.prog W base (fun _ => true) true n 91 (([c0, c1, c2].drop 1).take (Tryz.prog.cellsOf 91)) = [y0, y1, y2][1]? := hg 1 _ rfl
     have g2 : DataW.trod enc Tryz.prog W base (fun _ => true) true n 3 (([c0, c1, c2].drop 2).take (Tryz.prog.cellsOf 3)) = [y0, y1, y2][2]? := hg 2 _ rfl
     rw [cellsInt1] at g0 g2
     rw [cellsSegments] at g1
     have h0 : DataW.trod enc Tryz.prog W base (fun _ => true) true n 3 [c0] = some y0 := g0
     have h1 : DataW.trod enc Tryz.prog W base (fun _ => true) true n 91 [c1] = some y1 := g1
     have h2 : DataW.trod enc Tryz.prog W base (fun _ => true) true n 3 [c2] = some y2 := g2
     obtain ⟨a, e0, _, ha⟩ := DataW.trod_int Tryz.underlying3 h0
     obtain ⟨b, e2, _, _⟩ := DataW.trod_int Tryz.underlying3 h2
     simp at e0 e2
     subst e0 e2
     obtain ⟨L, h3⟩ := open_IMatT Tryz.underlying91 h1
     have ha := bounds_i64 ha
     exact ⟨a, b, c1, L, rfl, h3, by omega, by omega⟩
end Go.Proofs.YtbdcjhoedhhabaaGreat

/- The closed facts of a row, one by one: together they are too dear for one check of the kernel. -/
namespace Go.Proofs.YtbdcjhoedhhabaaGreat

/-- The facts that cost little. -/
def cheapFacts (P : Program) (fn : Func) (s : ChangeSpec) (c : OpenClaim) : Bool :=
 c.wf (OpenSpec.ofChange s) &&
 fn.params.all (P.readableRec ·) && namedTie P c.named s.vars &&
 (c.stops == []) && (P.stops == []) && (c.knobs == []) && (P.stopKnobs == []) &&
 (c.maps == (fn.params.toList ++ s.plain.varTypes P).any (P.mapsRec ·)) && (c.ifaces == (fn.params.toList ++ s.plain.varTypes P).any (P.ifacesRec ·)) && (c.mapsOut == P.mapsAmong fn.resultTypes.toList) &&
 (c.loops == (fn.params.toList ++ s.plain.varTypes P).any (P.loopsFrom ·)) && (c.wideKeys == (fn.params.toList ++ s.plain.varTypes P ++ fn.resultTypes.toList).any (P.wideKeysFrom ·)) &&
 s.vars.all (P.varReadable ·) && fn.resultTypes.all (fun t => P.readableRec t && decide (t < P.types.size)) && (c.ifacesOut == fn.resultTypes.toList.any (P.ifacesRec ·)) && (c.loopsOut == fn.resultTypes.toList.any (P.loopsFrom ·)) && (c.plainKeys == P.plainKeys) && c.shortTexts.isNone && P.stopsHeard && P.mayEnter && (c.lifted == P.liftsFinal) && (P.make == some c.make) && (c.kinds == (if c.domain.isEmpty then [] else fn.params.toList.map fun t => match P.underlying t with | some (.int k) => some k | _ => none)) && (c.pinned == c.pinnedBy) &&
 (c.veiled == (fn.params.toList ++ s.plain.varTypes P ++ fn.resultTypes.toList).any (P.veiledRec ·)) && c.veiledFits P fn.params.toList (fn.params.toList ++ s.plain.varTypes P ++ fn.resultTypes.toList)

theorem joined_mk {P : Program} {f : FuncId} {fn : Func} {s : ChangeSpec} {c : OpenClaim} (h1 : laidOutB P = true) (h2 : mapsRowed P = true) (h3 : (c.inPlace == P.inPlace f) = true) (h4 : (c.unfollowed == P.unfollowed f) = true)
 (h5 : (c.recurses == P.recurses f) = true) (h6 : (c.named == P.varsNamed f) = true) (h : cheapFacts P fn s c = true) : joinedFacts P f fn s c = true := by
 unfold joinedFacts
 rw [h1, h2, h3, h4, h5, h6]
 simp only [Bool.and_true]
 exact h

theorem rowed : mapsRowed Tryz.prog = true := by kernel_rfl

end Go.Proofs.YtbdcjhoedhhabaaGreat

