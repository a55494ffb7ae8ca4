/- Contracts of the functions that the statements reach, part 32. -/
import Derived.Test.YtbdcjhoedhhabaaGreatRows
import Derived.JoinedOf
import Derived.KernelRfl
import Derived.Test.YtbdcjhoedhhabaaGreatD21
import Derived.Test.YtbdcjhoedhhabaaGreatD22
import Derived.Test.YtbdcjhoedhhabaaGreatD26
import Derived.Test.YtbdcjhoedhhabaaGreatD29
set_option linter.unusedSimpArgs false
set_option linter.unusedVariables false

/- Layer 8's law: raw lists of fractions; numbers. -/
namespace Go.Proofs.YtbdcjhoedhhabaaGreat
open Go.RowKit
attribute [local go_sem ↓] Go.wp_at_zero Go.wp_at_succ

def RF.q (e : RF) : Rat := rv e.n1 e.xs e.n2 e.ys
/-- The values of a list of raw fractions. -/
def qs (l : List RF) : Nat → Rat := fun i => match l[i]? with
 | some e => e.q
 | none => 0
/-- At most two words in each part. -/
def RF.few (e : RF) : Prop := e.xs.length ≤ 2 ∧ e.ys.length ≤ 2
theorem qs_get {l : List RF} {i : Nat} {e : RF} (h : l[i]? = some e) : qs l i = e.q := by unfold qs; rw [h]

section
variable {w w' : World} {X : Nat → Prop} {v : Value} {l : List RF} {k : Nat}
theorem RatAt.keep {a : Addr} {e : RF} (h : RatAt w X a e) (ha : a.block < w.heap.size) (hx : ¬ X a.block) (hk : Keep X w w') : RatAt w' X a e := by
 obtain ⟨C, c, D, d, h0, h1, h2, h3, h4⟩ := h
 exact ⟨C, c, D, d, cell_keep h0 ha hx hk, cell_keep h1 (by rw [addr_block]; exact ha) (by rw [addr_block]; exact hx) hk, cell_keep h2 (by rw [addr_block]; exact ha) (by rw [addr_block]; exact hx) hk, cell_keep h3 (by rw [addr_block]; exact ha) (by rw [addr_block]; exact hx) hk, h4.keep hk⟩
theorem Rats.keep (h : Rats w (fun _ => False) v l) (hk : Keep (fun _ => False) w w') : Rats w' (fun _ => False) v l := by
 obtain ⟨A, cap, hv, h1, h2, h3⟩ := h
 refine ⟨A, cap, hv, h1, h2, fun hn => ?_⟩
 obtain ⟨a, ha, hb, hc⟩ := h3 hn
 exact ⟨a, ha, Nat.lt_of_lt_of_le hb hk.size, fun i e he => (hc i e he).keep (by rw [addr_block]; exact hb) id hk⟩
theorem Rats.op (h : Rats w X v l) : ∃ (A : Option Addr) (cap : Nat), v = .slice A l.length cap ∧ Rats w X (.slice A l.length cap) l ∧ l.length ≤ cap ∧ cap ≤ maxLen := by
 have h0 := h
 obtain ⟨A, cap, rfl, h1, h2, -⟩ := h
 exact ⟨A, cap, rfl, h0, h1, h2⟩
theorem Rats.at {A : Option Addr} {n cap : Nat} (h : Rats w X (.slice A n cap) l) {i : Nat} {e : RF} (he : l[i]? = some e) : ∃ a : Addr, A = some a ∧ a.block < w.heap.size ∧ RatAt w X (a.add (i * 4)) e := by
 obtain ⟨A', cap', hv, h1, h2, h3⟩ := h
 injection hv with e1 e2 e3
 subst e1
 obtain ⟨a, ha, hb, hc⟩ := h3 (by have := (List.getElem?_eq_some_iff.1 he).1; omega)
 exact ⟨a, ha, hb, hc i e he⟩
/-- A list of short numbers is a list of numbers. -/
theorem Rats.nums (h : Rats w (fun _ => False) v l) (hf : ∀ (i : Nat) (e : RF), l[i]? = some e → e.few) : Nums 2 w (fun _ => False) v l.length (qs l) := by
 obtain ⟨A, cap, rfl, h1, h2, h3⟩ := h
 have key : ∀ i, i < l.length → ∃ r : R4, (∀ a, A = some a → w.cell? (a.add (i * 4)) = some (.bool r.b) ∧ w.cell? ((a.add (i * 4)).add 1) = some (.slice r.A r.m r.c) ∧ w.cell? ((a.add (i * 4)).add 2) = some (.bool r.b') ∧ w.cell? ((a.add (i * 4)).add 3) = some (.slice r.A' r.m' r.c')) ∧ RatL 2 w (fun _ => False) r.v (qs l i) := fun i hi => by
  have he := List.getElem?_eq_getElem hi
  obtain ⟨a, ha, hb, hc⟩ := h3 (by omega)
  obtain ⟨C, c, D, d, c0, c1, c2, c3, hr⟩ := hc i _ he
  have hw := hf i _ he
  refine ⟨⟨l[i].n1, C, l[i].xs.length, c, l[i].n2, D, l[i].ys.length, d⟩, fun a' ha' => ?_, ?_⟩
  ·rw [ha] at ha'; injection ha' with ha'; subst ha'
   exact ⟨c0, c1, c2, c3⟩
  ·exact ⟨l[i].n1, l[i].xs, l[i].n2, l[i].ys, hr, hw.1, hw.2, (qs_get he).symm⟩
 obtain ⟨rs, hl, hp⟩ := list_of _ l.length key
 refine ⟨rs, A, cap, hl, rfl, h1, h2, fun hn => ?_, fun i r hr => (hp i r hr).2⟩
 obtain ⟨a, ha, hb, -⟩ := h3 hn
 exact ⟨a, ha, hb, id, fun i r hr => (hp i r hr).1 a ha⟩
end
end Go.Proofs.YtbdcjhoedhhabaaGreat

/- Arguments opened: a list of lists of fractions (as in OpenS, which serves layer 8). -/
namespace Go.Proofs.YtbdcjhoedhhabaaGreat
open Go.ChangeShapes Go.WideShapes Go.ChangeAt Go.RowKit Go.Joins

/-- A list of lists of raw fractions. -/
def RMat (w : World) (v : Value) (L : List (List RF)) : Prop :=
 ∃ A cap, v = .slice A L.length cap ∧ L.length ≤ cap ∧ cap ≤ maxLen ∧ (L.length ≠ 0 → ∃ a, A = some a ∧ a.block < w.heap.size ∧ ∀ i l, L[i]? = some l → ∃ B c, w.cell? (a.add i) = some (.slice B l.length c) ∧ Rats w (fun _ => False) (.slice B l.length c) l)

section
variable {w w' : World} {v : Value} {L : List (List RF)}
theorem RMat.keep (h : RMat w v L) (hk : Keep (fun _ => False) w w') : RMat w' v L := by
 obtain ⟨A, cap, hv, h1, h2, h3⟩ := h
 refine ⟨A, cap, hv, h1, h2, fun hn => ?_⟩
 obtain ⟨a, ha, hb, hc⟩ := h3 hn
 refine ⟨a, ha, Nat.lt_of_lt_of_le hb hk.size, fun i l hl => ?_⟩
 obtain ⟨B, c, h4, h5⟩ := hc i l hl
 exact ⟨B, c, cell_keep h4 (by rw [addr_block]; exact hb) id hk, h5.keep hk⟩
theorem RMat.op (h : RMat w v L) : ∃ (A : Option Addr) (cap : Nat), v = .slice A L.length cap ∧ RMat w (.slice A L.length cap) L ∧ L.length ≤ cap ∧ cap ≤ maxLen := by
 have h0 := h
 obtain ⟨A, cap, rfl, h1, h2, -⟩ := h
 exact ⟨A, cap, rfl, h0, h1, h2⟩
theorem RMat.at {A : Option Addr} {n cap : Nat} (h : RMat w (.slice A n cap) L) {i : Nat} {l : List RF} (he : L[i]? = some l) : ∃ (a : Addr) (B : Option Addr) (c : Nat), A = some a ∧ a.block < w.heap.size ∧ w.cell? (a.add i) = some (.slice B l.length c) ∧ Rats w (fun _ => False) (.slice B l.length c) l ∧ l.length ≤ c ∧ c ≤ maxLen := by
 obtain ⟨A', cap', hv, h1, h2, h3⟩ := h
 injection hv with e1 e2 e3
 subst e1
 obtain ⟨a, ha, hb, hc⟩ := h3 (by have := (List.getElem?_eq_some_iff.1 he).1; omega)
 obtain ⟨B, c, h4, h5⟩ := hc i l he
 obtain ⟨A2, c2, h6, -, h7, h8⟩ := h5.op
 injection h6 with e1 e2 e3
 subst e1 e3
 exact ⟨a, B, c, ha, hb, h4, h5, h7, h8⟩
end

/- Arguments opened: lists of integers, channels, a refining. -/
theorem cellsInt1 : Tryz.prog.cellsOf 3 = 1 := by kernel_rfl
theorem cellsInts : Tryz.prog.cellsOf 27 = 1 := by kernel_rfl
theorem cellsIMat : Tryz.prog.cellsOf 82 = 1 := by kernel_rfl
theorem open_Ints {H : Type} {enc : TypeId × Value → H} {W : World} {base : Nat} {fuel : Nat} {v : Value} {x : DataW H × List MemPlace}
 (h : DataW.trod enc Tryz.prog W base (fun _ => true) true fuel 27 [v] = some x) : ∃ zs, IntsV W v zs := by
 rcases open_ints Tryz.underlying27 Tryz.underlying3 cellsInt1 h with ⟨hcs, _⟩ | ⟨a, len, cap, zs, hcs, _, hl, hm, hz, _, hcell, hwz⟩
 ·simp at hcs
  subst hcs
  exact ⟨[], none, 0, rfl, Nat.le_refl _, Nat.zero_le _, fun h => absurd rfl h, fun z hz => by simp at hz⟩
 ·simp at hcs
  subst hcs
  have hz' : zs.length = cap := by simpa using hz
  have hlen : (zs.take len).length = len := by simp; omega
  refine ⟨zs.take len, _, _, by rw [hlen], by rw [hlen]; exact hl, hm, fun hn => ⟨a, rfl, ?_, fun j u hu => ?_⟩, fun z hz => ?_⟩
  ·rw [hlen] at hn
   have h0 := hcell 0 (by omega)
   rw [addr_zero] at h0
   exact World.block_lt_of_cell? W a h0
  ·have hj : j < len := by have := (List.getElem?_eq_some_iff.1 hu).1; simp at this; omega
   have hjz : j < zs.length := by omega
   rw [hcell j hjz]
   rw [List.getElem?_take, if_pos hj, List.getElem?_eq_getElem hjz] at hu
   injection hu with hu
   rw [← hu]
   simp [hjz]
  ·have := bounds_i64 (hwz z (List.mem_of_mem_take hz))
   omega

set_option maxRecDepth 100000 in
theorem open_IMat {H : Type} {enc : TypeId × Value → H} {W : World} {base : Nat} {fuel : Nat} {v : Value} {x : DataW H × List MemPlace}
 (h : DataW.trod enc Tryz.prog W base (fun _ => true) true fuel 82 [v] = some x) : ∃ L, IMat W v L := by
 rcases DataW.trod_slice Tryz.underlying82 h with ⟨hcs, _⟩ | ⟨a, len, cap, elems, rest, n, _, hcs, _, hb, hl, hm, hlen, hel, _⟩
 ·simp at hcs
  subst hcs
  exact ⟨[], none, 0, rfl, Nat.le_refl _, Nat.zero_le _, fun h => absurd rfl h⟩
 ·simp at hcs
  subst hcs
  have key : ∀ i, i < len → ∃ l, (∃ B c, W.cell? (a.add i) = some (.slice B l.length c) ∧ IntsV W (.slice B l.length c) l) ∧ a.block < W.heap.size := fun i hi => by
   have hq := hel i hi
   rw [cellsInts, List.getElem?_eq_getElem (l := elems) (i := i) (by omega), Option.bind_eq_some_iff, Nat.mul_one] at hq
   obtain ⟨cs, hcs, ht⟩ := hq
   obtain ⟨_, hn, hc⟩ := World.cells?_some hcs
   match cs, hn with
   | [c0], _ =>
     obtain ⟨l, hr⟩ := open_Ints ht
     have hbl0 := World.cells?_block hcs (show 0 < 1 by decide)
     have hbl : a.block < W.heap.size := by rw [add_block] at hbl0; exact hbl0
     obtain ⟨B, c, e, hr2, -, -⟩ := hr.op
     have h0 := hc 0 (by decide)
     rw [addr_zero] at h0
     refine ⟨l, ⟨B, c, ?_, hr2⟩, hbl⟩
     rw [← e]; exact h0
  obtain ⟨L, hl', hp⟩ := list_of _ len (fun i hi => key i hi)
  subst hl'
  refine ⟨L, some a, cap, rfl, hl, hm, fun hz => ⟨a, rfl, ?_, fun i e he => (hp i e he).1⟩⟩
  obtain ⟨e, he⟩ := key 0 (by omega)
  exact he.2

/- Arguments opened: running times, losses, tables with a number of groups and a cost. -/

set_option maxRecDepth 100000 in
theorem open_IMatT {H : Type} {enc : TypeId × Value → H} {W : World} {base : Nat} {fuel : Nat} {v : Value} {x : DataW H × List MemPlace} {t : TypeId} (ht : Tryz.prog.underlying t = some (.slice 27))
 (h : DataW.trod enc Tryz.prog W base (fun _ => true) true fuel t [v] = some x) : ∃ L, IMat W v L := by
 rcases DataW.trod_slice ht h with ⟨hcs, _⟩ | ⟨a, len, cap, elems, rest, n, _, hcs, _, hb, hl, hm, hlen, hel, _⟩
 ·simp at hcs
  subst hcs
  exact ⟨[], none, 0, rfl, Nat.le_refl _, Nat.zero_le _, fun h => absurd rfl h⟩
 ·simp at hcs
  subst hcs
  have key : ∀ i, i < len → ∃ l, (∃ B c, W.cell? (a.add i) = some (.slice B l.length c) ∧ IntsV W (.slice B l.length c) l) ∧ a.block < W.heap.size := fun i hi => by
   have hq := hel i hi
   rw [cellsInts, List.getElem?_eq_getElem (l := elems) (i := i) (by omega), Option.bind_eq_some_iff, Nat.mul_one] at hq
   obtain ⟨cs, hcs, ht⟩ := hq
   obtain ⟨_, hn, hc⟩ := World.cells?_some hcs
   match cs, hn with
   | [c0], _ =>
     obtain ⟨l, hr⟩ := open_Ints ht
     have hbl0 := World.cells?_block hcs (show 0 < 1 by decide)
     have hbl : a.block < W.heap.size := by rw [add_block] at hbl0; exact hbl0
     obtain ⟨B, c, e, hr2, -, -⟩ := hr.op
     have h0 := hc 0 (by decide)
     rw [addr_zero] at h0
     refine ⟨l, ⟨B, c, ?_, hr2⟩, hbl⟩
     rw [← e]; exact h0
  obtain ⟨L, hl', hp⟩ := list_of _ len (fun i hi => key i hi)
  subst hl'
  refine ⟨L, some a, cap, rfl, hl, hm, fun hz => ⟨a, rfl, ?_, fun i e he => (hp i e he).1⟩⟩
  obtain ⟨e, he⟩ := key 0 (by omega)
  exact he.2

/- Arguments opened: menus, tables of hardness. -/

theorem cellsMenu : Tryz.prog.cellsOf 84 = 2 := by kernel_rfl

set_option maxRecDepth 100000 in
theorem open_Menu {H : Type} {enc : TypeId × Value → H} {W : World} {base : Nat} {r : Reach} {b0 : Nat} {v : Value} {d : DataW H} {p : List MemPlace}
 (hv : Value.okWide Tryz.prog W r b0 84 v) (h : DataW.Trod enc Tryz.prog W base (fun _ => true) true 84 v d p) : ∃ (ns : Int) (u : Value) (L : List (List Int)), v = .agg #[.int .i64 ns, u] ∧ IMat W u L := by
 obtain ⟨cs, rfl, hsz⟩ := okWide_struct Tryz.underlying84 hv
 obtain ⟨l⟩ := cs
 match l, hsz.trans cellsMenu with
 | [c0, c1], _ =>
   obtain ⟨fuel, hf⟩ := h
   obtain ⟨xs, n, _, _, _, hlen, hg⟩ := DataW.trod_struct Tryz.underlying84 hf
   match xs, hlen with
   | [y0, y1], _ =>
     have g0 : DataW.trod enc Tryz.prog W base (fun _ => true) true n 3 (([c0, c1].drop 0).take (Tryz.prog.cellsOf 3)) = [y0, y1][0]? := hg 0 _ rfl
     have g1 : DataW.trod enc Tryz.prog W base (fun _ => true) true n 82 (([c0, c1].drop 1).take (Tryz.prog.cellsOf 82)) = [y0, y1][1]? := hg 1 _ rfl
     rw [cellsInt1] at g0
     rw [cellsIMat] at g1
     have h0 : DataW.trod enc Tryz.prog W base (fun _ => true) true n 3 [c0] = some y0 := g0
     have h1 : DataW.trod enc Tryz.prog W base (fun _ => true) true n 82 [c1] = some y1 := g1
     obtain ⟨a, e0, _, _⟩ := DataW.trod_int Tryz.underlying3 h0
     simp at e0
     subst e0
     obtain ⟨L, h3⟩ := open_IMat h1
     exact ⟨a, c1, L, rfl, h3⟩

/- Arguments opened: gain functions, tables of bounds. -/

theorem cellsBellman : Tryz.prog.cellsOf 241 = 3 := by kernel_rfl
theorem cellsBellmans : Tryz.prog.cellsOf 101 = 1 := by kernel_rfl
theorem cellsBounded : Tryz.prog.cellsOf 103 = 3 := by kernel_rfl

set_option maxRecDepth 100000 in
theorem open_Gain {H : Type} {enc : TypeId × Value → H} {W : World} {base : Nat} {r : Reach} {b0 : Nat} {v : Value} {d : DataW H} {p : List MemPlace}
 (hv : Value.okWide Tryz.prog W r b0 100 v) (h : DataW.Trod enc Tryz.prog W base (fun _ => true) true 100 v d p) : ∃ L, IMat W v L := by
 obtain ⟨a, len, cap, rfl⟩ := okWide_slice Tryz.underlying100 hv
 obtain ⟨fuel, hf⟩ := h
 exact open_IMatT Tryz.underlying100 hf

set_option maxRecDepth 100000 in
theorem open_BellmanC {H : Type} {enc : TypeId × Value → H} {W : World} {base fuel : Nat} {c0 c1 c2 : Value} {x : DataW H × List MemPlace}
 (h : DataW.trod enc Tryz.prog W base (fun _ => true) true fuel 241 [c0, c1, c2] = some x) : ∃ a b c : Int, c0 = .int .i64 a ∧ c1 = .int .i64 b ∧ c2 = .int .i64 c ∧ (-9223372036854775808 ≤ a ∧ a ≤ 9223372036854775807) ∧ (-9223372036854775808 ≤ b ∧ b ≤ 9223372036854775807) ∧ (-9223372036854775808 ≤ c ∧ c ≤ 9223372036854775807) := by
 obtain ⟨xs, n, _, _, _, hlen, hg⟩ := DataW.trod_struct Tryz.underlying241 h
 match xs, hlen with
 | [y0, y1, y2], _ =>
   have g0 : DataW.trod enc Tryz.prog W base (fun _ => true) true n 3 (([c0, c1, c2].drop 0).take (Tryz.prog.cellsOf 3)) = [y0, y1, y2][0]? := hg 0 _ rfl
   have g1 : DataW.trod enc Tryz.prog W base (fun _ => true) true n 3 (([c0, c1, c2].drop 1).take (Tryz.prog.cellsOf 3)) = [y0, y1, y2][1]? := hg 1 _ rfl
   have g2 : DataW.trod enc Tryz.prog W base (fun _ => true) true n 3 (([c0, c1, c2].drop 2).take (Tryz.prog.cellsOf 3)) = [y0, y1, y2][2]? := hg 2 _ rfl
   rw [cellsInt1] at g0 g1 g2
   have h0 : DataW.trod enc Tryz.prog W base (fun _ => true) true n 3 [c0] = some y0 := g0
   have h1 : DataW.trod enc Tryz.prog W base (fun _ => true) true n 3 [c1] = some y1 := g1
   have h2 : DataW.trod enc Tryz.prog W base (fun _ => true) true n 3 [c2] = some y2 := g2
   obtain ⟨a, e0, _, ha⟩ := DataW.trod_int Tryz.underlying3 h0
   obtain ⟨b, e1, _, hb⟩ := DataW.trod_int Tryz.underlying3 h1
   obtain ⟨c, e2, _, hc⟩ := DataW.trod_int Tryz.underlying3 h2
   simp at e0 e1 e2
   subst e0 e1 e2
   have ha := bounds_i64 ha
   have hb := bounds_i64 hb
   have hc := bounds_i64 hc
   exact ⟨a, b, c, rfl, rfl, rfl, by omega, by omega, by omega⟩

set_option maxRecDepth 100000 in
theorem open_BelsT {H : Type} {enc : TypeId × Value → H} {W : World} {base fuel : Nat} {v : Value} {x : DataW H × List MemPlace}
 (h : DataW.trod enc Tryz.prog W base (fun _ => true) true fuel 101 [v] = some x) : ∃ l, Bels W v l := by
 rcases DataW.trod_slice Tryz.underlying101 h with ⟨hcs, _⟩ | ⟨a, len, cap, elems, rest, n, _, hcs, _, hb, hl, hm, hlen, hel, _⟩
 ·simp at hcs
  subst hcs
  exact ⟨[], none, 0, rfl, Nat.le_refl _, Nat.zero_le _, fun h => absurd rfl h, fun x hx => by simp at hx⟩
 ·simp at hcs
  subst hcs
  have key : ∀ i, i < len → ∃ e : Int × Int × Int, ((W.cell? (a.add (i * 3)) = some (.int .i64 e.1) ∧ W.cell? ((a.add (i * 3)).add 1) = some (.int .i64 e.2.1) ∧ W.cell? ((a.add (i * 3)).add 2) = some (.int .i64 e.2.2)) ∧ (-9223372036854775808 ≤ e.1 ∧ e.1 ≤ 9223372036854775807) ∧ (-9223372036854775808 ≤ e.2.1 ∧ e.2.1 ≤ 9223372036854775807) ∧ (-9223372036854775808 ≤ e.2.2 ∧ e.2.2 ≤ 9223372036854775807)) ∧ a.block < W.heap.size := fun i hi => by
   have hq := hel i hi
   rw [cellsBellman, List.getElem?_eq_getElem (l := elems) (i := i) (by omega), Option.bind_eq_some_iff] at hq
   obtain ⟨cs, hcs, ht⟩ := hq
   obtain ⟨_, hn, hc⟩ := World.cells?_some hcs
   match cs, hn with
   | [c0, c1, c2], _ =>
     obtain ⟨x, y, z, e0, e1, e2, b0, b1, b2⟩ := open_BellmanC ht
     have hbl0 := World.cells?_block hcs (show 0 < 3 by decide)
     have hbl : a.block < W.heap.size := by rw [add_block] at hbl0; exact hbl0
     refine ⟨(x, y, z), ⟨⟨?_, ?_, ?_⟩, b0, b1, b2⟩, hbl⟩
     ·have h0 := hc 0 (by decide)
      rw [addr_zero] at h0
      rw [h0, ← e0]; rfl
     ·have h1 := hc 1 (by decide)
      rw [h1, ← e1]; rfl
     ·have h2 := hc 2 (by decide)
      rw [h2, ← e2]; rfl
  obtain ⟨l, hl', hp⟩ := list_of _ len (fun i hi => key i hi)
  subst hl'
  refine ⟨l, some a, cap, rfl, hl, hm, fun hz => ⟨a, rfl, ?_, fun i e he => (hp i e he).1.1⟩, fun x hx => ?_⟩
  ·obtain ⟨e, he⟩ := key 0 (by omega)
   exact he.2
  ·obtain ⟨i, hi, rfl⟩ := List.getElem_of_mem hx
   exact (hp i _ (List.getElem?_eq_getElem hi)).1.2

set_option maxRecDepth 100000 in
theorem open_Bounded {H : Type} {enc : TypeId × Value → H} {W : World} {base : Nat} {r : Reach} {b0 : Nat} {v : Value} {d : DataW H} {p : List MemPlace}
 (hv : Value.okWide Tryz.prog W r b0 103 v) (h : DataW.Trod enc Tryz.prog W base (fun _ => true) true 103 v d p) : ∃ (left bound : Int) (u : Value) (l : List (Int × Int × Int)), v = .agg #[.int .i64 left, u, .int .i64 bound] ∧ Bels W u l := by
 obtain ⟨cs, rfl, hsz⟩ := okWide_struct Tryz.underlying103 hv
 obtain ⟨l⟩ := cs
 match l, hsz.trans cellsBounded with
 | [c0, c1, c2], _ =>
   obtain ⟨fuel, hf⟩ := h
   obtain ⟨xs, n, _, _, _, hlen, hg⟩ := DataW.trod_struct Tryz.underlying103 hf
   match xs, hlen with
   | [y0, y1, y2], _ =>
     have g0 : DataW.trod enc Tryz.prog W base (fun _ => true) true n 3 (([c0, c1, c2].drop 0).take (Tryz.prog.cellsOf 3)) = [y0, y1, y2][0]? := hg 0 _ rfl
     have g1 : DataW.trod enc Tryz.prog W base (fun _ => true) true n 101 (([c0, c1, c2].drop 1).take (Tryz.prog.cellsOf 101)) = [y0, y1, y2][1]? := hg 1 _ rfl
     have g2 : DataW.trod enc Tryz.prog W base (fun _ => true) true n 3 (([c0, c1, c2].drop 2).take (Tryz.prog.cellsOf 3)) = [y0, y1, y2][2]? := hg 2 _ rfl
     rw [cellsInt1] at g0 g2
     rw [cellsBellmans] at g1
     have h0 : DataW.trod enc Tryz.prog W base (fun _ => true) true n 3 [c0] = some y0 := g0
     have h1 : DataW.trod enc Tryz.prog W base (fun _ => true) true n 101 [c1] = some y1 := g1
     have h2 : DataW.trod enc Tryz.prog W base (fun _ => true) true n 3 [c2] = some y2 := g2
     obtain ⟨a, e0, _, _⟩ := DataW.trod_int Tryz.underlying3 h0
     obtain ⟨b, e2, _, _⟩ := DataW.trod_int Tryz.underlying3 h2
     simp at e0 e2
     subst e0 e2
     obtain ⟨L, h3⟩ := open_BelsT h1
     exact ⟨a, b, c1, L, rfl, h3⟩
end Go.Proofs.YtbdcjhoedhhabaaGreat

/- The closed facts of a row, one by one: together they are too dear for one check of the kernel. -/
namespace Go.Proofs.YtbdcjhoedhhabaaGreat

/-- The facts that cost little. -/
def cheapFacts (P : Program) (fn : Func) (s : ChangeSpec) (c : OpenClaim) : Bool :=
 c.wf (OpenSpec.ofChange s) &&
 fn.params.all (P.readableRec ·) && namedTie P c.named s.vars &&
 (c.stops == []) && (P.stops == []) && (c.knobs == []) && (P.stopKnobs == []) &&
 (c.maps == (fn.params.toList ++ s.plain.varTypes P).any (P.mapsRec ·)) && (c.ifaces == (fn.params.toList ++ s.plain.varTypes P).any (P.ifacesRec ·)) && (c.mapsOut == P.mapsAmong fn.resultTypes.toList) &&
 (c.loops == (fn.params.toList ++ s.plain.varTypes P).any (P.loopsFrom ·)) && (c.wideKeys == (fn.params.toList ++ s.plain.varTypes P ++ fn.resultTypes.toList).any (P.wideKeysFrom ·)) &&
 s.vars.all (P.varReadable ·) && fn.resultTypes.all (fun t => P.readableRec t && decide (t < P.types.size)) && (c.ifacesOut == fn.resultTypes.toList.any (P.ifacesRec ·)) && (c.loopsOut == fn.resultTypes.toList.any (P.loopsFrom ·)) && (c.plainKeys == P.plainKeys) && c.shortTexts.isNone && P.stopsHeard && P.mayEnter && (c.lifted == P.liftsFinal) && (P.make == some c.make) && (c.kinds == (if c.domain.isEmpty then [] else fn.params.toList.map fun t => match P.underlying t with | some (.int k) => some k | _ => none)) && (c.pinned == c.pinnedBy) &&
 (c.veiled == (fn.params.toList ++ s.plain.varTypes P ++ fn.resultTypes.toList).any (P.veiledRec ·)) && c.veiledFits P fn.params.toList (fn.params.toList ++ s.plain.varTypes P ++ fn.resultTypes.toList)

theorem joined_mk {P : Program} {f : FuncId} {fn : Func} {s : ChangeSpec} {c : OpenClaim} (h1 : laidOutB P = true) (h2 : mapsRowed P = true) (h3 : (c.inPlace == P.inPlace f) = true) (h4 : (c.unfollowed == P.unfollowed f) = true)
 (h5 : (c.recurses == P.recurses f) = true) (h6 : (c.named == P.varsNamed f) = true) (h : cheapFacts P fn s c = true) : joinedFacts P f fn s c = true := by
 unfold joinedFacts
 rw [h1, h2, h3, h4, h5, h6]
 simp only [Bool.and_true]
 exact h

theorem rowed : mapsRowed Tryz.prog = true := by kernel_rfl

end Go.Proofs.YtbdcjhoedhhabaaGreat

