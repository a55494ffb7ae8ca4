/- Contracts of the functions that the statements reach, part 36. -/
import Derived.Test.YtbdcjhoedhhabaaGreatRows
import Derived.Test.YtbdcjhoedhhabaaGreatE22
import Derived.Test.YtbdcjhoedhhabaaGreatE23
import Derived.Test.YtbdcjhoedhhabaaGreatE24
import Derived.Test.YtbdcjhoedhhabaaGreatE25
set_option linter.unusedSimpArgs false
set_option linter.unusedVariables false

/- Layer 8's law: raw lists of fractions; numbers. -/
namespace Go.Proofs.YtbdcjhoedhhabaaGreat
open Go.RowKit
attribute [local go_sem ↓] Go.wp_at_zero Go.wp_at_succ

def RF.q (e : RF) : Rat := rv e.n1 e.xs e.n2 e.ys
/-- The values of a list of raw fractions. -/
def qs (l : List RF) : Nat → Rat := fun i => match l[i]? with
 | some e => e.q
 | none => 0
/-- At most two words in each part. -/
def RF.few (e : RF) : Prop := e.xs.length ≤ 2 ∧ e.ys.length ≤ 2
theorem qs_get {l : List RF} {i : Nat} {e : RF} (h : l[i]? = some e) : qs l i = e.q := by unfold qs; rw [h]

section
variable {w w' : World} {X : Nat → Prop} {v : Value} {l : List RF} {k : Nat}
theorem RatAt.keep {a : Addr} {e : RF} (h : RatAt w X a e) (ha : a.block < w.heap.size) (hx : ¬ X a.block) (hk : Keep X w w') : RatAt w' X a e := by
 obtain ⟨C, c, D, d, h0, h1, h2, h3, h4⟩ := h
 exact ⟨C, c, D, d, cell_keep h0 ha hx hk, cell_keep h1 (by rw [addr_block]; exact ha) (by rw [addr_block]; exact hx) hk, cell_keep h2 (by rw [addr_block]; exact ha) (by rw [addr_block]; exact hx) hk, cell_keep h3 (by rw [addr_block]; exact ha) (by rw [addr_block]; exact hx) hk, h4.keep hk⟩
theorem Rats.keep (h : Rats w (fun _ => False) v l) (hk : Keep (fun _ => False) w w') : Rats w' (fun _ => False) v l := by
 obtain ⟨A, cap, hv, h1, h2, h3⟩ := h
 refine ⟨A, cap, hv, h1, h2, fun hn => ?_⟩
 obtain ⟨a, ha, hb, hc⟩ := h3 hn
 exact ⟨a, ha, Nat.lt_of_lt_of_le hb hk.size, fun i e he => (hc i e he).keep (by rw [addr_block]; exact hb) id hk⟩
theorem Rats.op (h : Rats w X v l) : ∃ (A : Option Addr) (cap : Nat), v = .slice A l.length cap ∧ Rats w X (.slice A l.length cap) l ∧ l.length ≤ cap ∧ cap ≤ maxLen := by
 have h0 := h
 obtain ⟨A, cap, rfl, h1, h2, -⟩ := h
 exact ⟨A, cap, rfl, h0, h1, h2⟩
theorem Rats.at {A : Option Addr} {n cap : Nat} (h : Rats w X (.slice A n cap) l) {i : Nat} {e : RF} (he : l[i]? = some e) : ∃ a : Addr, A = some a ∧ a.block < w.heap.size ∧ RatAt w X (a.add (i * 4)) e := by
 obtain ⟨A', cap', hv, h1, h2, h3⟩ := h
 injection hv with e1 e2 e3
 subst e1
 obtain ⟨a, ha, hb, hc⟩ := h3 (by have := (List.getElem?_eq_some_iff.1 he).1; omega)
 exact ⟨a, ha, hb, hc i e he⟩
/-- A list of short numbers is a list of numbers. -/
theorem Rats.nums (h : Rats w (fun _ => False) v l) (hf : ∀ (i : Nat) (e : RF), l[i]? = some e → e.few) : Nums 2 w (fun _ => False) v l.length (qs l) := by
 obtain ⟨A, cap, rfl, h1, h2, h3⟩ := h
 have key : ∀ i, i < l.length → ∃ r : R4, (∀ a, A = some a → w.cell? (a.add (i * 4)) = some (.bool r.b) ∧ w.cell? ((a.add (i * 4)).add 1) = some (.slice r.A r.m r.c) ∧ w.cell? ((a.add (i * 4)).add 2) = some (.bool r.b') ∧ w.cell? ((a.add (i * 4)).add 3) = some (.slice r.A' r.m' r.c')) ∧ RatL 2 w (fun _ => False) r.v (qs l i) := fun i hi => by
  have he := List.getElem?_eq_getElem hi
  obtain ⟨a, ha, hb, hc⟩ := h3 (by omega)
  obtain ⟨C, c, D, d, c0, c1, c2, c3, hr⟩ := hc i _ he
  have hw := hf i _ he
  refine ⟨⟨l[i].n1, C, l[i].xs.length, c, l[i].n2, D, l[i].ys.length, d⟩, fun a' ha' => ?_, ?_⟩
  ·rw [ha] at ha'; injection ha' with ha'; subst ha'
   exact ⟨c0, c1, c2, c3⟩
  ·exact ⟨l[i].n1, l[i].xs, l[i].n2, l[i].ys, hr, hw.1, hw.2, (qs_get he).symm⟩
 obtain ⟨rs, hl, hp⟩ := list_of _ l.length key
 refine ⟨rs, A, cap, hl, rfl, h1, h2, fun hn => ?_, fun i r hr => (hp i r hr).2⟩
 obtain ⟨a, ha, hb, -⟩ := h3 hn
 exact ⟨a, ha, hb, id, fun i r hr => (hp i r hr).1 a ha⟩
end
end Go.Proofs.YtbdcjhoedhhabaaGreat

/- Arguments opened: a list of lists of fractions (as in OpenS, which serves layer 8). -/
namespace Go.Proofs.YtbdcjhoedhhabaaGreat
open Go.ChangeShapes Go.WideShapes Go.ChangeAt Go.RowKit Go.Joins

/-- A list of lists of raw fractions. -/
def RMat (w : World) (v : Value) (L : List (List RF)) : Prop :=
 ∃ A cap, v = .slice A L.length cap ∧ L.length ≤ cap ∧ cap ≤ maxLen ∧ (L.length ≠ 0 → ∃ a, A = some a ∧ a.block < w.heap.size ∧ ∀ i l, L[i]? = some l → ∃ B c, w.cell? (a.add i) = some (.slice B l.length c) ∧ Rats w (fun _ => False) (.slice B l.length c) l)

section
variable {w w' : World} {v : Value} {L : List (List RF)}
theorem RMat.keep (h : RMat w v L) (hk : Keep (fun _ => False) w w') : RMat w' v L := by
 obtain ⟨A, cap, hv, h1, h2, h3⟩ := h
 refine ⟨A, cap, hv, h1, h2, fun hn => ?_⟩
 obtain ⟨a, ha, hb, hc⟩ := h3 hn
 refine ⟨a, ha, Nat.lt_of_lt_of_le hb hk.size, fun i l hl => ?_⟩
 obtain ⟨B, c, h4, h5⟩ := hc i l hl
 exact ⟨B, c, cell_keep h4 (by rw [addr_block]; exact hb) id hk, h5.keep hk⟩
theorem RMat.op (h : RMat w v L) : ∃ (A : Option Addr) (cap : Nat), v = .slice A L.length cap ∧ RMat w (.slice A L.length cap) L ∧ L.length ≤ cap ∧ cap ≤ maxLen := by
 have h0 := h
 obtain ⟨A, cap, rfl, h1, h2, -⟩ := h
 exact ⟨A, cap, rfl, h0, h1, h2⟩
theorem RMat.at {A : Option Addr} {n cap : Nat} (h : RMat w (.slice A n cap) L) {i : Nat} {l : List RF} (he : L[i]? = some l) : ∃ (a : Addr) (B : Option Addr) (c : Nat), A = some a ∧ a.block < w.heap.size ∧ w.cell? (a.add i) = some (.slice B l.length c) ∧ Rats w (fun _ => False) (.slice B l.length c) l ∧ l.length ≤ c ∧ c ≤ maxLen := by
 obtain ⟨A', cap', hv, h1, h2, h3⟩ := h
 injection hv with e1 e2 e3
 subst e1
 obtain ⟨a, ha, hb, hc⟩ := h3 (by have := (List.getElem?_eq_some_iff.1 he).1; omega)
 obtain ⟨B, c, h4, h5⟩ := hc i l he
 obtain ⟨A2, c2, h6, -, h7, h8⟩ := h5.op
 injection h6 with e1 e2 e3
 subst e1 e3
 exact ⟨a, B, c, ha, hb, h4, h5, h7, h8⟩
end

/- Arguments opened: lists of integers, channels, a refining. -/
theorem cellsInt1 : Tryz.prog.cellsOf 3 = 1 := by kernel_rfl
theorem cellsInts : Tryz.prog.cellsOf 27 = 1 := by kernel_rfl
theorem open_Ints {H : Type} {enc : TypeId × Value → H} {W : World} {base : Nat} {fuel : Nat} {v : Value} {x : DataW H × List MemPlace}
 (h : DataW.trod enc Tryz.prog W base (fun _ => true) true fuel 27 [v] = some x) : ∃ zs, IntsV W v zs := by
 rcases open_ints Tryz.underlying27 Tryz.underlying3 cellsInt1 h with ⟨hcs, _⟩ | ⟨a, len, cap, zs, hcs, _, hl, hm, hz, _, hcell, hwz⟩
 ·simp at hcs
  subst hcs
  exact ⟨[], none, 0, rfl, Nat.le_refl _, Nat.zero_le _, fun h => absurd rfl h, fun z hz => by simp at hz⟩
 ·simp at hcs
  subst hcs
  have hz' : zs.length = cap := by simpa using hz
  have hlen : (zs.take len).length = len := by simp; omega
  refine ⟨zs.take len, _, _, by rw [hlen], by rw [hlen]; exact hl, hm, fun hn => ⟨a, rfl, ?_, fun j u hu => ?_⟩, fun z hz => ?_⟩
  ·rw [hlen] at hn
   have h0 := hcell 0 (by omega)
   rw [addr_zero] at h0
   exact World.block_lt_of_cell? W a h0
  ·have hj : j < len := by have := (List.getElem?_eq_some_iff.1 hu).1; simp at this; omega
   have hjz : j < zs.length := by omega
   rw [hcell j hjz]
   rw [List.getElem?_take, if_pos hj, List.getElem?_eq_getElem hjz] at hu
   injection hu with hu
   rw [← hu]
   simp [hjz]
  ·have := bounds_i64 (hwz z (List.mem_of_mem_take hz))
   omega

/- Arguments opened: running times, losses, tables with a number of groups and a cost. -/

/- Arguments opened: menus, tables of hardness. -/

end Go.Proofs.YtbdcjhoedhhabaaGreat

/- Gain functions: checker.gain, strategy.earns. Printed by gen_bm1.py. -/
namespace Go.Proofs.YtbdcjhoedhhabaaGreat
open Go.RowKit
attribute [local go_sem ↓] Go.wp_at_zero Go.wp_at_succ


/-- A row of a gain function. -/
def GRow (ns : Int) (r : List Int) : Prop := (r.length : Int) = ns ∧ ∀ x ∈ r, 0 ≤ x ∧ x ≤ 1024
/-- A gain function. -/
def GainOk (ns : Int) (G : List (List Int)) : Prop := (1 ≤ G.length ∧ G.length ≤ 64) ∧ ∀ r ∈ G, GRow ns r

end Go.Proofs.YtbdcjhoedhhabaaGreat

/- partition.Sizes and Count of one class; strategy.Worth without knowledge; adaptive.asked. -/
namespace Go.Proofs.YtbdcjhoedhhabaaGreat
open Go.RowKit
attribute [local go_sem ↓] Go.wp_at_zero Go.wp_at_succ
attribute [local go_sem] run_max2

theorem Own1.rowG {w : World} {base g m cap : Nat} {zs : List Int} (h : Own1 w base 3 (.slice (some ⟨g, 0, none⟩) m cap) (zs.map (Value.int .i64))) (hne : zs ≠ []) : m = zs.length ∧ base ≤ g ∧ RowG w g cap zs := by
 have hm9 := h.2
 rcases h.op with ⟨-, h9⟩ | ⟨g', cap', cur, e, h3, h4, h5, h6⟩
 ·exact absurd (by simpa using h9) hne
 ·injection e with e1 e2 e3
  injection e1 with e1
  injection e1 with e1
  subst e1 e3
  rw [List.length_map] at e2 h4
  refine ⟨e2, h3, h4, ?_, cur, h5, fun i z hz => h6 i _ (by rw [List.getElem?_map, hz]; rfl)⟩
  rcases hm9 with ⟨h', _⟩ | ⟨g', cap', cur', h', _, _, _, h2, _, _⟩
  ·cases h'
  ·injection h' with q1 q2 q3
   rw [q3]; exact h2

/- strategy.Worth without knowledge; adaptive.asked. -/

theorem RowI.one {w : World} {g : Nat} {z y : Int} (h : RowI w g [z]) : RowI (w.setCell ⟨g, 0, none⟩ (.int .i64 y)) g [y] := RowI.set h 0 y
theorem RowI.other {w : World} {g g' : Nat} {zs : List Int} (h : RowI w g zs) (hne : g ≠ g') (i : Nat) (u : Value) : RowI (w.setCell ⟨g', i, none⟩ u) g zs := Loc.far h (p := ⟨g', i, none⟩) hne u

/- adaptive.asked, the two leaf functions. Printed by gen_bm4.py. -/

/-- What an action gains over the first members of a set. -/
def rowG (r : List Int) (S : Nat) : Nat → Int
 | 0 => 0
 | c + 1 => rowG r S c + (if S.testBit c then (r[c]?).getD 0 else 0)
/-- The greatest gain of the first actions. -/
def leafG (G : List (List Int)) (S : Nat) : Nat → Int
 | 0 => 0
 | c + 1 => max (leafG G S c) (rowG ((G[c]?).getD []) S ((G[c]?).getD []).length)
end Go.Proofs.YtbdcjhoedhhabaaGreat

/- cmp.Compare, cmp.Or, adaptive.order. -/
namespace Go.Proofs.YtbdcjhoedhhabaaGreat
open Go.RowKit
attribute [local go_sem ↓] Go.wp_at_zero Go.wp_at_succ

/- strategy.Joint, adaptive.allJoint. -/

/-- The answer to a question. -/
def col (L : List (List Int)) (q : Int) (i : Nat) : Option Int := ((L[q.toNat]?).getD [])[i]?
/-- A partition by the answers to questions. -/
def JRes (n : Nat) (L : List (List Int)) (asks J : List Int) : Prop := J.length = n ∧ (∀ (i j : Nat) (x y : Int), J[i]? = some x → J[j]? = some y → (x = y ↔ ∀ q ∈ asks, col L q i = col L q j)) ∧ ∀ x ∈ J, 0 ≤ x ∧ x < (n : Int)

theorem mul_uniq {a b v u n : Int} (hv : 0 ≤ v ∧ v < n) (hu : 0 ≤ u ∧ u < n) (h : a * n + v = b * n + u) : a = b ∧ v = u := by
 have hn : n ≠ 0 := by omega
 have e1 : (a * n + v) / n = a := by rw [Int.add_comm, Int.add_mul_ediv_right _ _ hn, Int.ediv_eq_zero_of_lt hv.1 hv.2, Int.zero_add]
 have e2 : (b * n + u) / n = b := by rw [Int.add_comm, Int.add_mul_ediv_right _ _ hn, Int.ediv_eq_zero_of_lt hu.1 hu.2, Int.zero_add]
 have e : a = b := by rw [← e1, ← e2, h]
 subst e
 exact ⟨rfl, by omega⟩

theorem JRes.start {n : Nat} (hn : 1 ≤ n) (L : List (List Int)) : JRes n L [] (List.replicate n 0) := by
 refine ⟨by simp, fun i j x y hx hy => ?_, fun x hx => ?_⟩
 ·have h1 := List.eq_of_mem_replicate (List.mem_of_getElem? hx)
  have h2 := List.eq_of_mem_replicate (List.mem_of_getElem? hy)
  subst h1 h2
  simp
 ·have := List.eq_of_mem_replicate hx
  omega

theorem JRes.step {n : Nat} {L : List (List Int)} {asks xs ys xs' V : List Int} {q : Int} (h : JRes n L asks xs) (hV : (L[q.toNat]?).getD [] = V) (hVl : V.length = n) (hVc : ∀ (i : Nat) (v : Int), V[i]? = some v → 0 ≤ v ∧ v < (n : Int))
 (hyl : ys.length = n) (hy : ∀ (i : Nat) (x v : Int), i < n → xs[i]? = some x → V[i]? = some v → ys[i]? = some (x * n + v)) (hO : OfRes ys xs') : JRes n L (asks ++ [q]) xs' := by
 refine ⟨by rw [hO.1, hyl], fun i j a b ha hb => ?_, fun x hx => by have := hO.2.2 x hx; rw [hyl] at this; exact this⟩
 have hi : i < n := by have := (List.getElem?_eq_some_iff.1 ha).1; rw [hO.1, hyl] at this; exact this
 have hj : j < n := by have := (List.getElem?_eq_some_iff.1 hb).1; rw [hO.1, hyl] at this; exact this
 have hxi := List.getElem?_eq_getElem (l := xs) (i := i) (by rw [h.1]; exact hi)
 have hxj := List.getElem?_eq_getElem (l := xs) (i := j) (by rw [h.1]; exact hj)
 have hvi := List.getElem?_eq_getElem (l := V) (i := i) (by rw [hVl]; exact hi)
 have hvj := List.getElem?_eq_getElem (l := V) (i := j) (by rw [hVl]; exact hj)
 have h1 := hO.2.1 i j _ _ a b (hy i _ _ hi hxi hvi) (hy j _ _ hj hxj hvj) ha hb
 have h2 := h.2.1 i j _ _ hxi hxj
 rw [h1]
 have hci : col L q i = some V[i] := by unfold col; rw [hV]; exact hvi
 have hcj : col L q j = some V[j] := by unfold col; rw [hV]; exact hvj
 constructor
 ·intro e q' hq'
  obtain ⟨e1, e2⟩ := mul_uniq (hVc i _ hvi) (hVc j _ hvj) e
  rcases List.mem_append.1 hq' with hq' | hq'
  ·exact h2.1 e1 q' hq'
  ·obtain rfl : q' = q := by simpa using hq'
   rw [hci, hcj, e2]
 ·intro hall
  have e1 := h2.2 (fun q' hq' => hall q' (List.mem_append_left _ hq'))
  have e2 := hall q (by simp)
  rw [hci, hcj] at e2
  injection e2 with e2
  rw [e1, e2]

/- adaptive.everything, adaptive.allJoint; the code of a proof of hardness. -/

/-- The depths that the first entries of a table tell. -/
noncomputable def knF (l : List (Int × Int)) : Nat → Lit → Option Int
 | 0 => fun _ => none
 | k + 1 => match l[k]? with
   | some x => putL (knF l k) (.int .i64 x.1) x.2
   | none => knF l k
/-- Sets in ascending order, as far as c. -/
def AscTo (l : List (Int × Int)) (c : Nat) : Prop := ∀ (i : Nat) (x y : Int × Int), i + 1 < c → l[i]? = some x → l[i + 1]? = some y → x.1 < y.1
/-- An entry is right. -/
def GoodE (n : Int) (L : List (List Int)) (f : Lit → Option Int) (x : Int × Int) : Prop := (1 ≤ x.1 ∧ x.1 ≤ ((2 ^ n.toNat - 1 : Nat) : Int)) ∧ (0 < x.2 → HardP L x.1.toNat x.2 f)
/-- The depth is reached. -/
def TopE (n : Int) (f : Lit → Option Int) (depth : Int) : Prop := 0 < depth → ∃ d, f (.int .i64 ((2 ^ n.toNat - 1 : Nat) : Int)) = some d ∧ depth ≤ d
/-- The code of a proof of hardness. -/
structure HdCode (n : Int) (L : List (List Int)) (l : List (Int × Int)) (depth r : Int) : Prop where
 a : ¬ MenuOk n L → r = 1
 b : MenuOk n L → 4096 < l.length → r = 4
 c : MenuOk n L → ¬ 4096 < l.length → ¬ AscTo l l.length → r = 10
 d : MenuOk n L → ¬ 4096 < l.length → AscTo l l.length → ¬ ((∀ x ∈ l, GoodE n L (knF l l.length) x) ∧ TopE n (knF l l.length) depth) → r = 13
 e : MenuOk n L → ¬ 4096 < l.length → AscTo l l.length → ((∀ x ∈ l, GoodE n L (knF l l.length) x) ∧ TopE n (knF l l.length) depth) → r = 0
theorem HdCode.eq {n : Int} {L : List (List Int)} {l : List (Int × Int)} {depth r r' : Int} (h : HdCode n L l depth r) (h' : HdCode n L l depth r') : r = r' := by
 by_cases h1 : MenuOk n L
 ·by_cases h2 : 4096 < l.length
  ·rw [h.b h1 h2, h'.b h1 h2]
  ·by_cases h3 : AscTo l l.length
   ·by_cases h4 : ((∀ x ∈ l, GoodE n L (knF l l.length) x) ∧ TopE n (knF l l.length) depth)
    ·rw [h.e h1 h2 h3 h4, h'.e h1 h2 h3 h4]
    ·rw [h.d h1 h2 h3 h4, h'.d h1 h2 h3 h4]
   ·rw [h.c h1 h2 h3, h'.c h1 h2 h3]
 ·rw [h.a h1, h'.a h1]
theorem HdCode.one {n : Int} {L : List (List Int)} {l : List (Int × Int)} {depth : Int} (h : ¬ MenuOk n L) : HdCode n L l depth 1 := ⟨fun _ => rfl, fun h' => absurd h' h, fun h' => absurd h' h, fun h' => absurd h' h, fun h' => absurd h' h⟩
theorem HdCode.four {n : Int} {L : List (List Int)} {l : List (Int × Int)} {depth : Int} (h : MenuOk n L) (h2 : 4096 < l.length) : HdCode n L l depth 4 := ⟨fun h' => absurd h h', fun _ _ => rfl, fun _ h' => absurd h2 h', fun _ h' => absurd h2 h', fun _ h' => absurd h2 h'⟩
theorem HdCode.bad {n : Int} {L : List (List Int)} {l : List (Int × Int)} {depth : Int} (h : MenuOk n L) (h2 : ¬ 4096 < l.length) (h3 : AscTo l l.length) (h4 : ¬ ((∀ x ∈ l, GoodE n L (knF l l.length) x) ∧ TopE n (knF l l.length) depth)) : HdCode n L l depth 13 := ⟨fun h' => absurd h h', fun _ h' => absurd h' h2, fun _ _ h' => absurd h3 h', fun _ _ _ _ => rfl, fun _ _ _ h' => absurd h' h4⟩
theorem HdCode.ok {n : Int} {L : List (List Int)} {l : List (Int × Int)} {depth : Int} (h : MenuOk n L) (h2 : ¬ 4096 < l.length) (h3 : AscTo l l.length) (h4 : (∀ x ∈ l, GoodE n L (knF l l.length) x) ∧ TopE n (knF l l.length) depth) : HdCode n L l depth 0 := ⟨fun h' => absurd h h', fun _ h' => absurd h' h2, fun _ _ h' => absurd h3 h', fun _ _ _ h' => absurd h4 h', fun _ _ _ _ => rfl⟩
end Go.Proofs.YtbdcjhoedhhabaaGreat

/- Lists of bounds in memory; what a table of bounds has to say. -/
namespace Go.Proofs.YtbdcjhoedhhabaaGreat
open Go.RowKit

/-- A list of triples of integers (set, questions that are left, value) that is read. -/
def Bels (w : World) (v : Value) (l : List (Int × Int × Int)) : Prop :=
 ∃ A cap, v = .slice A l.length cap ∧ l.length ≤ cap ∧ cap ≤ maxLen ∧ (l.length ≠ 0 → ∃ a, A = some a ∧ a.block < w.heap.size ∧ ∀ (i : Nat) (x : Int × Int × Int), l[i]? = some x → w.cell? (a.add (i * 3)) = some (.int .i64 x.1) ∧ w.cell? ((a.add (i * 3)).add 1) = some (.int .i64 x.2.1) ∧ w.cell? ((a.add (i * 3)).add 2) = some (.int .i64 x.2.2)) ∧ ∀ x ∈ l, (-9223372036854775808 ≤ x.1 ∧ x.1 ≤ 9223372036854775807) ∧ (-9223372036854775808 ≤ x.2.1 ∧ x.2.1 ≤ 9223372036854775807) ∧ (-9223372036854775808 ≤ x.2.2 ∧ x.2.2 ≤ 9223372036854775807)

theorem Bels.keep {w w' : World} {v : Value} {l : List (Int × Int × Int)} (h : Bels w v l) (hk : Keep (fun _ => False) w w') : Bels w' v l := by
 obtain ⟨A, cap, hv, h1, h2, h3, h4⟩ := h
 refine ⟨A, cap, hv, h1, h2, fun hn => ?_, h4⟩
 obtain ⟨a, ha, hb, hc⟩ := h3 hn
 exact ⟨a, ha, Nat.lt_of_lt_of_le hb hk.size, fun i z hz => ⟨cell_keep (hc i z hz).1 (by rw [add_block]; exact hb) id hk, cell_keep (hc i z hz).2.1 (by rw [add_block, add_block]; exact hb) id hk, cell_keep (hc i z hz).2.2 (by rw [add_block, add_block]; exact hb) id hk⟩⟩
theorem Bels.op {w : World} {v : Value} {l : List (Int × Int × Int)} (h : Bels w v l) : ∃ (A : Option Addr) (cap : Nat), v = .slice A l.length cap ∧ Bels w (.slice A l.length cap) l ∧ l.length ≤ cap ∧ cap ≤ maxLen := by
 have h0 := h
 obtain ⟨A, cap, rfl, h1, h2, -⟩ := h
 exact ⟨A, cap, rfl, h0, h1, h2⟩
theorem Bels.at {w : World} {l : List (Int × Int × Int)} {A : Option Addr} {n cap : Nat} (h : Bels w (.slice A n cap) l) {i : Nat} {z : Int × Int × Int} (hz : l[i]? = some z) : ∃ a : Addr, A = some a ∧ a.block < w.heap.size ∧ w.cell? (a.add (i * 3)) = some (.int .i64 z.1) ∧ w.cell? ((a.add (i * 3)).add 1) = some (.int .i64 z.2.1) ∧ w.cell? ((a.add (i * 3)).add 2) = some (.int .i64 z.2.2) ∧ (-9223372036854775808 ≤ z.1 ∧ z.1 ≤ 9223372036854775807) ∧ (-9223372036854775808 ≤ z.2.1 ∧ z.2.1 ≤ 9223372036854775807) ∧ (-9223372036854775808 ≤ z.2.2 ∧ z.2.2 ≤ 9223372036854775807) := by
 obtain ⟨A', cap', hv, h1, h2, h3, h4⟩ := h
 injection hv with e1 e2 e3
 subst e1
 obtain ⟨a, ha, hb, hc⟩ := h3 (by have := (List.getElem?_eq_some_iff.1 hz).1; omega)
 have h9 := h4 z (List.mem_of_getElem? hz)
 exact ⟨a, ha, hb, (hc i z hz).1, (hc i z hz).2.1, (hc i z hz).2.2, h9.1, h9.2.1, h9.2.2⟩

/-- The parts of a set by a view, without the empty ones. -/
def nzp (S : Nat) (v : List Int) : List Int := nzs (parts v S v.length v.length)
/-- The sum of the values of parts. -/
def sumB (f : Lit → Option Int) (k : Int) : List Int → Int
 | [] => 0
 | y :: l => (f (keyL y k)).getD 0 + sumB f k l
/-- The values of the parts are known and not greater together than a bound. -/
def BndV (f : Lit → Option Int) (k b : Int) (zs : List Int) : Prop := (∀ y ∈ zs, ∃ d, f (keyL y k) = some d) ∧ sumB f k zs ≤ b
/-- So it is for each question. -/
def BndP (L : List (List Int)) (S : Nat) (k b : Int) (f : Lit → Option Int) : Prop := ∀ v ∈ L, BndV f (k - 1) b (nzp S v)

/-- The values that the first entries of a table tell. -/
noncomputable def bvF (l : List (Int × Int × Int)) : Nat → Lit → Option Int
 | 0 => fun _ => none
 | k + 1 => match l[k]? with
   | some x => putL (bvF l k) (keyL x.1 x.2.1) x.2.2
   | none => bvF l k
/-- Two entries stand in order. -/
def OrdB (x y : Int × Int × Int) : Prop := y.2.1 < x.2.1 ∨ (y.2.1 = x.2.1 ∧ x.1 < y.1)
/-- Entries stand in order, as far as c. -/
def DscTo (l : List (Int × Int × Int)) (c : Nat) : Prop := ∀ (i : Nat) (x y : Int × Int × Int), i + 1 < c → l[i]? = some x → l[i + 1]? = some y → OrdB x y
theorem DscTo.all {l : List (Int × Int × Int)} {c n : Nat} (h : DscTo l c) (hc : n ≤ c) : DscTo l n := fun i x y hi hx hy => h i x y (by omega) hx hy
theorem DscTo.next {l : List (Int × Int × Int)} {c : Nat} {x y : Int × Int × Int} (h : DscTo l c) (hc : 1 ≤ c) (hx : l[c - 1]? = some x) (hy : l[c]? = some y) (hlt : OrdB x y) : DscTo l (c + 1) := fun i x' y' hi hx' hy' => by
 by_cases e : i + 1 < c
 ·exact h i x' y' e hx' hy'
 ·obtain rfl : i = c - 1 := by omega
  have e1 : c - 1 + 1 = c := by omega
  rw [e1] at hy'
  rw [hx] at hx'
  rw [hy] at hy'
  injection hx' with hx'
  injection hy' with hy'
  subst hx' hy'
  exact hlt

/-- What is asked may be asked. -/
def AskOk (ns : Int) (L G : List (List Int)) (k : Int) : Prop := MenuOk ns L ∧ GainOk ns G ∧ 0 ≤ k ∧ k ≤ 8
/-- An entry is right by itself. -/
def GoodB (ns : Int) (G : List (List Int)) (x : Int × Int × Int) : Prop := 0 ≤ x.2.1 ∧ (1 ≤ x.1 ∧ x.1 ≤ ((2 ^ ns.toNat - 1 : Nat) : Int)) ∧ leafG G x.1.toNat G.length ≤ x.2.2 ∧ x.2.2 ≤ 1099511627776
/-- The bound is proved. -/
def TopB (ns : Int) (k : Int) (f : Lit → Option Int) (bound : Int) : Prop := ∃ d, f (keyL ((2 ^ ns.toNat - 1 : Nat) : Int) k) = some d ∧ d ≤ bound
/-- All that a table has to say. -/
def AllB (ns : Int) (L G : List (List Int)) (k : Int) (l : List (Int × Int × Int)) (bound : Int) : Prop := (∀ x ∈ l, GoodB ns G x) ∧ (∀ x ∈ l, 0 < x.2.1 → BndP L x.1.toNat x.2.1 x.2.2 (bvF l l.length)) ∧ TopB ns k (bvF l l.length) bound
/-- The code of a table of bounds. -/
structure BeC (ns : Int) (L G : List (List Int)) (k : Int) (l : List (Int × Int × Int)) (bound r : Int) : Prop where
 a : ¬ AskOk ns L G k → r = 1
 b : AskOk ns L G k → 4096 < l.length → r = 4
 c : AskOk ns L G k → ¬ 4096 < l.length → ¬ DscTo l l.length → r = 10
 d : AskOk ns L G k → ¬ 4096 < l.length → DscTo l l.length → ¬ AllB ns L G k l bound → r = 13
 e : AskOk ns L G k → ¬ 4096 < l.length → DscTo l l.length → AllB ns L G k l bound → r = 0
section
variable {ns : Int} {L G : List (List Int)} {k : Int} {l : List (Int × Int × Int)} {bound r r' : Int}
theorem BeC.eq (h : BeC ns L G k l bound r) (h' : BeC ns L G k l bound r') : r = r' := by
 by_cases h1 : AskOk ns L G k
 ·by_cases h2 : 4096 < l.length
  ·rw [h.b h1 h2, h'.b h1 h2]
  ·by_cases h3 : DscTo l l.length
   ·by_cases h4 : AllB ns L G k l bound
    ·rw [h.e h1 h2 h3 h4, h'.e h1 h2 h3 h4]
    ·rw [h.d h1 h2 h3 h4, h'.d h1 h2 h3 h4]
   ·rw [h.c h1 h2 h3, h'.c h1 h2 h3]
 ·rw [h.a h1, h'.a h1]
theorem BeC.one (h : ¬ AskOk ns L G k) : BeC ns L G k l bound 1 := ⟨fun _ => rfl, fun h' => absurd h' h, fun h' => absurd h' h, fun h' => absurd h' h, fun h' => absurd h' h⟩
theorem BeC.four (h : AskOk ns L G k) (h2 : 4096 < l.length) : BeC ns L G k l bound 4 := ⟨fun h' => absurd h h', fun _ _ => rfl, fun _ h' => absurd h2 h', fun _ h' => absurd h2 h', fun _ h' => absurd h2 h'⟩
theorem BeC.bad (h : AskOk ns L G k) (h2 : ¬ 4096 < l.length) (h3 : DscTo l l.length) (h4 : ¬ AllB ns L G k l bound) : BeC ns L G k l bound 13 := ⟨fun h' => absurd h h', fun _ h' => absurd h' h2, fun _ _ h' => absurd h3 h', fun _ _ _ _ => rfl, fun _ _ _ h' => absurd h' h4⟩
theorem BeC.ok (h : AskOk ns L G k) (h2 : ¬ 4096 < l.length) (h3 : DscTo l l.length) (h4 : AllB ns L G k l bound) : BeC ns L G k l bound 0 := ⟨fun h' => absurd h h', fun _ h' => absurd h' h2, fun _ _ h' => absurd h3 h', fun _ _ _ h' => absurd h4 h', fun _ _ _ _ => rfl⟩
end
end Go.Proofs.YtbdcjhoedhhabaaGreat

/- Arguments opened: gain functions, tables of bounds. -/
namespace Go.Proofs.YtbdcjhoedhhabaaGreat
open Go.ChangeShapes Go.WideShapes Go.ChangeAt Go.RowKit Go.Joins

end Go.Proofs.YtbdcjhoedhhabaaGreat

