/- Contracts of the functions that the statements reach, part 27. -/
import Derived.Test.YtbdcjhoedhhabaaGreatRows
import Derived.Shelf.SlSortCmp.WholeK
import Derived.Shelf.SlGeneric
import Derived.Shelf.SlSortCmp.NoneTotal
import Derived.ChangeKeysEq
import Derived.Test.YtbdcjhoedhhabaaGreatE26
set_option linter.unusedSimpArgs false
set_option linter.unusedVariables false

/- Successors of the nodes of a graph: lists that grow in place. -/
namespace Go.Proofs.YtbdcjhoedhhabaaGreat
open Go.RowKit
attribute [local go_sem ↓] Go.wp_at_zero Go.wp_at_succ

/-- The ends of the first edges from a node. -/
def adj (es : List (Int × Int)) (c i : Nat) : List Int := ((es.take c).filter fun e => e.1 == (i : Int)).map Prod.snd
theorem adj_zero (es : List (Int × Int)) (i : Nat) : adj es 0 i = [] := by simp [adj]
theorem adj_next {es : List (Int × Int)} {c k : Nat} {y : Int} (h : es[c]? = some ((k : Int), y)) (i : Nat) : adj es (c + 1) i = if i = k then adj es c k ++ [y] else adj es c i := by
 unfold adj
 rw [List.take_add_one, h, List.filter_append, List.map_append]
 by_cases e : i = k
 ·subst e
  simp
 ·have e2 : ¬ (k : Int) = (i : Int) := by omega
  simp [e, e2]
theorem adj_len (es : List (Int × Int)) (c i : Nat) : (adj es c i).length ≤ c := by
 unfold adj
 rw [List.length_map]
 have := List.length_filter_le (fun e : Int × Int => e.1 == (i : Int)) (es.take c)
 rw [List.length_take] at this
 omega
theorem adj_mem {es : List (Int × Int)} {i : Nat} {x : Int} : x ∈ adj es es.length i ↔ ((i : Int), x) ∈ es := by
 unfold adj
 rw [List.take_of_length_le (Nat.le_refl _), List.mem_map]
 constructor
 ·rintro ⟨⟨a, b⟩, he, rfl⟩
  obtain ⟨h1, h2⟩ := List.mem_filter.1 he
  have h3 : a = (i : Int) := by simpa using h2
  rw [← h3]
  exact h1
 ·intro h
  exact ⟨((i : Int), x), List.mem_filter.2 ⟨h, by simp⟩, rfl⟩
theorem adj_sub {es : List (Int × Int)} {c i : Nat} {x : Int} (h : x ∈ adj es c i) : ((i : Int), x) ∈ es := by
 unfold adj at h
 obtain ⟨⟨a, b⟩, he, rfl⟩ := List.mem_map.1 h
 obtain ⟨h1, h2⟩ := List.mem_filter.1 he
 have h3 : a = (i : Int) := by simpa using h2
 rw [← h3]
 exact List.mem_of_mem_take h1

/-- n lists that grow, in a block of their own each; block g holds them. -/
structure Adj (w : World) (base g n : Nat) (V : Nat → Value) (F : Nat → List Int) : Prop where
 box : Loc w g 27 ((List.range n).map V).toArray
 own : ∀ i, i < n → Own1 w base 3 (V i) ((F i).map (Value.int .i64))
 dist : ∀ i j b, i < n → j < n → i ≠ j → (V i).ownBlock = some b → (V j).ownBlock = some b → False
section
variable {w w' wA w2 : World} {base g n : Nat} {V : Nat → Value} {F : Nat → List Int}
theorem adj_arr {k : Nat} (hk : k < n) : ((List.range n).map V).toArray[k]? = some (V k) := by
 rw [List.getElem?_toArray, List.getElem?_map, List.getElem?_range hk]
 rfl
theorem Adj.cell (h : Adj w base g n V F) {k : Nat} (hk : k < n) : w.cell? ⟨g, k, none⟩ = some (V k) := by
 rw [Loc.cell h.box, adj_arr hk]
theorem Adj.lt (h : Adj w base g n V F) : g < w.heap.size := h.box.lt
theorem Adj.below (h : Adj w base g n V F) (hb : Below w.heap.size w w') : Adj w' base g n V F :=
 ⟨h.box.below hb, fun i hi => (h.own i hi).below hb, h.dist⟩
theorem Own1.box {v u : Value} {us : List Value} {cs : Array Value} {k : Nat} (h : Own1 w base 3 v us) (L : Loc w g 27 cs) : Own1 (w.setCell ⟨g, k, none⟩ u) base 3 v us :=
 Own1.keep h ((Keep.refl (fun b => b = g) w).set (.inl rfl) _) (fun b hb e => by
  rcases h.2 with ⟨h', _⟩ | ⟨g', cap', cur, h', _, hg', _⟩
  ·rw [h'] at hb; cases hb
  ·rw [h'] at hb
   injection hb with hb
   subst hb
   exact loc_ne hg' L (by decide) e)
theorem Adj.start {g : Nat} (h : Loc w g 27 (List.replicate n (Value.slice none 0 0)).toArray) : Adj w base g n (fun _ => .slice none 0 0) (fun _ => []) := by
 refine ⟨?_, fun i _ => Own1.nil _ _ _, fun i j b _ _ _ h => by cases h⟩
 rw [List.map_const', List.length_range]
 exact h
theorem Adj.push (h : Adj w base g n V F) {k b' : Nat} {x : Int} {v' : Value} (hk : k < n) (hb : Below w.heap.size w wA) (hown : Own1 w2 base 3 v' ((F k).map (Value.int .i64) ++ [.int .i64 x])) (hg : wA.grownBy w2 (V k).ownBlock) (ho : (V k).ownBlock = some b' ∨ b' = wA.heap.size) (hv : v'.ownBlock = some b') :
 Adj (w2.setCell ⟨g, k, none⟩ v') base g n (fun i => if i = k then v' else V i) (fun i => if i = k then F k ++ [x] else F i) := by
 have hA := h.below hb
 have L2 : Loc w2 g 27 ((List.range n).map V).toArray := loc_other (hA.own k hk) hg hA.box (by decide)
 have fresh : ∀ i, i < n → i ≠ k → (V i).ownBlock ≠ some b' := fun i hi hne e => by
  rcases ho with ho | ho
  ·exact h.dist i k b' hi hk hne e ho
  ·have h1 := (Own1.lt (h.own i hi) e).1
   have h2 := hb.size
   omega
 refine ⟨?_, fun i hi => ?_, fun i j b hi hj hne e1 e2 => ?_⟩
 ·have h9 := L2.set k v'
  have e : ((List.range n).map V).toArray.setIfInBounds k v' = ((List.range n).map fun i => if i = k then v' else V i).toArray := by
   rw [List.setIfInBounds_toArray]
   congr 1
   apply List.ext_getElem?
   intro i
   by_cases hi : i < n
   ·by_cases hik : i = k
    ·subst hik
     rw [List.getElem?_set_self (by simpa using hi), List.getElem?_map, List.getElem?_range hi]
     simp
    ·rw [List.getElem?_set_ne (fun e => hik e.symm), List.getElem?_map, List.getElem?_map, List.getElem?_range hi]
     simp [hik]
   ·rw [List.getElem?_eq_none (by simp; omega), List.getElem?_eq_none (by simp; omega)]
  rw [← e]
  exact h9
 ·by_cases hik : i = k
  ·subst hik
   simp only [if_true]
   rw [List.map_append]
   exact hown.box L2
  ·simp only [if_neg hik]
   refine Own1.box ?_ L2
   refine World.ownsRow.kept (hA.own i hi) hg ?_
   rcases hq : (V i).ownBlock with _ | q
   ·exact .inl rfl
   ·exact .inr (fun e => h.dist i k q hi hk hik hq e.symm)
 ·by_cases hik : i = k
  ·subst hik
   rw [if_pos rfl] at e1
   rw [if_neg (fun e => hne e.symm)] at e2
   rw [hv] at e1
   injection e1 with e1
   subst e1
   exact fresh j hj (fun e => hne e.symm) e2
  ·rw [if_neg hik] at e1
   by_cases hjk : j = k
   ·subst hjk
    rw [if_pos rfl, hv] at e2
    injection e2 with e2
    subst e2
    exact fresh i hi hik e1
   ·rw [if_neg hjk] at e2
    exact h.dist i j b hi hj hne e1 e2
theorem Adj.cong {V' : Nat → Value} {F' : Nat → List Int} (h : Adj w base g n V F) (hV : ∀ i, i < n → V i = V' i) (hF : ∀ i, i < n → F i = F' i) : Adj w base g n V' F' := by
 refine ⟨?_, fun i hi => ?_, fun i j b hi hj hne e1 e2 => ?_⟩
 ·have e : (List.range n).map V = (List.range n).map V' := List.map_congr_left (fun i hi => hV i (List.mem_range.1 hi))
  rw [← e]; exact h.box
 ·rw [← hV i hi, ← hF i hi]; exact h.own i hi
 ·rw [← hV i hi] at e1
  rw [← hV j hj] at e2
  exact h.dist i j b hi hj hne e1 e2
theorem Adj.imat (h : Adj w base g n V F) (hn : n ≤ maxLen) (hF : ∀ i, i < n → ∀ z ∈ F i, -9223372036854775808 ≤ z ∧ z ≤ 9223372036854775807) : IMat w (.slice (some ⟨g, 0, none⟩) n n) ((List.range n).map F) := by
 refine ⟨some ⟨g, 0, none⟩, n, by simp, by simp, hn, fun _ => ⟨_, rfl, h.lt, fun i l hl => ?_⟩⟩
 have hi := (List.getElem?_eq_some_iff.1 hl).1
 simp at hi
 rw [List.getElem?_map, List.getElem?_range hi] at hl
 have hl : some (F i) = some l := hl
 injection hl with hl
 subst hl
 have h1 := (h.own i hi).intsV (hF i hi)
 obtain ⟨B, c, e, h2, -, -⟩ := h1.op
 refine ⟨B, c, ?_, h2⟩
 rw [add0, h.cell hi, e]
theorem Adj.shape (h : Adj w base g n V F) {k : Nat} (hk : k < n) : ∃ A c, V k = .slice A (F k).length c := by
 have h0 := (h.own k hk).2
 rcases h0 with ⟨h', hn⟩ | ⟨g', cap', cur, h', _⟩
 ·refine ⟨none, 0, ?_⟩
  rw [h']
  rw [List.length_map] at hn
  rw [hn]
 ·refine ⟨_, _, by rw [h', List.length_map]⟩
end
theorem rowL_zeros {w : World} {base g n : Nat} (h : w.ownsRow base 27 1 (.slice (some ⟨g, 0, none⟩) n n) n (List.replicate n (.slice none 0 0))) : Loc w g 27 (List.replicate n (Value.slice none 0 0)).toArray := by
 have hl := h.1
 rcases h.2 with ⟨h', _⟩ | ⟨g', cap', cur, h', _, hg, _, _, hsz, htake⟩
 ·simp at h'
 ·simp only [Value.slice.injEq, Option.some.injEq, Addr.mk.injEq, and_true, true_and] at h'
  obtain ⟨rfl, rfl⟩ := h'
  have : cur.toList = List.replicate n (.slice none 0 0) := by
   rw [← htake, List.take_of_length_le (by simp; omega)]
  unfold Loc
  rw [hg, ← this]
/-- One number appended, in a drawn region. -/
theorem step_pushZ {ops : Array Oper} {o : Oper} {a : Act} {K : Act → World → Prop} {Q : Exit → Act → World → Prop} {E : Prop} (w : World) (hgd : o.guard = none) (s x : Operand) (ho : o.op = .call { callee := .builtin .append, args := #[s, x], argTypes := #[27, 27] })
 (base : Nat) (v : Value) (us : List Value) (hs : a.eval s = v) (hown : Own1 w base 3 v us) (H : Nat) (u : Value) (hx : a.eval x = .slice (some ⟨H, 0, none⟩) 1 1) (hH : w.heap[H]? = some (.cells #[u] 3 (0, 0))) (hu : u.oneCell' = true)
 (hn : us.length ≤ 1000) (hbase : base ≤ w.heap.size)
 (h : ∀ g cap w', Own1 w' base 3 (.slice (some ⟨g, 0, none⟩) (us.length + 1) cap) (us ++ [u]) → w.grownBy w' v.ownBlock → (v.ownBlock = some g ∨ g = w.heap.size) → g < w'.heap.size → K (a.put o.dst (.slice (some ⟨g, 0, none⟩) (us.length + 1) cap)) w') :
 if Region.wanted o (yielded ops a.tmps) = true then Oper.wp Tryz.prog o a w K Q else E := by
 have hw : Region.wanted o (yielded ops a.tmps) = true := by simp [Region.wanted, hgd]
 rw [if_pos hw]
 exact wp_push1 w s x ho Tryz.underlying27 info_int1 rfl (by decide) base v us hs hown H u hx hH hu hn hbase h
end Go.Proofs.YtbdcjhoedhhabaaGreat

/- slices.SortFunc at edges, laid: printed by lay-plain.mjs at seat r5 (the numbers are that seat's). -/
namespace Go.Proofs.YtbdcjhoedhhabaaGreat
open Go.Shelf

set_option maxRecDepth 100000

def layE_ren : Go.Shelf.Ren := ⟨fun | 6 => 442 | 15 => 80 | 14 => 496 | 28 => 204 | 29 => 205 | 20 => 531 | 21 => 532 | 22 => 533 | 23 => 534 | 24 => 535 | 25 => 536 | 26 => 537 | 27 => 538 | 46 => 559 | 47 => 323 | 48 => 324 | 49 => 560 | 50 => 561 | 57 => 575 | n => n, fun | 22 => 107 | 24 => 200 | 25 => 494 | 3 => 3 | 39 => 166 | 0 => 0 | 53 => 305 | 55 => 307 | 4 => 4 | 46 => 299 | 45 => 298 | 50 => 224 | 5 => 5 | 9 => 9 | 66 => 397 | 70 => 401 | 76 => 464 | 77 => 404 | n => n, fun | n => n⟩

theorem layE : Go.Proofs.SlLaysF0.n6 Tryz.prog layE_ren := {
 mixed := by kernel_rfl
 f6 := ⟨Tryz.f442.name, by decide, Tryz.func442.trans (congrArg some (by kernel_rfl))⟩
 f14 := ⟨Tryz.f496.name, by decide, Tryz.func496.trans (congrArg some (by kernel_rfl))⟩
 f15 := Tryz.func80.trans (congrArg some (by kernel_rfl))
 f20 := ⟨Tryz.f531.name, by decide, Tryz.func531.trans (congrArg some (by kernel_rfl))⟩
 f21 := ⟨Tryz.f532.name, by decide, Tryz.func532.trans (congrArg some (by kernel_rfl))⟩
 f22 := ⟨Tryz.f533.name, by decide, Tryz.func533.trans (congrArg some (by kernel_rfl))⟩
 f23 := ⟨Tryz.f534.name, by decide, Tryz.func534.trans (congrArg some (by kernel_rfl))⟩
 f24 := ⟨Tryz.f535.name, by decide, Tryz.func535.trans (congrArg some (by kernel_rfl))⟩
 f25 := ⟨Tryz.f536.name, by decide, Tryz.func536.trans (congrArg some (by kernel_rfl))⟩
 f26 := ⟨Tryz.f537.name, by decide, Tryz.func537.trans (congrArg some (by kernel_rfl))⟩
 f27 := ⟨Tryz.f538.name, by decide, Tryz.func538.trans (congrArg some (by kernel_rfl))⟩
 f28 := Tryz.func204.trans (congrArg some (by kernel_rfl))
 f29 := Tryz.func205.trans (congrArg some (by kernel_rfl))
 f46 := ⟨Tryz.f559.name, by decide, Tryz.func559.trans (congrArg some (by kernel_rfl))⟩
 f47 := Tryz.func323.trans (congrArg some (by kernel_rfl))
 f48 := Tryz.func324.trans (congrArg some (by kernel_rfl))
 f49 := ⟨Tryz.f560.name, by decide, Tryz.func560.trans (congrArg some (by kernel_rfl))⟩
 f50 := ⟨Tryz.f561.name, by decide, Tryz.func561.trans (congrArg some (by kernel_rfl))⟩
 f57 := ⟨Tryz.f575.name, by decide, Tryz.func575.trans (congrArg some (by kernel_rfl))⟩
 t0 := Tryz.underlying0
 a0 := Tryz.isAgg0
 z0 := Tryz.sizeOf0
 v0 := Tryz.zeroValue0
 t3 := Tryz.underlying3
 a3 := Tryz.isAgg3
 z3 := Tryz.sizeOf3
 v3 := Tryz.zeroValue3
 t4 := Tryz.underlying4
 a4 := Tryz.isAgg4
 z4 := Tryz.sizeOf4
 v4 := Tryz.zeroValue4
 t5 := Tryz.underlying5
 a5 := Tryz.isAgg5
 z5 := Tryz.sizeOf5
 v5 := Tryz.zeroValue5
 t9 := Tryz.underlying9
 a9 := Tryz.isAgg9
 z9 := Tryz.sizeOf9
 v9 := Tryz.zeroValue9
 t22 := Tryz.underlying107
 a22 := Tryz.isAgg107
 z22 := Tryz.sizeOf107
 v22 := Tryz.zeroValue107
 t25 := Tryz.underlying494
 a25 := Tryz.isAgg494
 z25 := Tryz.sizeOf494
 v25 := Tryz.zeroValue494
 t39 := Tryz.underlying166
 a39 := Tryz.isAgg166
 z39 := Tryz.sizeOf166
 v39 := Tryz.zeroValue166
 t45 := Tryz.underlying298
 a45 := Tryz.isAgg298
 z45 := Tryz.sizeOf298
 v45 := Tryz.zeroValue298
 t46 := Tryz.underlying299
 a46 := Tryz.isAgg299
 z46 := Tryz.sizeOf299
 v46 := Tryz.zeroValue299
 t50 := Tryz.underlying224
 a50 := Tryz.isAgg224
 z50 := Tryz.sizeOf224
 v50 := Tryz.zeroValue224
 t53 := Tryz.underlying305
 a53 := Tryz.isAgg305
 z53 := Tryz.sizeOf305
 v53 := Tryz.zeroValue305
 t55 := Tryz.underlying307
 a55 := Tryz.isAgg307
 z55 := Tryz.sizeOf307
 v55 := Tryz.zeroValue307
 t66 := Tryz.underlying397
 a66 := Tryz.isAgg397
 z66 := Tryz.sizeOf397
 v66 := Tryz.zeroValue397
 t70 := Tryz.underlying401
 a70 := Tryz.isAgg401
 z70 := Tryz.sizeOf401
 v70 := Tryz.zeroValue401
 t76 := Tryz.underlying464
 a76 := Tryz.isAgg464
 z76 := Tryz.sizeOf464
 v76 := Tryz.zeroValue464
 t77 := Tryz.underlying404
 a77 := Tryz.isAgg404
 z77 := Tryz.sizeOf404
 v77 := Tryz.zeroValue404 }
end Go.Proofs.YtbdcjhoedhhabaaGreat

/- Rows of edges: equality, clear, slices.Clone, slices.SortFunc. -/
namespace Go.Proofs.YtbdcjhoedhhabaaGreat
open Go.RowKit Go.Sort
attribute [local go_sem ↓] Go.wp_at_zero Go.wp_at_succ
set_option maxRecDepth 100000

theorem info_edge : (Tryz.prog.info? 200).map (fun i => (i.zero, i.size, i.bytes)) = some (some (.agg #[.int .i64 0, .int .i64 0]), 2, 16) := by kernel_rfl
theorem cells_int : Tryz.prog.cellsOf 3 = 1 := by kernel_rfl
theorem part_int (w : World) (xs : Array Value) (i : Nat) (v : Value) (h : xs[i]? = some v) : (part 3 xs i).run Tryz.prog w = .ok v w := by
 unfold part isAgg
 simp only [Sem.run_bind, run_underlying Tryz.underlying3, Result.andThen_ok, Sem.run_pure]
 simp [h]
theorem eqIn_int (d : Nat) (w : World) (a b : Int) : (Op.equalIn (d + 1) 3 (.int .i64 a) (.int .i64 b)).run Tryz.prog w = .ok (a == b) w := by
 unfold Op.equalIn
 rw [Sem.run_bind, run_underlying Tryz.underlying3]
 rfl
theorem eqItems_two (e : Nat) (w : World) (a b c d : Int) : (Op.eqItems (e + 1) 3 1 #[.int .i64 a, .int .i64 b] #[.int .i64 c, .int .i64 d] [0, 1]).run Tryz.prog w = .ok (decide ((a, b) = (c, d))) w := by
 have p0 := part_int w #[.int .i64 a, .int .i64 b] 0 (.int .i64 a) rfl
 have p1 := part_int w #[.int .i64 a, .int .i64 b] 1 (.int .i64 b) rfl
 have q0 := part_int w #[.int .i64 c, .int .i64 d] 0 (.int .i64 c) rfl
 have q1 := part_int w #[.int .i64 c, .int .i64 d] 1 (.int .i64 d) rfl
 have r0 := eqIn_int e w a c
 have r1 := eqIn_int e w b d
 simp only [Op.eqItems, Sem.run_bind, Nat.zero_mul, Nat.one_mul, p0, q0, r0, Result.andThen_ok]
 by_cases h1 : a = c
 ·have e1 : (a == c) = true := beq_iff_eq.2 h1
  rw [e1]
  simp only [Bool.not_true, Bool.false_eq_true, if_false, Sem.run_bind, p1, q1, r1, Result.andThen_ok]
  by_cases h2 : b = d
  ·have e2 : (b == d) = true := beq_iff_eq.2 h2
   rw [e2]
   simp [h1, h2]
  ·have e2 : (b == d) = false := beq_eq_false_iff_ne.2 h2
   rw [e2]
   simp [h1, h2]
 ·have e1 : (a == c) = false := beq_eq_false_iff_ne.2 h1
  rw [e1]
  simp [h1]
theorem equal_edge (w : World) (a b c d : Int) : (Op.equal 200 (.agg #[.int .i64 a, .int .i64 b]) (.agg #[.int .i64 c, .int .i64 d])).run Tryz.prog w = .ok (decide ((a, b) = (c, d))) w := by
 obtain ⟨i, hi, -, hz1, -⟩ := info_parts info_int1
 unfold Op.equal Op.maxDepth
 rw [run_equalIn_array w 9999 _ _ Tryz.underlying200 hi, cells_int]
 exact eqItems_two 9998 w a b c d
/-- The cells of edges. -/
def flat2 (es : List (Int × Int)) : List Value := es.flatMap fun e => [Value.int .i64 e.1, Value.int .i64 e.2]
theorem flat2_len : ∀ es : List (Int × Int), (flat2 es).length = es.length * 2
 | [] => rfl
 | e :: es => by
   show (flat2 es).length + 2 = (es.length + 1) * 2
   rw [flat2_len es]
   omega
theorem flat2_get : ∀ (es : List (Int × Int)) (i : Nat) (e : Int × Int), es[i]? = some e → (flat2 es)[i * 2]? = some (.int .i64 e.1) ∧ (flat2 es)[i * 2 + 1]? = some (.int .i64 e.2)
 | [], i, e, h => by cases h
 | x :: es, 0, e, h => by
   injection h with h
   subst h
   exact ⟨rfl, rfl⟩
 | x :: es, i + 1, e, h => by
   have h9 := flat2_get es i e h
   rw [show (i + 1) * 2 = i * 2 + 1 + 1 by omega, show i * 2 + 1 + 1 + 1 = (i * 2 + 1) + 1 + 1 by omega]
   exact h9
theorem flat2_one {es : List (Int × Int)} : ∀ u ∈ flat2 es, u.oneCell' = true := fun u hu => by
 unfold flat2 at hu
 obtain ⟨e, -, h⟩ := List.mem_flatMap.1 hu
 simp at h
 rcases h with rfl | rfl <;> rfl
theorem flat2_all {Q : Nat → Value → Prop} : ∀ (es : List (Int × Int)), (∀ i e, es[i]? = some e → Q (i * 2) (.int .i64 e.1) ∧ Q (i * 2 + 1) (.int .i64 e.2)) → ∀ j u, (flat2 es)[j]? = some u → Q j u := fun es h j u hu => by
 have hj := (List.getElem?_eq_some_iff.1 hu).1
 rw [flat2_len] at hj
 have hg := List.getElem?_eq_getElem (l := es) (i := j / 2) (by omega)
 obtain ⟨q1, q2⟩ := h _ _ hg
 obtain ⟨r1, r2⟩ := flat2_get es _ _ hg
 rcases Nat.mod_two_eq_zero_or_one j with e | e
 ·rw [show j / 2 * 2 = j by omega] at q1 r1
  rw [r1] at hu
  injection hu with hu
  rw [← hu]; exact q1
 ·rw [show j / 2 * 2 + 1 = j by omega] at q2 r2
  rw [r2] at hu
  injection hu with hu
  rw [← hu]; exact q2

/-- A block of edges, at or above base, may be with room behind. -/
def OwnE (w : World) (base : Nat) (v : Value) (es : List (Int × Int)) : Prop :=
 (v = .slice none 0 0 ∧ es = []) ∨ ∃ g cap cur, v = .slice (some ⟨g, 0, none⟩) es.length cap ∧ base ≤ g ∧ Loc w g 200 cur ∧ es.length ≤ cap ∧ cap ≤ maxLen ∧ cur.size = cap * 2 ∧ ∀ (i : Nat) (e : Int × Int), es[i]? = some e → cur[i * 2]? = some (.int .i64 e.1) ∧ cur[i * 2 + 1]? = some (.int .i64 e.2)
section
variable {w w' : World} {base : Nat} {v : Value} {es : List (Int × Int)}
theorem OwnE.tims (h : OwnE w base v es) (hz : ∀ x ∈ es, (-9223372036854775808 ≤ x.1 ∧ x.1 ≤ 9223372036854775807) ∧ (-9223372036854775808 ≤ x.2 ∧ x.2 ≤ 9223372036854775807)) : Tims w v es := by
 rcases h with ⟨rfl, rfl⟩ | ⟨g, cap, cur, rfl, hb, hl, h1, h2, h3, h4⟩
 ·exact ⟨none, 0, rfl, Nat.le_refl _, Nat.zero_le _, fun h => absurd rfl h, fun z hz => by simp at hz⟩
 ·exact ⟨_, _, rfl, h1, h2, fun _ => ⟨_, rfl, hl.lt, fun i e he => by
   rw [Addr.add_lit, Addr.add_lit, Loc.cell hl, Loc.cell hl, Nat.zero_add]
   exact h4 i e he⟩, hz⟩
theorem OwnE.below (h : OwnE w base v es) (hb : Below w.heap.size w w') : OwnE w' base v es := by
 rcases h with h | ⟨g, cap, cur, h0, hb', hl, h1⟩
 ·exact .inl h
 ·exact .inr ⟨g, cap, cur, h0, hb', hl.below hb, h1⟩
theorem OwnE.of_row (h : w.ownsRow base 200 2 v es.length (flat2 es)) : OwnE w base v es := by
 rcases h.2 with ⟨h', hn⟩ | ⟨g, cap, cur, h', h3, hg, h1, h2, hsz, htake⟩
 ·exact .inl ⟨h', List.eq_nil_of_length_eq_zero hn⟩
 ·refine .inr ⟨g, cap, cur, h', h3, hg, h1, h2, hsz, fun i e he => ?_⟩
  obtain ⟨q1, q2⟩ := flat2_get es i e he
  have hi := (List.getElem?_eq_some_iff.1 he).1
  rw [← htake, List.getElem?_take_of_lt (by omega)] at q1 q2
  exact ⟨by simpa using q1, by simpa using q2⟩
end

set_option maxRecDepth 100000 in
set_option maxHeartbeats 4000000 in
theorem cloneE_any (w : World) (v : Value) (es : List (Int × Int)) (h : Tims w v es) (hm : es.length ≤ 1000) :
 Calls Tryz.prog 441 #[v] w fun e w' => (∃ v', e = .returned v' ∧ Hid (OwnE w' w.heap.size v' es)) ∧ Below w.heap.size w w' := by
 have H := Lib.hid h
 obtain ⟨A, c, rfl, hc, h1, h3, h4⟩ := h
 obtain ⟨i0, hi, hz0, hz1, hz2⟩ := info_parts info_edge
 have he := @Lib.run_eql_slice_nil Tryz.prog
 rcases A with _ | a
 ·have h0 : es = [] := by
   rcases es with _ | ⟨x, xs⟩
   ·rfl
   ·obtain ⟨a, h, _⟩ := h3 (by simp)
    cases h
  subst h0
  clear h3 h4
  go_enter Tryz.func441, Tryz.ntmps441
  go_wp2
  go_ret
  exact ⟨⟨_, rfl, Lib.hid (.inl ⟨rfl, rfl⟩)⟩, Below.refl _ _⟩
 ·have HC : Hid (∀ j u, (flat2 es)[j]? = some u → w.cell? (a.add j) = some u ∧ a.block < w.heap.size) := flat2_all (Q := fun j u => w.cell? (a.add j) = some u ∧ a.block < w.heap.size) es (fun i e he => by
   obtain ⟨a', ea, hb, hcc⟩ := h3 (by have := (List.getElem?_eq_some_iff.1 he).1; omega)
   injection ea with ea
   subst ea
   have h9 := hcc i e he
   rw [addr_add_add] at h9
   exact ⟨⟨h9.1, hb⟩, h9.2, hb⟩)
  obtain ⟨m, hm'⟩ : ∃ m, es.length = m := ⟨_, rfl⟩
  have HM := Lib.hid hm'
  have HFL : Hid ((flat2 es).length = m * 2) := by show _ = _; rw [flat2_len, hm']
  rw [hm'] at hm
  rw [hm']
  clear h3 h4 hc hm'
  go_enter Tryz.func441, Tryz.ntmps441
  go_wp2_with (at_builtin; refine wpList_append_own _ rfl _ _ 107 rfl w.heap.size 200 i0 (.agg #[.int .i64 0, .int .i64 0]) 2 16 Tryz.underlying107 hi hz0 hz1 hz2 rfl (by decide) _ _ _ rfl (World.ownsRow_lit w #[] 0 (Nat.le_refl _) (by unfold maxLen; omega) rfl) a m c (flat2 es) rfl HFL.out (fun j u hu => cell_keep (X := fun _ => False) (HC.out j u hu).1 (by rw [add_block]; exact (HC.out j u hu).2) id kp) flat2_one (by unfold maxLen; omega) (by omega) (by simp only [World.size_alloc]; omega) ?_)
  intro v1 w1 hown hgrow _
  have HO : Hid (OwnE w1 w.heap.size v1 es) := OwnE.of_row (by rw [HM.out]; simpa using hown)
  have HB : Hid (Below w.heap.size w w1) := ((Below.refl _ _).alloc (Nat.le_refl _) _).grown hgrow (by simp) (by simp [Value.ownBlock])
  clear hown hgrow
  go_wp2
  go_ret
  exact ⟨⟨_, rfl, HO⟩, HB.out⟩

/-- Nodes below 4096. -/
abbrev ND := Fin 4096 × Fin 4096
def encE (x : ND) : List Value := [.int .i64 (x.1.val : Int), .int .i64 (x.2.val : Int)]
def cfE (x y : ND) : Int := if x.1.val = y.1.val then (x.2.val : Int) - (y.2.val : Int) else (x.1.val : Int) - (y.1.val : Int)
theorem ltE (x y : ND) : ltOf cfE x y = decide (x.1.val < y.1.val ∨ (x.1.val = y.1.val ∧ x.2.val < y.2.val)) := by
 unfold ltOf cfE
 by_cases h : x.1.val = y.1.val
 ·rw [if_pos h]
  exact decide_eq_decide.2 (by omega)
 ·rw [if_neg h]
  exact decide_eq_decide.2 (by omega)
theorem swoE : SWO (ltOf cfE) where
 irrefl x := by rw [ltE]; exact decide_eq_false (by omega)
 trans x y z h1 h2 := by rw [ltE] at *; exact decide_eq_true (by have := of_decide_eq_true h1; have := of_decide_eq_true h2; omega)
 ntrans x y z h1 h2 := by rw [ltE] at *; exact decide_eq_false (by have := of_decide_eq_false h1; have := of_decide_eq_false h2; omega)

set_option maxRecDepth 100000 in
set_option maxHeartbeats 4000000 in
theorem compareE_any (x y : ND) (W : World) : Calls Tryz.prog 443 (#[.agg #[.int .i64 (x.1.val : Int), .int .i64 (x.2.val : Int)], .agg #[.int .i64 (y.1.val : Int), .int .i64 (y.2.val : Int)]] ++ #[]) W fun e w' => e = .returned (.int .i64 (cfE x y)) ∧ ∃ q os', w' = grow (W.drewN q) os' := by
 obtain ⟨⟨a, ha⟩, ⟨b, hb⟩⟩ := x
 obtain ⟨⟨c, hc⟩, ⟨d, hd⟩⟩ := y
 simp only
 by_cases h : a = c
 ·have HE : Hid (cfE (⟨a, ha⟩, ⟨b, hb⟩) (⟨c, hc⟩, ⟨d, hd⟩) = (b : Int) - (d : Int)) := by show _ = _; unfold cfE; rw [if_pos h]
  have d1 : ((a : Int) != (c : Int)) = false := by rw [h]; exact bne_self_eq_false _
  have k1 : IntKind.i64.wrap ((b : Int) - (d : Int)) = (b : Int) - (d : Int) := by rw [IntKind.wrap_i64]; omega
  clear h
  go_enter Tryz.func443, Tryz.ntmps443
  go_wp2_with fail
  go_ret
  exact ⟨by first | (rw [HE.out]; rfl) | rw [HE.out], 0, _, by rw [alloc_eq_grow, alloc_eq_grow, grow_grow]; rfl⟩
 ·have HE : Hid (cfE (⟨a, ha⟩, ⟨b, hb⟩) (⟨c, hc⟩, ⟨d, hd⟩) = (a : Int) - (c : Int)) := by show _ = _; unfold cfE; rw [if_neg h]
  have d1 : ((a : Int) != (c : Int)) = true := by rw [bne_iff_ne]; omega
  have k1 : IntKind.i64.wrap ((a : Int) - (c : Int)) = (a : Int) - (c : Int) := by rw [IntKind.wrap_i64]; omega
  clear h
  go_enter Tryz.func443, Tryz.ntmps443
  go_wp2_with fail
  go_ret
  exact ⟨by first | (rw [HE.out]; rfl) | rw [HE.out], 0, _, by rw [alloc_eq_grow, alloc_eq_grow, grow_grow]; rfl⟩
end Go.Proofs.YtbdcjhoedhhabaaGreat

/- slices.SortFunc at edges: the row holds the same edges in some order. -/
namespace Go.Proofs.YtbdcjhoedhhabaaGreat
open Go.RowKit Go.Sort Go.Shelf
attribute [local go_sem ↓] Go.wp_at_zero Go.wp_at_succ

/-- The first cells of a block are edges. -/
def CellsE (cur : Array Value) (es : List (Int × Int)) : Prop := ∀ (i : Nat) (e : Int × Int), es[i]? = some e → cur[i * 2]? = some (.int .i64 e.1) ∧ cur[i * 2 + 1]? = some (.int .i64 e.2)
def toND (e : Int × Int) : ND := (⟨e.1.toNat % 4096, Nat.mod_lt _ (by decide)⟩, ⟨e.2.toNat % 4096, Nat.mod_lt _ (by decide)⟩)
def ofND (x : ND) : Int × Int := ((x.1.val : Int), (x.2.val : Int))
theorem of_to {e : Int × Int} (h : (0 ≤ e.1 ∧ e.1 < 4096) ∧ 0 ≤ e.2 ∧ e.2 < 4096) : ofND (toND e) = e := by
 unfold ofND toND
 obtain ⟨a, b⟩ := e
 simp only at h ⊢
 rw [Nat.mod_eq_of_lt (by omega), Nat.mod_eq_of_lt (by omega)]
 congr 1 <;> omega
theorem flat_get2 (d : Array ND) {i : Nat} (hi : i < d.size) : (flatK encE 2 d)[i * 2]? = some (.int .i64 (ofND d[i]!).1) ∧ (flatK encE 2 d)[i * 2 + 1]? = some (.int .i64 (ofND d[i]!).2) := by
 have h0 := get_flatK encE 2 d (i * 2) (by omega)
 have h1 := get_flatK encE 2 d (i * 2 + 1) (by omega)
 rw [show i * 2 / 2 = i by omega, show i * 2 % 2 = 0 by omega] at h0
 rw [show (i * 2 + 1) / 2 = i by omega, show (i * 2 + 1) % 2 = 1 by omega] at h1
 have q0 : i * 2 < (flatK encE 2 d).size := by rw [size_flatK]; omega
 have q1 : i * 2 + 1 < (flatK encE 2 d).size := by rw [size_flatK]; omega
 rw [getElem!_pos (flatK encE 2 d) _ q0] at h0
 rw [getElem!_pos (flatK encE 2 d) _ q1] at h1
 rw [Array.getElem?_eq_getElem q0, Array.getElem?_eq_getElem q1, h0, h1]
 exact ⟨rfl, rfl⟩
theorem holds_edges {w : World} {g : Nat} {cur : Array Value} {es : List (Int × Int)} (hl : Loc w g 200 cur) (hc : CellsE cur es) (hr : ∀ e ∈ es, (0 ≤ e.1 ∧ e.1 < 4096) ∧ 0 ≤ e.2 ∧ e.2 < 4096) : HoldsK encE 2 w g 0 (es.map toND).toArray := by
 intro j hj
 rw [size_flatK] at hj
 simp only [List.size_toArray, List.length_map] at hj
 have hg := List.getElem?_eq_getElem (l := es) (i := j / 2) (by omega)
 obtain ⟨q1, q2⟩ := hc _ _ hg
 have hd : (es.map toND).toArray[j / 2]! = toND es[j / 2] := by
  rw [getElem!_pos (es.map toND).toArray _ (by simp; omega)]
  simp
 obtain ⟨r1, r2⟩ := flat_get2 (es.map toND).toArray (i := j / 2) (by simp; omega)
 rw [hd, of_to (hr _ (List.getElem_mem _))] at r1 r2
 have key : (flatK encE 2 (es.map toND).toArray)[j]? = cur[j]? := by
  rcases Nat.mod_two_eq_zero_or_one j with e | e
  ·rw [show j / 2 * 2 = j by omega] at q1 r1
   rw [r1, q1]
  ·rw [show j / 2 * 2 + 1 = j by omega] at q2 r2
   rw [r2, q2]
 have hlt : j < (flatK encE 2 (es.map toND).toArray).size := by rw [size_flatK]; simp; omega
 refine ⟨?_, Loc.frz hl _⟩
 rw [Loc.cell hl, Nat.zero_add, ← key, Array.getElem?_eq_getElem hlt, getElem!_pos (flatK encE 2 (es.map toND).toArray) _ hlt]
 rfl
theorem sort_loc {w : World} {g n : Nat} {cur : Array Value} {d' : Array ND} {os : Array Obj} (hl : Loc w g 200 cur) : Loc (sortWorldK encE 2 w g 0 n d' os) g 200 (Go.Sort.putCells id 0 (flatK encE 2 d') cur) := by
 unfold sortWorldK putRowK putRow mapBlock grow Loc
 simp only
 have hlt := hl.lt
 rw [Array.getElem?_append_left (by simpa using hlt), Array.getElem?_modify, if_pos rfl]
 unfold Loc at hl
 show Option.map _ w.heap[g]? = _
 rw [hl]
 rfl
theorem sort_grown {w : World} {g n : Nat} {d' : Array ND} {os : Array Obj} (hg : g < w.heap.size) : w.grownBy (sortWorldK encE 2 w g 0 n d' os) (some g) := by
 unfold sortWorldK putRowK putRow mapBlock grow
 refine ⟨rfl, rfl, rfl, by simp, fun k hk hne => ?_⟩
 simp only
 rw [Array.getElem?_append_left (by simpa using hk), Array.getElem?_modify, if_neg (fun e => hne (by rw [e]))]
 rfl
theorem perm_mem {d d' : Array ND} (h : PermIn 0 d.size d d') (x : ND) : x ∈ d'.toList ↔ x ∈ d.toList := by
 obtain ⟨h1, -, h3⟩ := h
 have e1 : d'.extract 0 d.size = d' := by rw [← h1]; simp
 have e2 : d.extract 0 d.size = d := by simp
 rw [e1, e2] at h3
 exact h3.mem_iff

theorem isAgg_edge (w : World) : (isAgg 200).run Tryz.prog w = .ok true w := by simp [isAgg, run_underlying Tryz.underlying200]
theorem sizeOf_edge (w : World) : (Go.sizeOf 200).run Tryz.prog w = .ok 2 w := by
 obtain ⟨i, hi, -, hz1, -⟩ := info_parts info_edge
 simp [Go.sizeOf, typeInfo, hi, hz1]

set_option maxRecDepth 100000 in
set_option maxHeartbeats 4000000 in
theorem sortE_any (w : World) (g cap : Nat) (cur : Array Value) (es : List (Int × Int)) (hl : Loc w g 200 cur) (hc : CellsE cur es) (hr : ∀ e ∈ es, (0 ≤ e.1 ∧ e.1 < 4096) ∧ 0 ≤ e.2 ∧ e.2 < 4096) (hm : es.length ≤ 1000) :
 Calls Tryz.prog 442 #[.slice (some ⟨g, 0, none⟩) es.length cap, .func (Fn.func 443) #[] #[]] w fun e w' => e = .returned (.tuple #[]) ∧ (∃ (es' : List (Int × Int)) (cur' : Array Value), Hid (Loc w' g 200 cur' ∧ cur'.size = cur.size ∧ CellsE cur' es' ∧ es'.length = es.length ∧ ∀ x, x ∈ es' ↔ x ∈ es)) ∧ w.grownBy w' (some g) := by
 have eg : ∀ args w, (callFunc 443 args).run Tryz.prog w = .ok (.enter 443 args) w := enters_of Tryz.func443 (by kernel_rfl) rfl
 have hcmp : CmpLays Tryz.prog 443 #[] encE 2 cfE g 0 (es.map toND).toArray.size w := fun m os dk _ x y => compareE_any x y _
 have hcon := AnyQ.slices_SortFunc layE 2 isAgg_edge sizeOf_edge encE (fun _ => rfl) (fun x v hv => by simp [encE] at hv; rcases hv with rfl | rfl <;> rfl) cfE swoE 443 #[] g 0 cap (es.map toND).toArray w eg hcmp (holds_edges hl hc hr) hl.lt (by simp; omega)
 change Calls Tryz.prog 442 _ _ _ at hcon
 rw [show (es.map toND).toArray.size = es.length by simp] at hcon
 refine hcon.mono ?_
 rintro e w' ⟨rfl, d', n, os, hp, -, rfl⟩
 have hsz : d'.size = es.length := by
  have := hp.1
  simpa using this
 have hp' : PermIn 0 (es.map toND).toArray.size (es.map toND).toArray d' := by simpa using hp
 refine ⟨rfl, ⟨d'.toList.map ofND, _, sort_loc hl, ?_, fun i e he => ?_, by simp [hsz], fun x => ?_⟩, sort_grown hl.lt⟩
 ·simp [Go.Sort.putCells]
 ·have hi := (List.getElem?_eq_some_iff.1 he).1
  simp only [List.length_map, Array.length_toList] at hi
  rw [List.getElem?_map, Array.getElem?_toList, Array.getElem?_eq_getElem hi] at he
  have he : some (ofND d'[i]) = some e := he
  injection he with he
  obtain ⟨q1, q2⟩ := flat_get2 d' hi
  rw [getElem!_pos d' i hi, he] at q1 q2
  have hci : i < es.length := by omega
  obtain ⟨r1, r2⟩ := hc i _ (List.getElem?_eq_getElem hci)
  have b1 := (Array.getElem?_eq_some_iff.1 r1).1
  have b2 := (Array.getElem?_eq_some_iff.1 r2).1
  unfold Go.Sort.putCells
  have f1 := (Array.getElem?_eq_some_iff.1 q1)
  have f2 := (Array.getElem?_eq_some_iff.1 q2)
  obtain ⟨z1, f1⟩ := f1
  obtain ⟨z2, f2⟩ := f2
  rw [Array.getElem?_mapIdx, Array.getElem?_mapIdx, Array.getElem?_eq_getElem b1, Array.getElem?_eq_getElem b2]
  simp only [Option.map_some, Nat.zero_le, true_and, Nat.zero_add, Nat.sub_zero, id]
  rw [if_pos z1, if_pos z2, getElem!_pos (flatK encE 2 d') _ z1, getElem!_pos (flatK encE 2 d') _ z2, f1, f2]
  exact ⟨rfl, rfl⟩
 ·have hm1 := perm_mem hp'
  constructor
  ·intro hx
   obtain ⟨y, hy, rfl⟩ := List.mem_map.1 hx
   have h1 := (hm1 y).1 hy
   simp only [List.mem_map] at h1
   obtain ⟨e, he, rfl⟩ := h1
   rw [of_to (hr e he)]
   exact he
  ·intro hx
   refine List.mem_map.2 ⟨toND x, (hm1 _).2 ?_, of_to (hr x hx)⟩
   simp only [List.mem_map]
   exact ⟨x, hx, rfl⟩
end Go.Proofs.YtbdcjhoedhhabaaGreat

