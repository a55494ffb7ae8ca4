/- Contracts of the functions that the statements reach, part 25. -/
import Derived.Test.YtbdcjhoedhhabaaGreatRows
import Derived.Deep.OwnRows
import Derived.WideKeyPair
import Derived.DeepKeys4
import Derived.Deep.Onto
import Derived.Test.YtbdcjhoedhhabaaGreatE2
import Derived.Test.YtbdcjhoedhhabaaGreatE23
import Derived.Test.YtbdcjhoedhhabaaGreatE24
set_option linter.unusedSimpArgs false
set_option linter.unusedVariables false

/- Lists of running times in memory; checker.load and bucket.Check. -/
namespace Go.Proofs.YtbdcjhoedhhabaaGreat
open Go.RowKit
attribute [local go_sem ↓] Go.wp_at_zero Go.wp_at_succ

/-- A list of pairs of integers (running time, weight) that is read. -/
def Tims (w : World) (v : Value) (l : List (Int × Int)) : Prop :=
 ∃ A cap, v = .slice A l.length cap ∧ l.length ≤ cap ∧ cap ≤ maxLen ∧ (l.length ≠ 0 → ∃ a, A = some a ∧ a.block < w.heap.size ∧ ∀ (i : Nat) (x : Int × Int), l[i]? = some x → w.cell? (a.add (i * 2)) = some (.int .i64 x.1) ∧ w.cell? ((a.add (i * 2)).add 1) = some (.int .i64 x.2)) ∧ ∀ x ∈ l, (-9223372036854775808 ≤ x.1 ∧ x.1 ≤ 9223372036854775807) ∧ (-9223372036854775808 ≤ x.2 ∧ x.2 ≤ 9223372036854775807)

theorem Tims.keep {w w' : World} {v : Value} {l : List (Int × Int)} (h : Tims w v l) (hk : Keep (fun _ => False) w w') : Tims w' v l := by
 obtain ⟨A, cap, hv, h1, h2, h3, h4⟩ := h
 refine ⟨A, cap, hv, h1, h2, fun hn => ?_, h4⟩
 obtain ⟨a, ha, hb, hc⟩ := h3 hn
 exact ⟨a, ha, Nat.lt_of_lt_of_le hb hk.size, fun i z hz => ⟨cell_keep (hc i z hz).1 (by rw [add_block]; exact hb) id hk, cell_keep (hc i z hz).2 (by rw [add_block, add_block]; exact hb) id hk⟩⟩

theorem Tims.op {w : World} {v : Value} {l : List (Int × Int)} (h : Tims w v l) : ∃ (A : Option Addr) (cap : Nat), v = .slice A l.length cap ∧ Tims w (.slice A l.length cap) l ∧ l.length ≤ cap ∧ cap ≤ maxLen := by
 have h0 := h
 obtain ⟨A, cap, rfl, h1, h2, -⟩ := h
 exact ⟨A, cap, rfl, h0, h1, h2⟩

theorem Tims.at {w : World} {l : List (Int × Int)} {A : Option Addr} {n cap : Nat} (h : Tims w (.slice A n cap) l) {i : Nat} {z : Int × Int} (hz : l[i]? = some z) : ∃ a : Addr, A = some a ∧ a.block < w.heap.size ∧ w.cell? (a.add (i * 2)) = some (.int .i64 z.1) ∧ w.cell? ((a.add (i * 2)).add 1) = some (.int .i64 z.2) ∧ (-9223372036854775808 ≤ z.1 ∧ z.1 ≤ 9223372036854775807) ∧ (-9223372036854775808 ≤ z.2 ∧ z.2 ≤ 9223372036854775807) := by
 obtain ⟨A', cap', hv, h1, h2, h3, h4⟩ := h
 injection hv with e1 e2 e3
 subst e1
 obtain ⟨a, ha, hb, hc⟩ := h3 (by have := (List.getElem?_eq_some_iff.1 hz).1; omega)
 have h9 := h4 z (List.mem_of_getElem? hz)
 exact ⟨a, ha, hb, (hc i z hz).1, (hc i z hz).2, h9.1, h9.2⟩

/- The costs of groups of running times: the checker's closure. -/

/-- A part of a list of running times. -/
theorem Tims.part {w : World} {a : Addr} {m cap : Nat} {l : List (Int × Int)} (h : Tims w (.slice (some a) m cap) l) {lo hi : Nat} (h1 : lo ≤ hi) (h2 : hi ≤ m) : Tims w (.slice (some (a.add (lo * 2))) (hi - lo) (cap - lo)) ((l.take hi).drop lo) := by
 obtain ⟨A', cap', hv, q1, q2, q3, q4⟩ := h
 injection hv with e1 e2 e3
 subst e1 e3
 have hlen : ((l.take hi).drop lo).length = hi - lo := by rw [List.length_drop, List.length_take]; omega
 refine ⟨_, _, by rw [hlen], by rw [hlen]; omega, by omega, fun hn => ?_, fun x hx => q4 x (List.mem_of_mem_take (List.mem_of_mem_drop hx))⟩
 obtain ⟨a', ha, hb, hc⟩ := q3 (by rw [hlen] at hn; omega)
 injection ha with ha
 subst ha
 refine ⟨_, rfl, by rw [add_block]; exact hb, fun i x hx => ?_⟩
 have hx2 : l[lo + i]? = some x := by
  rw [List.getElem?_drop, List.getElem?_take] at hx
  split at hx
  ·exact hx
  ·cases hx
 have h9 := hc (lo + i) x hx2
 have e : (a.add (lo * 2)).add (i * 2) = a.add ((lo + i) * 2) := by rw [addr_add_add, Nat.add_mul]
 rw [e]
 exact h9

/- The costs of groups of running times by sums from the start. -/

/-- The sum of the weights. -/
def wS : List (Int × Int) → Int
 | [] => 0
 | x :: l => x.2 + wS l
/-- The sum of the products of weights and times. -/
def pS : List (Int × Int) → Int
 | [] => 0
 | x :: l => x.2 * x.1 + pS l

/- bucket.group's closure. -/

/-- The blocks of bucket.group's closure: the list's box, the boxes of the two lists of sums, these lists. -/
structure GrpOk (w : World) (a : Addr) (m cap g1 g3 g4 gw gp : Nat) (l : List (Int × Int)) : Prop where
 c1 : w.cell? ⟨g1, 0, none⟩ = some (.slice (some a) m cap)
 c3 : w.cell? ⟨g3, 0, none⟩ = some (.slice (some ⟨gw, 0, none⟩) (m + 1) (m + 1))
 c4 : w.cell? ⟨g4, 0, none⟩ = some (.slice (some ⟨gp, 0, none⟩) (m + 1) (m + 1))
 cw : ∀ j, j ≤ m → w.cell? ⟨gw, j, none⟩ = some (.int .i64 (wS (l.take j)))
 cp : ∀ j, j ≤ m → w.cell? ⟨gp, j, none⟩ = some (.int .i64 (pS (l.take j)))
 b1 : g1 < w.heap.size
 b3 : g3 < w.heap.size
 b4 : g4 < w.heap.size
 bw : gw < w.heap.size
 bp : gp < w.heap.size

theorem GrpOk.keep {w w' : World} {a : Addr} {m cap g1 g3 g4 gw gp : Nat} {l : List (Int × Int)} (h : GrpOk w a m cap g1 g3 g4 gw gp l) (hk : Keep (fun _ => False) w w') : GrpOk w' a m cap g1 g3 g4 gw gp l :=
 ⟨cell_keep h.c1 h.b1 id hk, cell_keep h.c3 h.b3 id hk, cell_keep h.c4 h.b4 id hk, fun j hj => cell_keep (h.cw j hj) h.bw id hk, fun j hj => cell_keep (h.cp j hj) h.bp id hk, Nat.lt_of_lt_of_le h.b1 hk.size, Nat.lt_of_lt_of_le h.b3 hk.size, Nat.lt_of_lt_of_le h.b4 hk.size, Nat.lt_of_lt_of_le h.bw hk.size, Nat.lt_of_lt_of_le h.bp hk.size⟩

/- make of a list of integers in a drawn region; rows that are filled from the left. -/

theorem Loc.fill1 {w : World} {g : Nat} {t : TypeId} {x u : Value} (h : Loc w g t #[x]) : Loc (w.setCell ⟨g, 0, none⟩ u) g t #[u] := Loc.set h 0 u

end Go.Proofs.YtbdcjhoedhhabaaGreat

/- Keys of two integers. -/
namespace Go.Proofs.YtbdcjhoedhhabaaGreat
open Go.RowKit Go.Maps Go.WideMaps

/-- A key of two integers. -/
def keyL (a b : Int) : Lit := .string (keyBytes [.int .i64 a, .int .i64 b])
theorem types_succ : ∃ d, Tryz.prog.types.size = d + 1 := ⟨Tryz.prog.types.size - 1, by have : 0 < Tryz.prog.types.size := of_decide_eq_true (by kernel_rfl); omega⟩
theorem arr_key : ArrKey Tryz.prog 200 3 2 := ⟨Tryz.underlying200, by kernel_rfl, by kernel_rfl, by kernel_rfl⟩
theorem key_arr {a b : Int} (ha : -9223372036854775808 ≤ a ∧ a ≤ 9223372036854775807) (hb : -9223372036854775808 ≤ b ∧ b ≤ 9223372036854775807) : keyOf Tryz.prog 200 (.agg #[.int .i64 a, .int .i64 b]) = some (keyL a b) :=
 keyOf_pair arr_key Tryz.underlying3 types_succ (WalkArith.wf_i64 ha) (WalkArith.wf_i64 hb)
set_option maxRecDepth 100000 in
theorem keyed_arr : Keyed Tryz.prog 200 := Keyed.of_law arr_key.law

theorem keyL_inj {a b a' b' : Int} (ha : -9223372036854775808 ≤ a ∧ a ≤ 9223372036854775807) (hb : -9223372036854775808 ≤ b ∧ b ≤ 9223372036854775807) (ha' : -9223372036854775808 ≤ a' ∧ a' ≤ 9223372036854775807) (hb' : -9223372036854775808 ≤ b' ∧ b' ≤ 9223372036854775807) (h : keyL a b = keyL a' b') : a = a' ∧ b = b' := by
 have h1 := keyed_arr.inj (key_arr ha hb) (by rw [h]; exact key_arr ha' hb')
 injection h1 with h1
 injection h1 with h1
 injection h1 with h1 h2
 injection h1 with _ h1
 injection h2 with h2
 injection h2 with _ h2
 exact ⟨h1, h2⟩
end Go.Proofs.YtbdcjhoedhhabaaGreat

/- Rows of bools; maps whose values are all true; queues of integers. -/
namespace Go.Proofs.YtbdcjhoedhhabaaGreat
open Go.RowKit Go.Maps Go.ChangeMaps
attribute [local go_sem ↓] Go.wp_at_zero Go.wp_at_succ
set_option maxRecDepth 100000

theorem info_bool1 : (Tryz.prog.info? 4).map (fun i => (i.zero, i.size, i.bytes)) = some (some (.bool false), 1, 1) := by kernel_rfl

/-- A block of bools. -/
def RowB (w : World) (g : Nat) (bs : List Bool) : Prop := Loc w g 4 (bs.map Value.bool).toArray
section
variable {w w' : World} {g : Nat} {bs : List Bool}
theorem RowB.cell (h : RowB w g bs) {i : Nat} {b : Bool} (hz : bs[i]? = some b) : w.cell? ⟨g, i, none⟩ = some (.bool b) := by
 rw [Loc.cell h, List.getElem?_toArray, List.getElem?_map, hz]
 rfl
theorem RowB.lt (h : RowB w g bs) : g < w.heap.size := Loc.lt h
theorem RowB.frz (h : RowB w g bs) (i : Nat) : w.frozen? ⟨g, i, none⟩ = false := Loc.frz h i
theorem RowB.below (h : RowB w g bs) (hb : Below w.heap.size w w') : RowB w' g bs := Loc.below h hb
theorem RowB.set (h : RowB w g bs) (i : Nat) (b : Bool) : RowB (w.setCell ⟨g, i, none⟩ (.bool b)) g (bs.set i b) := by
 have := Loc.set h i (.bool b)
 unfold RowB
 rw [List.map_set, ← List.setIfInBounds_toArray]
 exact this
end
theorem zero_bool (w : World) : (zeroValue 4).run Tryz.prog w = .ok (.bool false) w := by
 obtain ⟨i, hi, hz0, -, -⟩ := info_parts info_bool1
 unfold zeroValue
 rw [Sem.run_bind, run_typeInfo w hi]
 simp only [Result.andThen_ok, hz0]
 rfl
theorem plainElem_bool_inv {H : Type} {v : Value} {z : DataW H × List MemPlace} (h : plainElem Tryz.prog 4 v = some z) : ∃ x : Bool, v = .bool x ∧ z = (.lit (.bool x), []) := by
 unfold plainElem at h
 rw [Tryz.underlying4] at h
 cases v with
 | bool x => exact ⟨x, rfl, by simpa using h.symm⟩
 | _ => simp at h

/-- Block b of w is a map whose values are true at the keys that f tells. -/
def MapB (w : World) (k : TypeId) (b n : Nat) (f : Lit → Prop) : Prop :=
 ∃ D : DataW Unit, w.ownsMap Tryz.prog k (plainElem Tryz.prog 4) b n D ∧ ∀ kl, WideAt.IsKeyLit kl → ∃ x : Bool, D.atKey kl (.lit (.bool false)) = .lit (.bool x) ∧ (x = true ↔ f kl)
section
variable {w w' : World} {k : TypeId} {b n : Nat} {f : Lit → Prop}
theorem MapB.lt (h : MapB w k b n f) : b < w.heap.size := by
 obtain ⟨D, hD, -⟩ := h
 exact hD.lt
theorem MapB.made (w : World) (k : TypeId) : MapB (w.alloc (.map #[] 0)) k w.heap.size 0 (fun _ => False) :=
 ⟨.map [], World.ownsMap_made w _ _ _, fun _ _ => ⟨false, rfl, by simp⟩⟩
theorem MapB.below {B : Nat} (h : MapB w k b n f) (hb : Below B w w') (hl : b < B) : MapB w' k b n f := by
 obtain ⟨D, ⟨es, clock, h1, h2, h3, h4⟩, h5⟩ := h
 exact ⟨D, ⟨es, clock, (hb.block b hl).trans h1, h2, h3, h4⟩, h5⟩
theorem MapB.far (h : MapB w k b n f) {p : Addr} (hp : b ≠ p.block) (u : Value) : MapB (w.setCell p u) k b n f := by
 obtain ⟨D, h1, h2⟩ := h
 exact ⟨D, h1.setCell hp u, h2⟩
theorem MapB.grown {row : Option Nat} (h : MapB w k b n f) (hg : w.grownBy w' row) (hne : some b ≠ row) : MapB w' k b n f := by
 obtain ⟨D, h1, h2⟩ := h
 exact ⟨D, h1.kept hg hne, h2⟩
theorem MapB.mono (h : MapB w k b n f) {n' : Nat} (hn : n ≤ n') : MapB w k b n' f := by
 obtain ⟨D, h1, h2⟩ := h
 exact ⟨D, h1.mono hn, h2⟩
theorem MapB.cong (h : MapB w k b n f) {g : Lit → Prop} (hg : ∀ kl, f kl ↔ g kl) : MapB w k b n g := by
 obtain ⟨D, h1, h2⟩ := h
 refine ⟨D, h1, fun kl hkl => ?_⟩
 obtain ⟨x, e, hx⟩ := h2 kl hkl
 exact ⟨x, e, hx.trans (hg kl)⟩
theorem MapB.ne_loc {g : Nat} {t : TypeId} {cs : Array Value} (h : MapB w k b n f) (L : Loc w g t cs) : b ≠ g := fun e => by
 obtain ⟨D, ⟨es, clock, h1, -⟩, -⟩ := h
 subst e
 unfold Loc at L
 rw [h1] at L
 injection L with L
 cases L
set_option maxRecDepth 100000 in
theorem MapB.look {t : TypeId} (h : MapB w k b n f) (K : Keyed Tryz.prog k) (ht : Tryz.prog.underlying t = some (.map k 4)) {key : Value} {kl : Lit} (hkey : keyOf Tryz.prog k key = some kl) :
 ∃ x : Bool, (Instr.lookup t (.map (some b)) key false).run Tryz.prog w = .ok (.bool x) w ∧ (x = true ↔ f kl) := by
 obtain ⟨D, hD, hf⟩ := h
 obtain ⟨v, ps, hrun, hv⟩ := hD.lookup K ht (zero_bool w) (plainElem_bool Tryz.underlying4 false) hkey
 obtain ⟨a, rfl, ha⟩ := plainElem_bool_inv hv
 have ha := congrArg Prod.fst ha
 simp only at ha
 obtain ⟨x, e, hx⟩ := hf kl (K.key hkey)
 rw [e] at ha
 injection ha with ha
 injection ha with ha
 subst ha
 exact ⟨_, hrun, hx⟩
end
/-- m[k] = true. -/
theorem wpList_putB {ops : Array Oper} {rest : List Oper} {o : Oper} {a : Act} {Q : Exit → Act → World → Prop} {k t : TypeId} {b n : Nat} {f : Lit → Prop} (w : World) (hg : o.guard = none) (m x v : Operand) (hop : o.op = Op.mapUpdate t m x v)
 (K : Keyed Tryz.prog k) (ht : Tryz.prog.underlying t = some (.map k 4)) (hm : a.eval m = .map (some b)) (hown : MapB w k b n f) (hn : n ≤ 2000000) (key : Value) (kl : Lit) (hx : a.eval x = key) (hv : a.eval v = .bool true) (hkey : keyOf Tryz.prog k key = some kl)
 (hK : ∀ w', MapB w' k b (n + 1) (fun kl' => kl' = kl ∨ f kl') → w.grownBy w' (some b) → wpList Tryz.prog ops Q rest (a.put o.dst undef) w') : wpList Tryz.prog ops Q (o :: rest) a w := by
 obtain ⟨D, hD, hf⟩ := hown
 refine wpList_mapUpdate_own w hg m x v t hop k 4 K ht _ b n D hm hD (by unfold maxLen; omega) key (.bool true) kl hx hv hkey (.lit (.bool true)) [] (plainElem_bool Tryz.underlying4 true) fun w' h1 h2 => hK w' ⟨_, h1, fun kl' hk' => ?_⟩ h2
 by_cases e : kl' = kl
 ·subst e
  exact ⟨true, by rw [atKey_put_same (World.ownsMap.tidy hD K).isMap hk'], by simp⟩
 ·obtain ⟨x, e1, hx⟩ := hf kl' hk'
  exact ⟨x, by rw [atKey_put_other e]; exact e1, by simp [e, hx]⟩

/-- A queue of integers: a list that may begin within its block, at or above base. -/
def OwnQ (w : World) (base : Nat) (v : Value) (us : List Int) : Prop :=
 (v = .slice none 0 0 ∧ us = []) ∨ ∃ g off cap cur, v = .slice (some ⟨g, off, none⟩) us.length cap ∧ base ≤ g ∧ Loc w g 3 cur ∧ us.length ≤ cap ∧ cap ≤ maxLen ∧ off + cap ≤ cur.size ∧ ∀ (i : Nat) (z : Int), us[i]? = some z → cur[off + i]? = some (.int .i64 z)
section
variable {w w' : World} {base : Nat} {v : Value} {us : List Int}
theorem OwnQ.nil (w : World) (base : Nat) : OwnQ w base (.slice none 0 0) [] := .inl ⟨rfl, rfl⟩
theorem OwnQ.op (h : OwnQ w base v us) : ∃ A c, v = .slice A us.length c := by
 rcases h with ⟨rfl, rfl⟩ | ⟨g, off, cap, cur, rfl, -⟩
 ·exact ⟨none, 0, rfl⟩
 ·exact ⟨_, _, rfl⟩
theorem OwnQ.lt (h : OwnQ w base v us) {g : Nat} (hg : v.ownBlock = some g) : g < w.heap.size ∧ base ≤ g := by
 rcases h with ⟨rfl, -⟩ | ⟨g', off, cap, cur, rfl, hb, hl, -⟩
 ·cases hg
 ·injection hg with hg; subst hg
  exact ⟨hl.lt, hb⟩
theorem OwnQ.keep {X : Nat → Prop} (h : OwnQ w base v us) (hk : Keep X w w') (hX : ∀ g, v.ownBlock = some g → ¬ X g) : OwnQ w' base v us := by
 rcases h with h | ⟨g, off, cap, cur, rfl, hb, hl, h1, h2, h3, h4⟩
 ·exact .inl h
 ·exact .inr ⟨g, off, cap, cur, rfl, hb, (hk.block g hl.lt (hX g rfl)).trans hl, h1, h2, h3, h4⟩
theorem OwnQ.below (h : OwnQ w base v us) (hb : Below w.heap.size w w') : OwnQ w' base v us := h.keep (X := fun _ => False) (.of_below hb) (fun _ _ => id)
theorem OwnQ.far {h0 : Nat} {t : TypeId} {cs : Array Value} (h : OwnQ w base v us) (L : Loc w h0 t cs) (ht : 3 ≠ t) (i : Nat) (x : Value) : OwnQ (w.setCell ⟨h0, i, none⟩ x) base v us := by
 rcases h with h | ⟨g, off, cap, cur, rfl, hb, hl, h1, h2, h3, h4⟩
 ·exact .inl h
 ·exact .inr ⟨g, off, cap, cur, rfl, hb, Loc.far hl (p := ⟨h0, i, none⟩) (loc_ne hl L ht) x, h1, h2, h3, h4⟩
theorem OwnQ.head {A : Option Addr} {n c : Nat} {z : Int} (h : OwnQ w base (.slice A n c) us) (hz : us[0]? = some z) : ∃ a : Addr, A = some a ∧ w.cell? a = some (.int .i64 z) := by
 rcases h with ⟨h0, rfl⟩ | ⟨g, off, cap, cur, e, hb, hl, h1, h2, h3, h4⟩
 ·cases hz
 ·injection e with e1 e2 e3
  refine ⟨_, e1, ?_⟩
  rw [Loc.cell hl]
  exact h4 0 z hz
end
/-- One number appended to a queue. -/
theorem wpList_pushQ {ops : Array Oper} {rest : List Oper} {o : Oper} {a : Act} {Q : Exit → Act → World → Prop} (w : World) (hgd : o.guard = none) (s x : Operand) (ho : o.op = .call { callee := .builtin .append, args := #[s, x], argTypes := #[27, 27] })
 (base : Nat) (v : Value) (us : List Int) (hs : a.eval s = v) (hown : OwnQ w base v us) (H : Nat) (z : Int) (hx : a.eval x = .slice (some ⟨H, 0, none⟩) 1 1) (hH : Loc w H 3 #[.int .i64 z])
 (m : Nat) (hm : us.length = m) (hn : m ≤ 100000) (hbase : base ≤ w.heap.size)
 (h : ∀ A' c' w', OwnQ w' base (.slice A' (m + 1) c') (us ++ [z]) → w.grownBy w' v.ownBlock → ((Value.slice A' (m + 1) c').ownBlock = v.ownBlock ∨ (Value.slice A' (m + 1) c').ownBlock = some w.heap.size) → wpList Tryz.prog ops Q rest (a.put o.dst (.slice A' (m + 1) c')) w') : wpList Tryz.prog ops Q (o :: rest) a w := by
 subst hm
 refine wpList_plain hgd fun K hK => ?_
 obtain ⟨i, hi, hz0, hz1, hz2⟩ := info_parts info_int1
 have hnews : ∀ (j : Nat) (u : Value), [Value.int .i64 z][j]? = some u → w.cell? ((⟨H, 0, none⟩ : Addr).add j) = some u := fun j u hu => World.news_of_block hH j u (by simpa using hu)
 have key : ∃ v' w', (Builtin.append_ #[27, 27] o.type #[v, .slice (some ⟨H, 0, none⟩) 1 1]).run Tryz.prog w = .ok v' w' ∧ OwnQ w' base v' (us ++ [z]) ∧ w.grownBy w' v.ownBlock ∧ (v'.ownBlock = v.ownBlock ∨ v'.ownBlock = some w.heap.size) := by
  have fresh : ∀ (v' : Value) (w' : World), w'.ownsRow w.heap.size 3 1 v' (us.length + 1) (us.map (Value.int .i64) ++ [.int .i64 z]) → OwnQ w' base v' (us ++ [z]) := fun v' w' hr => by
   rcases hr.2 with ⟨-, h'⟩ | ⟨g, cap, cur, rfl, h1, h2, h3, h4, h5, h6⟩
   ·omega
   ·refine .inr ⟨g, 0, cap, cur, by simp, by omega, h2, by simpa using h3, h4, by omega, fun j y hy => ?_⟩
    have hj := (List.getElem?_eq_some_iff.1 hy).1
    have h7 : (cur.toList.take ((us.length + 1) * 1))[j]? = some (.int .i64 y) := by
     rw [h6, show us.map (Value.int .i64) ++ [Value.int .i64 z] = (us ++ [z]).map (Value.int .i64) by simp, List.getElem?_map, hy]
     rfl
    rw [List.getElem?_take_of_lt (by simp at hj; omega)] at h7
    simpa using h7
  rcases hown with ⟨rfl, rfl⟩ | ⟨g, off, cap, cur, rfl, hb, hl, h1, h2, h3, h4⟩
  ·obtain ⟨v', w', hr, q1, q2, q3⟩ := run_append_own (P := Tryz.prog) w w.heap.size 27 o.type 3 i _ 1 8 Tryz.underlying27 hi hz0 hz1 hz2 rfl (by decide) (.slice none 0 0) 0 [] (World.ownsRow_nil w _ _ _) ⟨H, 0, none⟩ 1 1 [.int .i64 z] rfl hnews (by simp [Value.oneCell']) (by unfold maxLen; omega) (by omega) (Nat.le_refl _)
   refine ⟨v', w', hr, fresh v' w' (by simpa using q1), q2, .inr ?_⟩
   rcases q1.2 with ⟨-, h'⟩ | ⟨g, cap, cur, rfl, h5, h6, -⟩
   ·omega
   ·have hlt := (Array.getElem?_eq_some_iff.1 h6).1
    show some g = some w.heap.size
    exact congrArg some (by
     have := run_append_nil (P := Tryz.prog) w 27 o.type 3 i _ Tryz.underlying27 hi hz0 ⟨H, 0, none⟩ 1 1 [.int .i64 z] (by rw [hz1]; rfl) hnews (by decide) (by decide) (by rw [hz2]; decide)
     rw [this] at hr
     injection hr with e1 e2
     injection e1 with e1
     injection e1 with e1
     injection e1 with e1
     exact e1.symm)
  ·by_cases hroom : us.length + 1 ≤ cap
   ·have hsome : ∀ j, j < [Value.int .i64 z].length → (w.cell? ⟨g, off + us.length * i.size + j, none⟩).isSome = true := fun j hj => by
     rw [Loc.cell hl, hz1, Array.getElem?_eq_getElem (by simp at hj; omega)]
     rfl
    have hr := run_append_room_cells (P := Tryz.prog) w 27 o.type 3 i Tryz.underlying27 hi g off us.length cap ⟨H, 0, none⟩ 1 1 [.int .i64 z] (by rw [hz1]; rfl) hnews (by simp [Value.oneCell']) hroom hsome (fun j hj => Loc.frz hl _)
    refine ⟨_, _, hr, ?_, ?_, .inl rfl⟩
    ·refine .inr ⟨g, off, cap, cur.setIfInBounds (off + us.length) (.int .i64 z), by simp, hb, ?_, by simp; omega, h2, by simpa using h3, fun j y hy => ?_⟩
     ·have h5 := Loc.set hl (off + us.length) (.int .i64 z)
      rw [hz1, Nat.mul_one]
      exact h5
     ·by_cases e : j = us.length
      ·subst e
       rw [List.getElem?_append_right (Nat.le_refl _), Nat.sub_self] at hy
       injection hy with hy
       subst hy
       rw [Array.getElem?_setIfInBounds_self_of_lt (by omega)]
      ·have hj := (List.getElem?_eq_some_iff.1 hy).1
       simp at hj
       rw [List.getElem?_append_left (by omega)] at hy
       rw [Array.getElem?_setIfInBounds_ne (by omega)]
       exact h4 j y hy
    ·rw [hz1, Nat.mul_one]
     show w.grownBy (w.setCell ⟨g, off + us.length, none⟩ (.int .i64 z)) (some g)
     exact grown_set ⟨rfl, rfl, rfl, Nat.le_refl _, fun _ _ _ => rfl⟩ _ _
   ·obtain ⟨v', w', hr, q1, q2⟩ := run_append_arg_grows (P := Tryz.prog) w 27 o.type 3 i _ 1 8 Tryz.underlying27 hi hz0 hz1 hz2 rfl (by decide) ⟨g, off, none⟩ us.length cap (us.map (Value.int .i64)) (by simp) (fun j u hu => by
     rw [List.getElem?_map, Option.map_eq_some_iff] at hu
     obtain ⟨y, hy, rfl⟩ := hu
     rw [Addr.add_lit, Loc.cell hl]
     exact h4 j y hy) ⟨H, 0, none⟩ 1 1 [.int .i64 z] rfl hnews (by omega) (by unfold maxLen; omega) (by omega)
    refine ⟨v', w', hr, fresh v' w' q1, ⟨q2.os, q2.tape, q2.output, q2.size, fun k hk _ => q2.block k hk (by simp)⟩, .inr ?_⟩
    rcases q1.2 with ⟨-, h'⟩ | ⟨g', cap', cur', rfl, h5, h6, -⟩
    ·omega
    ·have := run_append_grow (P := Tryz.prog) w 27 o.type 3 i _ Tryz.underlying27 hi hz0 ⟨g, off, none⟩ us.length cap (us.map (Value.int .i64)) (by rw [hz1]; simp) (fun j u hu => by
      rw [List.getElem?_map, Option.map_eq_some_iff] at hu
      obtain ⟨y, hy, rfl⟩ := hu
      rw [Addr.add_lit, Loc.cell hl]
      exact h4 j y hy) ⟨H, 0, none⟩ 1 1 [.int .i64 z] (by rw [hz1]; rfl) hnews (by omega) (by omega) (growslice_fits (by omega) (by rw [hz2]; omega))
     rw [this] at hr
     injection hr with e1 e2
     injection e1 with e1
     injection e1 with e1
     injection e1 with e1
     show some g' = some w.heap.size
     rw [e1]
 obtain ⟨v', w', hr, h2, h3, h4⟩ := key
 obtain ⟨A', c', e'⟩ := h2.op
 rw [List.length_append, List.length_singleton] at e'
 subst e'
 unfold Oper.wp execOp
 simp only [ho, resolve, invoke, builtin, Sem.run_bind, Sem.run_pure, Result.andThen_ok, List.map_toArray, List.map_cons, List.map_nil, hs, hx, hr]
 exact hK _ _ (h A' c' w' h2 h3 h4)
/-- The first number of a queue is dropped. -/
theorem run_popQ {w : World} {base : Nat} {v : Value} {z : Int} {us : List Int} (hown : OwnQ w base v (z :: us)) : ∃ v', (Instr.slice 27 v (some (.int .i64 1)) none none).run Tryz.prog w = .ok v' w ∧ OwnQ w base v' us ∧ v'.ownBlock = v.ownBlock := by
 rcases hown with ⟨-, h⟩ | ⟨g, off, cap, cur, rfl, hb, hl, h1, h2, h3, h4⟩
 ·cases h
 ·obtain ⟨i, hi, hz0, hz1, hz2⟩ := info_parts info_int1
  simp only [List.length_cons] at h1 ⊢
  refine ⟨.slice (some (if cap = 1 then ⟨g, off, none⟩ else ⟨g, off + 1, none⟩)) us.length (cap - 1), ?_, ?_, ?_⟩
  ·have hb1 : (1 : Int) ≤ (us.length : Int) + 1 := by omega
   simp [Instr.slice, run_underlying Tryz.underlying27, Instr.sliceBounds, Instr.sliceBound, asIntOf, Go.sizeOf, typeInfo, hi, hz1, hb1]
   by_cases hc : cap = 1
   ·rw [if_pos hc, if_pos hc]
   ·rw [if_neg hc, if_neg hc, Addr.add_lit]
  ·by_cases hc : cap = 1
   ·subst hc
    have : us = [] := List.eq_nil_of_length_eq_zero (by omega)
    subst this
    rw [if_pos rfl]
    exact .inr ⟨g, off, 0, cur, rfl, hb, hl, Nat.le_refl _, Nat.zero_le _, by omega, fun j y hy => by cases hy⟩
   ·rw [if_neg hc]
    exact .inr ⟨g, off + 1, cap - 1, cur, rfl, hb, hl, by omega, by omega, by omega, fun j y hy => by
     have := h4 (j + 1) y hy
     rw [show off + 1 + j = off + (j + 1) by omega]
     exact this⟩
  ·split <;> rfl
theorem wpList_popQ {ops : Array Oper} {rest : List Oper} {o : Oper} {a : Act} {Q : Exit → Act → World → Prop} (w : World) (hg : o.guard = none) (s : Operand) (hop : o.op = Op.slice 27 s (some (.const (.int .i64 1))) none none)
 (base : Nat) (v : Value) (z : Int) (us : List Int) (hs : a.eval s = v) (hown : OwnQ w base v (z :: us)) (m : Nat) (hm : us.length = m)
 (hK : ∀ A c, OwnQ w base (.slice A m c) us → (Value.slice A m c).ownBlock = v.ownBlock → wpList Tryz.prog ops Q rest (a.put o.dst (.slice A m c)) w) : wpList Tryz.prog ops Q (o :: rest) a w := by
 subst hm
 obtain ⟨v', hrun, h1, h2⟩ := run_popQ hown
 obtain ⟨A, c, rfl⟩ := h1.op
 refine wpList_plain hg fun K' hK' => ?_
 have hc : a.eval (.const (.int .i64 1)) = .int .i64 1 := rfl
 have hrun2 : (Instr.sliceAt 27 v (some (.int .i64 1)) none none).run Tryz.prog w = .ok (.slice A us.length c) w := by
  unfold Instr.sliceAt
  rw [Sem.run_bind, run_underlying Tryz.underlying27]
  exact hrun
 unfold Oper.wp
 simp [execOp, hop, hs, hc, hrun2, Result.andThen]
 exact hK' _ _ (hK A c h1 h2)
/-- What is known of a block of two cells. -/
theorem Loc.two {w : World} {g : Nat} {t : TypeId} {a b : Value} (L : Loc w g t #[a, b]) : (w.cell? ⟨g, 0, none⟩ = some a ∧ w.cell? ⟨g, 1, none⟩ = some b) ∧ (∀ i, w.frozen? ⟨g, i, none⟩ = false) ∧ g < w.heap.size := ⟨⟨Loc.cell L 0, Loc.cell L 1⟩, Loc.frz L, Loc.lt L⟩
/-- A block that does not grow stays. -/
theorem loc_past {w w' : World} {g : Nat} {t : TypeId} {cs : Array Value} {row : Option Nat} (L : Loc w g t cs) (hg : w.grownBy w' row) (hne : some g ≠ row) : Loc w' g t cs := (hg.block g L.lt hne).trans L
/-- A block below a bound stays. -/
theorem Loc.under {w w' : World} {B g : Nat} {t : TypeId} {cs : Array Value} (h : Loc w g t cs) (hb : Below B w w') (hl : g < B) : Loc w' g t cs := (hb.block g hl).trans h
end Go.Proofs.YtbdcjhoedhhabaaGreat

/- checker.menu. -/
namespace Go.Proofs.YtbdcjhoedhhabaaGreat
open Go.RowKit
attribute [local go_sem ↓] Go.wp_at_zero Go.wp_at_succ
attribute [local go_sem] run_max2

end Go.Proofs.YtbdcjhoedhhabaaGreat

