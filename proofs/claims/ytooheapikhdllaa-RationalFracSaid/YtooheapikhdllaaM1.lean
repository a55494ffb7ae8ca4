/- Contracts of the functions that the statements reach, part 1. -/
import Derived.WalkKit
import Derived.WalkSpells
import Derived.WalkLawsBesides
import Derived.Lib.Hide
import Derived.Deep.AppendLies
import Derived.Deep.Draws
import Derived.Test.YtooheapikhdllaaRows
import Derived.Laws.BitsAllLaws
import Derived.Deep.QuietTactic
import Derived.BigQuiet
import Derived.Lib.EndianBits
set_option linter.unusedSimpArgs false
set_option linter.unusedVariables false

/- Plain words for memory: a slice that reads as a list of cells, apart from the excluded blocks X; how it is kept while the world changes. No program in sight. -/
namespace Go.Proofs.Ytooheapikhdllaa
open Go.RowKit

theorem addr_block (a : Addr) (n : Nat) : (a.add n).block = a.block := by unfold Addr.add; split <;> rfl
theorem addr_add_add (a : Addr) (i j : Nat) : (a.add i).add j = a.add (i + j) := by
  unfold Addr.add
  by_cases hi : i = 0 <;> by_cases hj : j = 0 <;> simp [hi, hj, Nat.add_assoc]
theorem addr_zero (a : Addr) : a.add 0 = a := by simp [Addr.add]

theorem addr_one (a : Addr) : a.add 1 = { block := a.block, off := a.off + 1, spot := none } := by simp [Addr.add]

/-- w' is w with new blocks, and with changes in the blocks X alone. -/
structure Keep (X : Nat → Prop) (w w' : World) : Prop where
  size : w.heap.size ≤ w'.heap.size
  block : ∀ b, b < w.heap.size → ¬ X b → w'.heap[b]? = w.heap[b]?

section
variable {X Y : Nat → Prop} {w w' w'' : World}
theorem Keep.refl (X : Nat → Prop) (w : World) : Keep X w w := ⟨Nat.le_refl _, fun _ _ _ => rfl⟩
theorem Keep.trans (h : Keep X w w') (k : Keep X w' w'') : Keep X w w'' :=
  ⟨Nat.le_trans h.size k.size, fun b hb hx => (k.block b (Nat.lt_of_lt_of_le hb h.size) hx).trans (h.block b hb hx)⟩
theorem Keep.of_below (h : Below w.heap.size w w') : Keep X w w' := ⟨h.size, fun b hb _ => h.block b hb⟩
theorem Keep.below (k : Keep X w w') (h : Below w'.heap.size w' w'') : Keep X w w'' := k.trans (.of_below h)
theorem Keep.alloc (k : Keep X w w') (o : Obj) : Keep X w (w'.alloc o) := k.below ((Below.refl _ _).alloc (Nat.le_refl _) o)
theorem Keep.drew (k : Keep X w w') : Keep X w w'.drew := ⟨k.size, k.block⟩
theorem Keep.set (k : Keep X w w') {p : Addr} (hp : X p.block ∨ w.heap.size ≤ p.block) (u : Value) : Keep X w (w'.setCell p u) :=
  ⟨by simpa [World.setCell] using k.size, fun b hb hx => (Below.heap_setCell w' p u b (by rintro rfl; rcases hp with h | h; exact hx h; omega)).trans (k.block b hb hx)⟩
theorem Keep.grown (k : Keep X w w') {row : Option Nat} (hg : w'.grownBy w'' row) (hr : ∀ g, row = some g → X g ∨ w.heap.size ≤ g) : Keep X w w'' :=
  ⟨Nat.le_trans k.size hg.size, fun b hb hx => (hg.block b (Nat.lt_of_lt_of_le hb k.size) (fun e => by
    rcases hr b e.symm with h | h
    · exact hx h
    · omega)).trans (k.block b hb hx)⟩
theorem Keep.weak (h : Keep X w w') (hY : ∀ b, b < w.heap.size → X b → Y b) : Keep Y w w' := ⟨h.size, fun b hb hy => h.block b hb (fun hx => hy (hY b hb hx))⟩
end

/-- The slice value v has n elements of sz cells each; its cells read as cs; they lie in no block of X. -/
def Sl (w : World) (X : Nat → Prop) (sz : Nat) (v : Value) (n : Nat) (cs : List Value) : Prop :=
  ∃ A c, v = .slice A n c ∧ n ≤ c ∧ c ≤ maxLen ∧ cs.length = n * sz ∧
    (0 < n → ∃ a, A = some a ∧ a.block < w.heap.size ∧ ¬ X a.block ∧ ∀ j u, cs[j]? = some u → w.cell? (a.add j) = some u)

section
variable {X Y : Nat → Prop} {w w' : World} {sz n : Nat} {v : Value} {cs : List Value}

theorem Sl.keep (h : Sl w X sz v n cs) (hk : Keep X w w') : Sl w' X sz v n cs := by
  obtain ⟨A, c, hv, h1, h2, h3, h4⟩ := h
  refine ⟨A, c, hv, h1, h2, h3, fun hn => ?_⟩
  obtain ⟨a, hA, hlt, hx, hc⟩ := h4 hn
  exact ⟨a, hA, Nat.lt_of_lt_of_le hlt hk.size, hx, fun j u hu => (World.cell?_of_block (by rw [addr_block]; exact hk.block _ hlt hx)).trans (hc j u hu)⟩

theorem Sl.below (h : Sl w X sz v n cs) (hb : Below w.heap.size w w') : Sl w' X sz v n cs := h.keep (.of_below hb)

theorem Sl.weak (h : Sl w X sz v n cs) (hY : ∀ b, b < w.heap.size → Y b → X b) : Sl w Y sz v n cs := by
  obtain ⟨A, c, hv, h1, h2, h3, h4⟩ := h
  refine ⟨A, c, hv, h1, h2, h3, fun hn => ?_⟩
  obtain ⟨a, hA, hlt, hx, hc⟩ := h4 hn
  exact ⟨a, hA, hlt, fun hy => hx (hY _ hlt hy), hc⟩

theorem Sl.of_own {base : Nat} {e : TypeId} (h : w.ownsRow base e sz v n cs) (hX : ∀ b, base ≤ b → b < w.heap.size → v.ownBlock = some b → ¬ X b) : Sl w X sz v n cs := by
  have hl := h.1
  rcases h.2 with ⟨rfl, rfl⟩ | ⟨g, cap, cur, rfl, hbg, hg, hnc, hcm, _⟩
  · exact ⟨none, 0, rfl, Nat.le_refl _, by unfold maxLen; omega, hl, fun h => absurd h (by omega)⟩
  · exact ⟨some ⟨g, 0, none⟩, cap, rfl, hnc, hcm, hl, fun _ => ⟨_, rfl, (Array.getElem?_eq_some_iff.1 hg).1, hX g hbg (Array.getElem?_eq_some_iff.1 hg).1 rfl, h.cells rfl⟩⟩

theorem Sl.nil (w : World) (X : Nat → Prop) (sz : Nat) : Sl w X sz (.slice none 0 0) 0 [] := ⟨none, 0, rfl, Nat.le_refl _, by unfold maxLen; omega, by simp, fun h => absurd h (by omega)⟩

theorem Sl.take {A : Option Addr} {c : Nat} (h : Sl w X sz (.slice A n c) n cs) {k : Nat} (hk : k ≤ n) : Sl w X sz (.slice A k c) k (cs.take (k * sz)) := by
  obtain ⟨A', c', hv, h1, h2, h3, h4⟩ := h
  injection hv with e1 e2 e3
  subst e1 e3
  refine ⟨A, c, rfl, by omega, h2, ?_, fun hn => ?_⟩
  · rw [List.length_take, h3]
    exact Nat.min_eq_left (Nat.mul_le_mul_right _ hk)
  · obtain ⟨a, hA, hlt, hx, hc⟩ := h4 (by omega)
    refine ⟨a, hA, hlt, hx, fun j u hu => hc j u ?_⟩
    rw [List.getElem?_take] at hu
    split at hu
    · exact hu
    · cases hu

theorem Sl.drop {A : Option Addr} {c : Nat} (h : Sl w X sz (.slice A n c) n cs) {k : Nat} (hk : k ≤ n) :
    Sl w X sz (.slice (if c = k then A else A.map (·.add (k * sz))) (n - k) (c - k)) (n - k) (cs.drop (k * sz)) := by
  obtain ⟨A', c', hv, h1, h2, h3, h4⟩ := h
  injection hv with e1 e2 e3
  subst e1 e3
  refine ⟨_, _, rfl, by omega, by omega, ?_, fun hn => ?_⟩
  · rw [List.length_drop, h3, Nat.sub_mul]
  · obtain ⟨a, hA, hlt, hx, hc⟩ := h4 (by omega)
    subst hA
    rw [if_neg (by omega)]
    refine ⟨_, rfl, by rw [addr_block]; exact hlt, by rw [addr_block]; exact hx, fun j u hu => ?_⟩
    rw [addr_add_add]
    exact hc _ u (by rw [← hu, List.getElem?_drop])

theorem Sl.open_ (h : Sl w X sz v n cs) : ∃ A c, v = .slice A n c ∧ n ≤ c ∧ c ≤ maxLen ∧ Sl w X sz (.slice A n c) n cs := by
  obtain ⟨A, c, hv, h1, h2, h3, h4⟩ := h
  exact ⟨A, c, hv, h1, h2, A, c, rfl, h1, h2, h3, h4⟩

/-- Cells of a slice. -/
theorem Sl.at_ {A : Option Addr} {c : Nat} (h : Sl w X sz (.slice A n c) n cs) (hn : 0 < n) : ∃ a, A = some a ∧ a.block < w.heap.size ∧ ¬ X a.block ∧ ∀ j, j < n * sz → w.cell? (a.add j) = cs[j]? := by
  obtain ⟨A', c', hv, h1, h2, h3, h4⟩ := h
  injection hv with e1 e2 e3
  subst e1 e3
  obtain ⟨a, hA, hlt, hx, hc⟩ := h4 hn
  refine ⟨a, hA, hlt, hx, fun j hj => ?_⟩
  have hl : j < cs.length := by omega
  rw [List.getElem?_eq_getElem hl]
  exact hc j _ (List.getElem?_eq_getElem hl)
end

/-- The cells of numbers of one kind. -/
def nums (k : IntKind) (xs : List Nat) : List Value := xs.map fun x : Nat => Value.int k (x : Int)

@[simp] theorem nums_nil (k : IntKind) : nums k [] = [] := rfl
@[simp] theorem nums_length (k : IntKind) (xs : List Nat) : (nums k xs).length = xs.length := by simp [nums]
theorem nums_get {k : IntKind} {xs : List Nat} {i : Nat} (h : i < xs.length) : (nums k xs)[i]? = some (.int k ((xs[i] : Nat) : Int)) := by simp [nums, h]
theorem nums_take (k : IntKind) (xs : List Nat) (n : Nat) : (nums k xs).take n = nums k (xs.take n) := by simp [nums, List.map_take]
theorem nums_drop (k : IntKind) (xs : List Nat) (n : Nat) : (nums k xs).drop n = nums k (xs.drop n) := by simp [nums, List.map_drop]
theorem nums_append (k : IntKind) (xs ys : List Nat) : nums k xs ++ nums k ys = nums k (xs ++ ys) := by simp [nums]
theorem nums_set (k : IntKind) (xs : List Nat) (i : Nat) (y : Nat) : (nums k xs).set i (.int k (y : Int)) = nums k (xs.set i y) := by simp [nums, List.map_set]
theorem nums_replicate (k : IntKind) (n x : Nat) : nums k (List.replicate n x) = List.replicate n (.int k (x : Int)) := by simp [nums]
theorem nums_zeros (k : IntKind) (n : Nat) : List.replicate n (Value.int k 0) = nums k (List.replicate n 0) := by simp [nums]
theorem nums_snoc (k : IntKind) (xs : List Nat) (y : Nat) : nums k xs ++ [.int k (y : Int)] = nums k (xs ++ [y]) := by simp [nums]
theorem nums_snoc' (k : IntKind) (xs : List Nat) (z : Int) (y : Nat) (h : z = (y : Int)) : nums k xs ++ [.int k z] = nums k (xs ++ [y]) := by rw [h, nums_snoc]
theorem nums_one (k : IntKind) (xs : List Nat) : ∀ u ∈ nums k xs, u.oneCell' = true := by
  intro u hu
  obtain ⟨_, _, rfl⟩ := List.mem_map.1 hu
  rfl

/-- A []uint32 that reads as the list xs. -/
def Words (w : World) (X : Nat → Prop) (v : Value) (xs : List Nat) : Prop := Sl w X 1 v xs.length (nums .u32 xs) ∧ ∀ x ∈ xs, x < 4294967296

/-- What was made behind w: in no block that w has. -/
def Old (w : World) : Nat → Prop := fun b => b < w.heap.size

section
variable {X Y : Nat → Prop} {w w' : World} {v : Value} {xs : List Nat}
theorem Words.keep (h : Words w X v xs) (hk : Keep X w w') : Words w' X v xs := ⟨h.1.keep hk, h.2⟩
theorem Words.below (h : Words w X v xs) (hb : Below w.heap.size w w') : Words w' X v xs := ⟨h.1.below hb, h.2⟩
theorem Words.weak (h : Words w X v xs) (hY : ∀ b, b < w.heap.size → Y b → X b) : Words w Y v xs := ⟨h.1.weak hY, h.2⟩
theorem Words.drewN (h : Words w X v xs) (n : Nat) : Words (w.drewN n) X v xs := h
theorem Words.drew (h : Words w X v xs) : Words w.drew X v xs := h
theorem Words.open_ (h : Words w X v xs) : ∃ A c, v = .slice A xs.length c ∧ xs.length ≤ c ∧ c ≤ maxLen ∧ Words w X (.slice A xs.length c) xs := by
  obtain ⟨A, c, hv, h1, h2, h3⟩ := h.1.open_
  exact ⟨A, c, hv, h1, h2, h3, h.2⟩
theorem Words.nil (w : World) (X : Nat → Prop) : Words w X (.slice none 0 0) [] := ⟨by simpa [nums] using Sl.nil w X 1, by simp⟩
theorem Words.at_ {A : Option Addr} {n c : Nat} (h : Words w X (.slice A n c) xs) {k : Nat} (hk : k < xs.length) :
    ∃ a, A = some a ∧ a.block < w.heap.size ∧ ¬ X a.block ∧ w.cell? (a.add k) = some (.int .u32 ((xs[k] : Nat) : Int)) := by
  obtain ⟨A', c', hv, _, _, H⟩ := h.open_
  injection hv with e1 e2 e3
  subst e1 e2 e3
  obtain ⟨a, hA, hlt, hx, hc⟩ := H.1.at_ (by omega)
  exact ⟨a, hA, hlt, hx, (hc k (by omega)).trans (nums_get hk)⟩
theorem Words.take {A : Option Addr} {c : Nat} (h : Words w X (.slice A xs.length c) xs) {k : Nat} (hk : k ≤ xs.length) : Words w X (.slice A k c) (xs.take k) := by
  have e : (xs.take k).length = k := by rw [List.length_take]; omega
  refine ⟨?_, fun x hx => h.2 x (List.mem_of_mem_take hx)⟩
  have := h.1.take hk
  rw [Nat.mul_one, nums_take] at this
  rw [e]
  exact this
theorem Words.drop {A : Option Addr} {c : Nat} (h : Words w X (.slice A xs.length c) xs) {k : Nat} (hk : k ≤ xs.length) : Words w X (.slice (if c = k then A else A.map (·.add k)) (xs.length - k) (c - k)) (xs.drop k) := by
  have e : (xs.drop k).length = xs.length - k := List.length_drop
  refine ⟨?_, fun x hx => h.2 x (List.mem_of_mem_drop hx)⟩
  have := h.1.drop hk
  simp only [Nat.mul_one, nums_drop] at this
  rw [e]
  exact this
theorem Words.of_own {base : Nat} {e : TypeId} (h : w.ownsRow base e 1 v xs.length (nums .u32 xs)) (hx : ∀ x ∈ xs, x < 4294967296) (hX : ∀ b, base ≤ b → b < w.heap.size → v.ownBlock = some b → ¬ X b) : Words w X v xs := ⟨Sl.of_own h hX, hx⟩
theorem Words.news {a : Addr} {n c : Nat} (h : Words w X (.slice (some a) n c) xs) : ∀ j u, (nums .u32 xs)[j]? = some u → w.cell? (a.add j) = some u := by
  intro j u hu
  have hj : j < xs.length := by have := (List.getElem?_eq_some_iff.1 hu).1; simpa using this
  obtain ⟨a', e, _, _, hc⟩ := h.at_ hj
  injection e with e
  subst e
  rw [nums_get hj] at hu
  rw [hc]
  exact hu
theorem Words.lt_max (h : Words w X v xs) : xs.length ≤ 9223372036854775807 := by
  obtain ⟨_, _, _, h1, h2, _⟩ := h.1
  unfold maxLen at h2
  omega
theorem Words.lt (h : Words w X v xs) {i : Nat} (hi : i < xs.length) : xs[i] < 4294967296 := h.2 _ (List.getElem_mem hi)
end

/-- Block g is just the cells cs. -/
def Loc (w : World) (g : Nat) (t : TypeId) (cs : Array Value) : Prop := w.heap[g]? = some (.cells cs t (0, 0))
section
variable {w w' : World} {g : Nat} {t : TypeId} {cs : Array Value}
theorem Loc.cell (h : Loc w g t cs) : ∀ i, w.cell? ⟨g, i, none⟩ = cs[i]? := fun i => cell_of_row w g i cs t (0, 0) h
theorem Loc.frz (h : Loc w g t cs) : ∀ i, w.frozen? ⟨g, i, none⟩ = false := fun i => frozen_of_row w g i cs t h
theorem Loc.lt (h : Loc w g t cs) : g < w.heap.size := (Array.getElem?_eq_some_iff.1 h).1
theorem Loc.below (h : Loc w g t cs) (hb : Below w.heap.size w w') : Loc w' g t cs := (hb.block g h.lt).trans h
theorem Loc.below' {B : Nat} (h : Loc w g t cs) (hb : Below B w w') (hg : g < B) : Loc w' g t cs := (hb.block g hg).trans h
theorem Loc.keep {X : Nat → Prop} (h : Loc w g t cs) (hb : Keep X w w') (hx : ¬ X g) : Loc w' g t cs := (hb.block g h.lt hx).trans h
theorem Loc.new (w : World) (cs : Array Value) (t : TypeId) : Loc (w.alloc (.cells cs t)) w.heap.size t cs := heap_alloc_new w _
theorem Loc.alloc (h : Loc w g t cs) (o : Obj) : Loc (w.alloc o) g t cs := h.below ((Below.refl _ _).alloc (Nat.le_refl _) o)
theorem Loc.drew (h : Loc w g t cs) : Loc w.drew g t cs := h
theorem Loc.set (h : Loc w g t cs) (i : Nat) (u : Value) : Loc (w.setCell ⟨g, i, none⟩ u) g t (cs.setIfInBounds i u) := by
  unfold Loc at h ⊢
  simp [World.setCell, Array.getElem?_modify, h]
theorem Loc.far (h : Loc w g t cs) {p : Addr} (hp : g ≠ p.block) (u : Value) : Loc (w.setCell p u) g t cs := (Below.heap_setCell w p u g hp).trans h
end

/-! ### Laws of the walk for rows of one-cell elements, said with few words -/
section
variable {P : Program} {ops : Array Oper} {rest : List Oper} {o : Oper} {a : Act} {Q : Exit → Act → World → Prop} {t e : TypeId} {z : Value} {bytes : Nat}

/-- append(out, u), out nil or the call's own, u laid in block H. -/
theorem wpList_push (w : World) (hgd : o.guard = none) (s x : Operand) (ho : o.op = .call { callee := .builtin .append, args := #[s, x], argTypes := #[t, t] })
    (ht : P.underlying t = some (.slice e)) (hE : (P.info? e).map (fun i => (i.zero, i.size, i.bytes)) = some (some z, 1, bytes)) (hzs : z.cells.size = 1)
    (base : Nat) (v : Value) (n : Nat) (xs : List Value) (hs : a.eval s = v) (hown : w.ownsRow base e 1 v n xs)
    (H : Nat) (u : Value) (hx : a.eval x = .slice (some ⟨H, 0, none⟩) 1 1) (hH : w.heap[H]? = some (.cells #[u] e (0, 0))) (hu : u.oneCell' = true)
    (hn : (n + 1) * bytes ≤ 140737488355328) (hm : n + 1 ≤ maxLen) (hbase : base ≤ w.heap.size)
    (h : ∀ v' w', w'.ownsRow base e 1 v' (n + 1) (xs ++ [u]) → w.grownBy w' v.ownBlock → (v'.ownBlock = v.ownBlock ∨ v'.ownBlock = some w.heap.size) → wpList P ops Q rest (a.put o.dst v') w') : wpList P ops Q (o :: rest) a w := by
  obtain ⟨i, hi, hz0, hz1, hz2⟩ := info_parts hE
  refine wpList_append_lies w hgd s x t ho base e i z 1 bytes ht hi hz0 hz1 hz2 hzs (by omega) v n xs hs hown ⟨H, 0, none⟩ 1 1 [u] hx (by simp) (fun j u' hu' => World.news_of_block hH j u' (by simpa using hu')) (by simpa using hu) (by omega) hm hn hbase _ rfl ?_
  intro g cap w' h1 h2 h3 h4
  refine h _ w' h1 h2 ?_
  rcases h3 with h3 | h3
  · exact .inl (by rw [h3]; rfl)
  · exact .inr (by rw [← h3]; rfl)

/-- make([]T, n): n zero elements. -/
theorem wpList_makeN (w : World) (hgd : o.guard = none) (l c : Operand) (ho : o.op = Op.makeSlice t l c)
    (ht : P.underlying t = some (.slice e)) (hE : (P.info? e).map (fun i => (i.zero, i.size, i.bytes)) = some (some z, 1, bytes)) (hzs : z.cells = #[z])
    (base : Nat) {kl kc : IntKind} {L C : Int} (n : Nat) (hl : a.eval l = .int kl L) (hc : a.eval c = .int kc C) (hL : L = (n : Int)) (hC : C = (n : Int)) (hb : bytes * n ≤ 281474976710656) (hm : n ≤ maxLen) (hbase : base ≤ w.heap.size)
    (h : ∀ w', w'.ownsRow base e 1 (.slice (some ⟨w.heap.size, 0, none⟩) n n) n (List.replicate n z) → w.grownBy w' none → wpList P ops Q rest (a.put o.dst (.slice (some ⟨w.heap.size, 0, none⟩) n n)) w') : wpList P ops Q (o :: rest) a w := by
  obtain ⟨i, hi, hz0, hz1, hz2⟩ := info_parts hE
  refine wpList_make_full w hgd l c t ho base e i z 1 ht hi hz0 hz1 kl kc L C n hl hc hL hC (by rw [hz2]; exact hb) hm hbase fun w' h1 h2 => h w' ?_ h2
  rw [hzs, toList_madeCells_one, Nat.mul_one] at h1
  exact h1

/-- make([]T, 0, n). -/
theorem wpList_make0 (w : World) (hgd : o.guard = none) (l c : Operand) (ho : o.op = Op.makeSlice t l c)
    (ht : P.underlying t = some (.slice e)) (hE : (P.info? e).map (fun i => (i.zero, i.size, i.bytes)) = some (some z, 1, bytes))
    (base : Nat) {kl kc : IntKind} {C : Int} (n : Nat) (hl : a.eval l = .int kl 0) (hc : a.eval c = .int kc C) (hC : C = (n : Int)) (hb : bytes * n ≤ 281474976710656) (hm : n ≤ maxLen) (hbase : base ≤ w.heap.size)
    (h : ∀ w', w'.ownsRow base e 1 (.slice (some ⟨w.heap.size, 0, none⟩) 0 n) 0 [] → w.grownBy w' none → wpList P ops Q rest (a.put o.dst (.slice (some ⟨w.heap.size, 0, none⟩) 0 n)) w') : wpList P ops Q (o :: rest) a w := by
  obtain ⟨i, hi, hz0, hz1, hz2⟩ := info_parts hE
  exact wpList_make_own w hgd l c t ho base e i z 1 ht hi hz0 hz1 kl kc C n hl hc hC (by rw [hz2]; exact hb) hm hbase h
end

theorem grown_set {w wr : World} {g : Nat} (h : w.grownBy wr (some g)) (i : Nat) (u : Value) : w.grownBy (wr.setCell ⟨g, i, none⟩ u) (some g) :=
  ⟨h.os, h.tape, h.output, by simpa [World.setCell] using h.size, fun k hk hne => (Below.heap_setCell wr ⟨g, i, none⟩ u k (by rintro rfl; exact hne rfl)).trans (h.block k hk hne)⟩
theorem grown_drew {w wr : World} {row : Option Nat} (h : w.grownBy wr row) : w.grownBy wr.drew row := ⟨h.os, h.tape, h.output, h.size, h.block⟩
theorem grown_drewN {w wr : World} {row : Option Nat} (h : w.grownBy wr row) (n : Nat) : w.grownBy (wr.drewN n) row := ⟨h.os, h.tape, h.output, h.size, h.block⟩
theorem below_own {B base sz n : Nat} {w0 w w' : World} {e : TypeId} {v : Value} {xs : List Value} (h : Below B w0 w) (hown : w.ownsRow base e sz v n xs) (hg : w.grownBy w' v.ownBlock) (hB : B ≤ base) (hw : B ≤ w.heap.size) : Below B w0 w' :=
  h.grown hg hw fun k hk => Nat.le_trans hB (hown.lt k hk).1
theorem below_drewN {B : Nat} {a w : World} (h : Below B a w) (n : Nat) : Below B a (w.drewN n) := ⟨h.os, h.tape, h.output, h.size, h.block⟩
theorem below_none {B : Nat} {w0 w w' : World} (h : Below B w0 w) (hg : w.grownBy w' none) (hw : B ≤ w.heap.size) : Below B w0 w' := h.grown hg hw (by simp)

/-- A literal of numbers in a block of its own. -/
theorem Words.lit {W : World} {X : Nat → Prop} {g : Nat} {t : TypeId} (xs : List Nat) (h : Loc W g t (nums .u32 xs).toArray) (hw : ∀ x ∈ xs, x < 4294967296) (hX : ¬ X g) (hl : xs.length ≤ maxLen) : Words W X (.slice (some ⟨g, 0, none⟩) xs.length xs.length) xs := by
  refine ⟨⟨_, _, rfl, Nat.le_refl _, hl, by simp, fun _ => ⟨_, rfl, h.lt, hX, fun j u hu => ?_⟩⟩, hw⟩
  have hadd : (⟨g, 0, none⟩ : Addr).add j = ⟨g, j, none⟩ := by unfold Addr.add; split <;> simp_all
  rw [hadd, h.cell j]
  simpa using hu

theorem ownsRow_below {w w' : World} {base sz n : Nat} {e : TypeId} {v : Value} {xs : List Value} (h : w.ownsRow base e sz v n xs) (hb : Below w.heap.size w w') : w'.ownsRow base e sz v n xs :=
  h.kept (row := none) ⟨hb.os, hb.tape, hb.output, hb.size, fun k hk _ => hb.block k hk⟩ (by cases v.ownBlock <;> simp)
theorem ownsRow_cap {w : World} {base sz : Nat} {e : TypeId} {g n cap : Nat} {xs : List Value} (h : w.ownsRow base e sz (.slice (some ⟨g, 0, none⟩) n cap) n xs) : n ≤ cap ∧ cap ≤ maxLen := by
  rcases h.2 with ⟨h2, _⟩ | ⟨g', cap', cur, hv, hb, hh, hn, hc, _⟩
  · cases h2
  · injection hv with e1 e2 e3
    subst e3
    exact ⟨hn, hc⟩
theorem ownsRow_cut {w : World} {base : Nat} {e : TypeId} {g n cap k : Nat} {xs : List Value} (h : w.ownsRow base e 1 (.slice (some ⟨g, 0, none⟩) n cap) n xs) (hk : k ≤ n) :
    w.ownsRow base e 1 (.slice (some ⟨g, 0, none⟩) k cap) k (xs.take k) := by
  obtain ⟨h1, h2⟩ := h
  refine ⟨by rw [List.length_take]; omega, ?_⟩
  rcases h2 with ⟨h2, _⟩ | ⟨g', cap', cur, hv, hb, hh, hn, hc, hs, ht⟩
  · cases h2
  · injection hv with e1 e2 e3
    injection e1 with e1
    injection e1 with e1
    subst e1 e3
    refine .inr ⟨g, cap, cur, rfl, hb, hh, by omega, hc, hs, ?_⟩
    rw [← ht, List.take_take]
    congr 1; omega

/-- What lies apart from an owned row still does when the row is pushed onto. -/
theorem Words.push {w w' : World} {o : Obj} {v v' s : Value} {xs : List Nat} (h : Words w (fun b => v.ownBlock = some b) s xs) (hg : (w.alloc o).grownBy w' v.ownBlock)
    (hat : v'.ownBlock = v.ownBlock ∨ v'.ownBlock = some (w.alloc o).heap.size) : Words w' (fun b => v'.ownBlock = some b) s xs := by
  have k : Keep (fun b => v.ownBlock = some b) w w' := ((Keep.refl _ w).alloc o).grown hg (fun g hg => .inl hg)
  have h1 : Words w (fun b => v'.ownBlock = some b) s xs := h.weak fun b hb hv => by
    rcases hat with e | e
    · rw [← e]; exact hv
    · rw [e] at hv
      simp only [Option.some.injEq] at hv
      have : w.heap.size < (w.alloc o).heap.size := by simp
      omega
  have h2 := h.keep k
  refine ⟨?_, h.2⟩
  obtain ⟨A, c, e, q1, q2, q3, q4⟩ := h1.1
  obtain ⟨A', c', e', _, _, _, q4'⟩ := h2.1
  rw [e] at e'
  injection e' with e1 e2 e3
  subst e1 e3
  refine ⟨A, c, e, q1, q2, q3, fun hn => ?_⟩
  obtain ⟨a, ha, _, hx, _⟩ := q4 hn
  obtain ⟨a', ha', hlt', _, hc'⟩ := q4' hn
  rw [ha] at ha'
  injection ha' with ha'
  subst ha'
  exact ⟨a, ha, hlt', hx, hc'⟩

/-! ### The boxes that a call lays at its head, behind the first callee -/
theorem below_undrew {w w2 : World} (h : Below w.drew.heap.size w.drew w2) : Below w.heap.size w w2 := ⟨h.os, h.tape, h.output, h.size, h.block⟩
theorem below_undrewN {w w2 : World} {n : Nat} (h : Below (w.drewN n).heap.size (w.drewN n) w2) : Below w.heap.size w w2 := ⟨h.os, h.tape, h.output, h.size, h.block⟩
section
variable {w w2 : World} {c1 c2 c3 c4 : Array Value} {t1 t2 t3 t4 : TypeId}
theorem locs1 (h : Below (w.alloc (.cells c1 t1)).heap.size (w.alloc (.cells c1 t1)) w2) :
    Loc w2 w.heap.size t1 c1 ∧ Below w.heap.size w w2 ∧ w.heap.size + 1 ≤ w2.heap.size :=
  ⟨(Loc.new _ _ _).below h, ((Below.refl _ _).alloc (Nat.le_refl _) _).trans (h.mono (by simp)), by have := h.size; simpa using this⟩
theorem locs2 (h : Below ((w.alloc (.cells c1 t1)).alloc (.cells c2 t2)).heap.size ((w.alloc (.cells c1 t1)).alloc (.cells c2 t2)) w2) :
    Loc w2 w.heap.size t1 c1 ∧ Loc w2 (w.heap.size + 1) t2 c2 ∧ Below w.heap.size w w2 ∧ w.heap.size + 2 ≤ w2.heap.size := by
  obtain ⟨h2, h3, h4⟩ := locs1 h
  obtain ⟨g1, g2, g3⟩ := locs1 h3
  exact ⟨g1, by simpa using h2, g2, by simp at h4; omega⟩
theorem locs3 (h : Below (((w.alloc (.cells c1 t1)).alloc (.cells c2 t2)).alloc (.cells c3 t3)).heap.size (((w.alloc (.cells c1 t1)).alloc (.cells c2 t2)).alloc (.cells c3 t3)) w2) :
    Loc w2 w.heap.size t1 c1 ∧ Loc w2 (w.heap.size + 1) t2 c2 ∧ Loc w2 (w.heap.size + 1 + 1) t3 c3 ∧ Below w.heap.size w w2 ∧ w.heap.size + 3 ≤ w2.heap.size := by
  obtain ⟨h2, h3, h4⟩ := locs1 h
  obtain ⟨g1, g2, g3, g4⟩ := locs2 h3
  exact ⟨g1, g2, by simpa using h2, g3, by simp at h4; omega⟩
theorem locs4 (h : Below ((((w.alloc (.cells c1 t1)).alloc (.cells c2 t2)).alloc (.cells c3 t3)).alloc (.cells c4 t4)).heap.size ((((w.alloc (.cells c1 t1)).alloc (.cells c2 t2)).alloc (.cells c3 t3)).alloc (.cells c4 t4)) w2) :
    Loc w2 w.heap.size t1 c1 ∧ Loc w2 (w.heap.size + 1) t2 c2 ∧ Loc w2 (w.heap.size + 1 + 1) t3 c3 ∧ Loc w2 (w.heap.size + 1 + 1 + 1) t4 c4 ∧ Below w.heap.size w w2 ∧ w.heap.size + 4 ≤ w2.heap.size := by
  obtain ⟨h2, h3, h4⟩ := locs1 h
  obtain ⟨g1, g2, g3, g4, g5⟩ := locs3 h3
  exact ⟨g1, g2, g3, by simpa using h2, g4, by simp at h4; omega⟩
end
/-- The boxes of two parameters, ahead of a result's. -/
theorem boxes3 (w : World) (c1 c2 c3 : Array Value) (t1 t2 t3 : TypeId) :
    Hid (∀ W, Below (w.heap.size + 1 + 1) (((w.alloc (.cells c1 t1)).alloc (.cells c2 t2)).alloc (.cells c3 t3)) W → Loc W w.heap.size t1 c1 ∧ Loc W (w.heap.size + 1) t2 c2) := fun W h => by
  refine ⟨Loc.below' ?_ h (by omega), Loc.below' ?_ h (by omega)⟩
  · exact ((Loc.new _ _ _).alloc _).alloc _
  · have := (Loc.new (w.alloc (.cells c1 t1)) c2 t2).alloc (.cells c3 t3)
    simpa using this
theorem boxes2 (w : World) (c1 c2 : Array Value) (t1 t2 : TypeId) :
    Hid (∀ W, Below (w.heap.size + 1) ((w.alloc (.cells c1 t1)).alloc (.cells c2 t2)) W → Loc W w.heap.size t1 c1) := fun W h => Loc.below' ((Loc.new _ _ _).alloc _) h (by omega)
theorem below1 (w : World) (o : Obj) : Below w.heap.size w (w.alloc o) := (Below.refl _ _).alloc (Nat.le_refl _) _
theorem below2 (w : World) (o o' : Obj) : Below w.heap.size w ((w.alloc o).alloc o') := (below1 w o).alloc (by simp) _
theorem below3 (w : World) (o o' o2 : Obj) : Below w.heap.size w (((w.alloc o).alloc o').alloc o2) := (below2 w o o').alloc (by simp only [World.size_alloc]; omega) _
theorem below4 (w : World) (o o' o2 o3 : Obj) : Below w.heap.size w ((((w.alloc o).alloc o').alloc o2).alloc o3) := (below3 w o o' o2).alloc (by simp only [World.size_alloc]; omega) _

theorem ret_eq {a b : Value} (h : a = b) : Ending.returned a = .returned b := by rw [h]
theorem bool_eq {a b : Bool} (h : a = b) : Value.bool a = .bool b := by rw [h]
theorem int_eq {k : IntKind} {a b : Int} (h : a = b) : Value.int k a = .int k b := by rw [h]
end Go.Proofs.Ytooheapikhdllaa

/- Magnitudes: little-endian lists of words of 32 bits, and the numbers that they stand for. Plain arithmetic. -/
namespace Go.Proofs.Ytooheapikhdllaa

/-- The number of a list of words. -/
def val : List Nat → Nat
  | [] => 0
  | x :: xs => x + 4294967296 * val xs

/-- All words fit 32 bits. -/
def Ws (xs : List Nat) : Prop := ∀ x ∈ xs, x < 4294967296

/-- No zero word at the end. -/
def Can (xs : List Nat) : Prop := Ws xs ∧ ∀ h : xs ≠ [], xs.getLast h ≠ 0

/-- words without the zeros at the end -/
def trimL (xs : List Nat) : List Nat := (xs.reverse.dropWhile (· == 0)).reverse

/-- The canonical words of a number. -/
def dig (n : Nat) : List Nat := if n = 0 then [] else (n % 4294967296) :: dig (n / 4294967296)
termination_by n
decreasing_by omega

theorem Ws.nil : Ws [] := by simp [Ws]
theorem Ws.cons {x : Nat} {xs : List Nat} : Ws (x :: xs) ↔ x < 4294967296 ∧ Ws xs := by simp [Ws]
theorem Ws.append {xs ys : List Nat} : Ws (xs ++ ys) ↔ Ws xs ∧ Ws ys := by
  simp only [Ws, List.mem_append]
  exact ⟨fun h => ⟨fun x hx => h x (.inl hx), fun x hx => h x (.inr hx)⟩, fun h x hx => hx.elim (h.1 x) (h.2 x)⟩
theorem Ws.take {xs : List Nat} (h : Ws xs) (n : Nat) : Ws (xs.take n) := fun x hx => h x (List.mem_of_mem_take hx)
theorem Ws.drop {xs : List Nat} (h : Ws xs) (n : Nat) : Ws (xs.drop n) := fun x hx => h x (List.mem_of_mem_drop hx)
theorem Ws.set {xs : List Nat} (h : Ws xs) (i y : Nat) (hy : y < 4294967296) : Ws (xs.set i y) := fun x hx => by
  rcases List.mem_or_eq_of_mem_set hx with h1 | h1
  · exact h x h1
  · omega
theorem Ws.replicate (n : Nat) : Ws (List.replicate n 0) := fun x hx => by have := (List.mem_replicate.1 hx).2; omega
theorem Ws.get {xs : List Nat} (h : Ws xs) {i : Nat} (hi : i < xs.length) : xs[i] < 4294967296 := h _ (List.getElem_mem hi)

@[simp] theorem val_nil : val [] = 0 := rfl
@[simp] theorem val_cons (x : Nat) (xs : List Nat) : val (x :: xs) = x + 4294967296 * val xs := rfl
theorem val_replicate (n : Nat) : val (List.replicate n 0) = 0 := by
  induction n with
  | zero => rfl
  | succ n ih => simp [List.replicate_succ, ih]

theorem val_append (xs ys : List Nat) : val (xs ++ ys) = val xs + 4294967296 ^ xs.length * val ys := by
  induction xs with
  | nil => simp
  | cons x xs ih =>
    simp only [List.cons_append, val_cons, ih, List.length_cons, Nat.pow_succ]
    rw [Nat.mul_add, Nat.add_assoc, ← Nat.mul_assoc, Nat.mul_comm 4294967296 (4294967296 ^ xs.length)]

theorem pow_pos32 (n : Nat) : 0 < 4294967296 ^ n := Nat.pow_pos (by omega)

theorem val_lt {xs : List Nat} (h : Ws xs) : val xs < 4294967296 ^ xs.length := by
  induction xs with
  | nil => simp
  | cons x xs ih =>
    have h' := Ws.cons.1 h
    have := ih h'.2
    simp only [val_cons, List.length_cons, Nat.pow_succ]
    have : 4294967296 * (val xs + 1) ≤ 4294967296 * 4294967296 ^ xs.length := Nat.mul_le_mul_left _ (by omega)
    rw [Nat.mul_comm (4294967296 ^ xs.length)]
    omega

theorem val_take_drop (xs : List Nat) (k : Nat) : val xs = val (xs.take k) + 4294967296 ^ (xs.take k).length * val (xs.drop k) := by
  rw [← val_append, List.take_append_drop]

theorem val_take_succ (xs : List Nat) (k : Nat) (h : k < xs.length) : val (xs.take (k + 1)) = val (xs.take k) + 4294967296 ^ k * xs[k] := by
  rw [List.take_succ_eq_append_getElem h, val_append]
  simp
  rw [Nat.min_eq_left (by omega)]

theorem val_drop_succ (xs : List Nat) (k : Nat) (h : k < xs.length) : val (xs.drop k) = xs[k] + 4294967296 * val (xs.drop (k + 1)) := by
  rw [List.drop_eq_getElem_cons h, val_cons]

theorem val_snoc (xs : List Nat) (y : Nat) : val (xs ++ [y]) = val xs + 4294967296 ^ xs.length * y := by
  rw [val_append]; simp

/-- A value changed at one place. -/
theorem val_set (xs : List Nat) (i y : Nat) (h : i < xs.length) : val (xs.set i y) + 4294967296 ^ i * xs[i] = val xs + 4294967296 ^ i * y := by
  induction xs generalizing i with
  | nil => simp at h
  | cons x xs ih =>
    cases i with
    | zero => simp; omega
    | succ i =>
      have := ih i (by simpa using h)
      simp only [List.set_cons_succ, val_cons, List.getElem_cons_succ, Nat.pow_succ]
      have e1 : 4294967296 ^ i * 4294967296 * xs[i]'(by simpa using h) = 4294967296 * (4294967296 ^ i * xs[i]'(by simpa using h)) := by
        rw [Nat.mul_comm (4294967296 ^ i), Nat.mul_assoc]
      have e2 : 4294967296 ^ i * 4294967296 * y = 4294967296 * (4294967296 ^ i * y) := by
        rw [Nat.mul_comm (4294967296 ^ i), Nat.mul_assoc]
      rw [e1, e2]
      omega

theorem trimL_take (xs : List Nat) (k : Nat) (hk : k ≤ xs.length) (hz : ∀ j, k ≤ j → (h : j < xs.length) → xs[j] = 0) (hl : 0 < k → (h : k - 1 < xs.length) → xs[k - 1] ≠ 0) : trimL xs = xs.take k := by
  have e : xs = xs.take k ++ List.replicate (xs.length - k) 0 := by
    apply List.ext_getElem
    · simp; omega
    · intro i h1 h2
      by_cases hi : i < k
      · rw [List.getElem_append_left (by simp; omega)]; simp
      · rw [List.getElem_append_right (by simp; omega)]
        simp
        exact hz i (by omega) h1
  have hd : (List.replicate (xs.length - k) 0 ++ (xs.take k).reverse).dropWhile (· == 0) = (xs.take k).reverse := by
    rw [List.dropWhile_append_of_pos (by simp)]
    by_cases h0 : k = 0
    · subst h0; simp
    · have h1 : (xs.take k).reverse = xs[k-1]'(by omega) :: (xs.take (k-1)).reverse := by
        have : xs.take k = xs.take (k - 1) ++ [xs[k-1]'(by omega)] := by
          have := List.take_succ_eq_append_getElem (l := xs) (i := k - 1) (by omega)
          rwa [show k - 1 + 1 = k from by omega] at this
        rw [this]; simp
      rw [h1, List.dropWhile_cons_of_neg (by simpa using hl (by omega) (by omega))]
  unfold trimL
  conv => lhs; rw [e]
  rw [List.reverse_append, List.reverse_replicate, hd, List.reverse_reverse]

/-- What trim leaves, said once. -/
theorem trimL_spec (xs : List Nat) : ∃ k, k ≤ xs.length ∧ trimL xs = xs.take k ∧ (∀ j, k ≤ j → (h : j < xs.length) → xs[j] = 0) ∧ (0 < k → (h : k - 1 < xs.length) → xs[k - 1] ≠ 0) := by
  have main : ∀ n, n ≤ xs.length → (∀ j, n ≤ j → (h : j < xs.length) → xs[j] = 0) →
      ∃ k, k ≤ xs.length ∧ (∀ j, k ≤ j → (h : j < xs.length) → xs[j] = 0) ∧ (0 < k → (h : k - 1 < xs.length) → xs[k - 1] ≠ 0) := by
    intro n
    induction n with
    | zero => exact fun h1 h2 => ⟨0, h1, h2, fun h => absurd h (by omega)⟩
    | succ n ih =>
      intro h1 h2
      by_cases hz : xs[n]'(by omega) = 0
      · refine ih (by omega) (fun j hj hl => ?_)
        by_cases e : j = n
        · subst e; exact hz
        · exact h2 j (by omega) hl
      · exact ⟨n + 1, h1, h2, fun _ _ => by simpa using hz⟩
  obtain ⟨k, h1, h2, h3⟩ := main xs.length (Nat.le_refl _) (fun j h1 h2 => absurd h2 (by omega))
  exact ⟨k, h1, trimL_take xs k h1 h2 h3, h2, h3⟩

theorem trimL_len (xs : List Nat) : (trimL xs).length ≤ xs.length := by
  obtain ⟨k, h1, h2, _⟩ := trimL_spec xs
  rw [h2, List.length_take]; omega

theorem val_zeros (xs : List Nat) (h : ∀ j, (h : j < xs.length) → xs[j] = 0) : val xs = 0 := by
  induction xs with
  | nil => rfl
  | cons x xs ih =>
    have h0 := h 0 (by simp)
    have := ih (fun j hj => by have := h (j + 1) (by simpa using hj); simpa using this)
    simp at h0
    simp [h0, this]

theorem val_trimL (xs : List Nat) : val (trimL xs) = val xs := by
  obtain ⟨k, h1, h2, h3, _⟩ := trimL_spec xs
  rw [h2, val_take_drop xs k, val_zeros (xs.drop k)]
  · simp
  · intro j hj
    rw [List.getElem_drop]
    exact h3 _ (by omega) (by simp at hj; omega)

theorem can_trimL {xs : List Nat} (h : Ws xs) : Can (trimL xs) := by
  obtain ⟨k, h1, h2, _, h4⟩ := trimL_spec xs
  rw [h2]
  refine ⟨h.take k, fun hne => ?_⟩
  have hk : 0 < k := by
    rcases Nat.eq_zero_or_pos k with h0 | h0
    · subst h0; simp at hne
    · exact h0
  rw [List.getLast_eq_getElem]
  have hlen : (xs.take k).length = k := by rw [List.length_take]; omega
  have := h4 hk (by omega)
  rw [List.getElem_take]
  have e : (xs.take k).length - 1 = k - 1 := by omega
  simp only [e]
  exact this

theorem Can.nil : Can [] := ⟨Ws.nil, fun h => absurd rfl h⟩
theorem Can.tail {x : Nat} {xs : List Nat} (h : Can (x :: xs)) : Can xs := by
  refine ⟨(Ws.cons.1 h.1).2, fun hne => ?_⟩
  have := h.2 (by simp)
  rwa [List.getLast_cons hne] at this
theorem Can.pos {xs : List Nat} (h : Can xs) (hne : xs ≠ []) : 0 < val xs := by
  induction xs with
  | nil => exact absurd rfl hne
  | cons x xs ih =>
    by_cases h0 : xs = []
    · subst h0
      have := h.2 (by simp)
      simp at this
      simp; omega
    · have := ih h.tail h0
      simp; omega

theorem Can.eq {xs : List Nat} : ∀ {ys : List Nat}, Can xs → Can ys → val xs = val ys → xs = ys := by
  induction xs with
  | nil =>
    intro ys _ hy he
    rcases ys with _ | ⟨y, ys⟩
    · rfl
    · have := hy.pos (by simp); simp at he this; omega
  | cons x xs ih =>
    intro ys hx hy he
    rcases ys with _ | ⟨y, ys⟩
    · have := hx.pos (by simp); simp at he this; omega
    · have h1 := (Ws.cons.1 hx.1).1
      have h2 := (Ws.cons.1 hy.1).1
      simp only [val_cons] at he
      have e1 : x = y := by omega
      have e2 : val xs = val ys := by omega
      rw [e1, ih hx.tail hy.tail e2]

theorem dig_zero : dig 0 = [] := by rw [dig]; simp
theorem dig_pos {n : Nat} (h : n ≠ 0) : dig n = (n % 4294967296) :: dig (n / 4294967296) := by rw [dig, if_neg h]

theorem val_dig (n : Nat) : val (dig n) = n := by
  induction n using Nat.strongRecOn with
  | _ n ih =>
    by_cases h : n = 0
    · subst h; rw [dig_zero]; rfl
    · rw [dig_pos h, val_cons, ih _ (by omega)]; omega

theorem can_dig (n : Nat) : Can (dig n) := by
  induction n using Nat.strongRecOn with
  | _ n ih =>
    by_cases h : n = 0
    · subst h; rw [dig_zero]; exact Can.nil
    · rw [dig_pos h]
      have := ih (n / 4294967296) (by omega)
      refine ⟨Ws.cons.2 ⟨by omega, this.1⟩, fun _ => ?_⟩
      by_cases h2 : n / 4294967296 = 0
      · simp only [h2, dig_zero, List.getLast_singleton]; omega
      · have hne : dig (n / 4294967296) ≠ [] := by rw [dig_pos h2]; simp
        rw [List.getLast_cons hne]
        exact this.2 hne

theorem Can.dig {xs : List Nat} (h : Can xs) : xs = dig (val xs) := h.eq (can_dig _) (val_dig _).symm
theorem trimL_dig {xs : List Nat} (h : Ws xs) : trimL xs = dig (val xs) := by
  rw [← val_trimL]; exact (can_trimL h).dig
theorem dig_trim (n : Nat) : trimL (dig n) = dig n := by rw [trimL_dig (can_dig n).1, val_dig]

theorem dig_nil_iff (n : Nat) : dig n = [] ↔ n = 0 := by
  constructor
  · intro h; have := val_dig n; rw [h] at this; simpa using this.symm
  · rintro rfl; exact dig_zero
theorem dig_len_pos (n : Nat) : 0 < (dig n).length ↔ 0 < n := by
  rw [List.length_pos_iff]
  have := dig_nil_iff n
  constructor
  · intro h
    rcases Nat.eq_zero_or_pos n with h0 | h0
    · exact absurd (this.2 h0) h
    · exact h0
  · intro h e; have := this.1 e; omega

/-- The length of the canonical words is the least that holds the number. -/
theorem dig_len_le {n k : Nat} (h : n < 4294967296 ^ k) : (dig n).length ≤ k := by
  induction k generalizing n with
  | zero => simp at h; subst h; simp [dig_zero]
  | succ k ih =>
    by_cases h0 : n = 0
    · subst h0; simp [dig_zero]
    · rw [dig_pos h0, List.length_cons]
      have : n / 4294967296 < 4294967296 ^ k := by
        rw [Nat.div_lt_iff_lt_mul (by omega)]
        rwa [Nat.pow_succ] at h
      have := ih this
      omega

theorem can_lower {xs : List Nat} (h : Can xs) (hne : xs ≠ []) : 4294967296 ^ (xs.length - 1) ≤ val xs := by
  induction xs with
  | nil => exact absurd rfl hne
  | cons x xs ih =>
    by_cases h0 : xs = []
    · subst h0
      have := h.pos (by simp)
      simp at this ⊢; omega
    · have h1 := ih h.tail h0
      have hl : 0 < xs.length := List.length_pos_iff.2 h0
      simp only [List.length_cons, Nat.add_sub_cancel, val_cons]
      have e : xs.length = (xs.length - 1) + 1 := by omega
      rw [e, Nat.pow_succ, Nat.mul_comm]
      have := Nat.mul_le_mul_left 4294967296 h1
      omega

theorem val_lt_of_len {xs ys : List Nat} (hx : Ws xs) (hy : Can ys) (h : xs.length < ys.length) : val xs < val ys := by
  have h1 := val_lt hx
  have h2 := can_lower hy (by intro e; subst e; simp at h)
  have : 4294967296 ^ xs.length ≤ 4294967296 ^ (ys.length - 1) := Nat.pow_le_pow_right (by omega) (by omega)
  omega

theorem dig_len_mono {m n : Nat} (h : m ≤ n) : (dig m).length ≤ (dig n).length := by
  refine dig_len_le (Nat.lt_of_le_of_lt h ?_)
  have := val_lt (can_dig n).1
  rwa [val_dig] at this

theorem dig_val_len {xs : List Nat} (h : Ws xs) : (dig (val xs)).length ≤ xs.length := dig_len_le (val_lt h)

/-- One round of a sum: the word and the carry of s. -/
theorem carry_step (zs : List Nat) (k s cy S : Nat) (hl : zs.length = k) (hS : val zs + 4294967296 ^ k * s = S) :
    val (zs ++ [s % 4294967296]) + 4294967296 ^ (k + 1) * (s / 4294967296) = S := by
  rw [val_snoc, hl, Nat.pow_succ, ← hS, Nat.mul_assoc, Nat.add_assoc, ← Nat.mul_add]
  congr 2
  omega

theorem add_step (zs P Q : List Nat) (k cy : Nat) (hl : zs.length = k) (hv : val zs + 4294967296 ^ k * cy = val (P.take k) + val (Q.take k)) (hp : k < P.length) (hq : k < Q.length) :
    val (zs ++ [(cy + P[k] + Q[k]) % 4294967296]) + 4294967296 ^ (k + 1) * ((cy + P[k] + Q[k]) / 4294967296) = val (P.take (k + 1)) + val (Q.take (k + 1)) := by
  refine carry_step zs k _ cy _ hl ?_
  rw [val_take_succ P k hp, val_take_succ Q k hq, Nat.mul_add, Nat.mul_add]
  omega

theorem add_step1 (zs P Q : List Nat) (k cy : Nat) (hl : zs.length = k) (hv : val zs + 4294967296 ^ k * cy = val (P.take k) + val (Q.take k)) (hp : k < P.length) (hq : Q.length ≤ k) :
    val (zs ++ [(cy + P[k]) % 4294967296]) + 4294967296 ^ (k + 1) * ((cy + P[k]) / 4294967296) = val (P.take (k + 1)) + val (Q.take (k + 1)) := by
  refine carry_step zs k _ cy _ hl ?_
  rw [List.take_of_length_le (show Q.length ≤ k from hq)] at hv
  rw [val_take_succ P k hp, List.take_of_length_le (show Q.length ≤ k + 1 by omega), Nat.mul_add]
  omega

theorem take_set_succ (zs : List Nat) (k y : Nat) (h : k < zs.length) : (zs.set k y).take (k + 1) = zs.take k ++ [y] := by
  rw [List.take_succ_eq_append_getElem (by simpa using h)]
  simp [List.take_set_of_le]

theorem val_take_set (zs : List Nat) (k y : Nat) (h : k < zs.length) : val ((zs.set k y).take (k + 1)) = val (zs.take k) + 4294967296 ^ k * y := by
  rw [take_set_succ zs k y h, val_snoc, List.length_take, Nat.min_eq_left (by omega)]

/-- One round of a difference. -/
theorem sub_step (zs P : List Nat) (k d x y b b' QK : Nat) (hz : k < zs.length) (hp : k < P.length) (hx : x = P[k]) (hd : d + y + b = x + 4294967296 * b')
    (hv : val (zs.take k) + QK = val (P.take k) + 4294967296 ^ k * b) :
    val ((zs.set k d).take (k + 1)) + (QK + 4294967296 ^ k * y) = val (P.take (k + 1)) + 4294967296 ^ (k + 1) * b' := by
  rw [val_take_set zs k d hz, val_take_succ P k hp, ← hx, Nat.pow_succ]
  have e : 4294967296 ^ k * (d + y + b) = 4294967296 ^ k * (x + 4294967296 * b') := by rw [hd]
  simp only [Nat.mul_add] at e
  rw [Nat.mul_assoc]
  omega
theorem val_take_more (Q : List Nat) (k : Nat) (h : Q.length ≤ k) : val (Q.take (k + 1)) = val (Q.take k) := by
  rw [List.take_of_length_le (show Q.length ≤ k from h), List.take_of_length_le (show Q.length ≤ k + 1 by omega)]
theorem sub_end (zs P Q : List Nat) (b : Nat) (hz : Ws zs) (hl : zs.length = P.length) (hle : val Q ≤ val P) (hv : val zs + val Q = val P + 4294967296 ^ P.length * b) : val zs = val P - val Q ∧ b = 0 := by
  have h1 := val_lt hz
  rw [hl] at h1
  rcases Nat.eq_zero_or_pos b with h | h
  · subst h; simp at hv; omega
  · have : 4294967296 ^ P.length * 1 ≤ 4294967296 ^ P.length * b := Nat.mul_le_mul_left _ h
    omega

theorem mul_lt_sq' (x y : Nat) (hx : x < 4294967296) (hy : y < 4294967296) : (x : Int) * (y : Int) ≤ 18446744065119617025 := by
  have := Nat.mul_le_mul (show x ≤ 4294967295 by omega) (show y ≤ 4294967295 by omega)
  rw [← Int.natCast_mul]
  omega
theorem mul_lt_sq (x y : Nat) (hx : x < 4294967296) (hy : y < 4294967296) : x * y ≤ 18446744065119617025 := by
  have := Nat.mul_le_mul (show x ≤ 4294967295 by omega) (show y ≤ 4294967295 by omega)
  omega

/-- One round of the inner loop of a product: the word at place p holds s % B behind it, s / B is carried on. -/
theorem mul_step (zs : List Nat) (p s c S : Nat) (hp : p < zs.length) (hv : val zs + 4294967296 ^ p * c = S) (T : Nat) (hs : s = c + T + zs[p]) :
    val (zs.set p (s % 4294967296)) + 4294967296 ^ (p + 1) * (s / 4294967296) = S + 4294967296 ^ p * T := by
  have h1 := val_set zs p (s % 4294967296) hp
  have e1 : 4294967296 ^ (p + 1) * (s / 4294967296) = 4294967296 ^ p * (4294967296 * (s / 4294967296)) := by rw [Nat.pow_succ, Nat.mul_assoc]
  have e2 : 4294967296 ^ p * (s % 4294967296) + 4294967296 ^ p * (4294967296 * (s / 4294967296)) = 4294967296 ^ p * s := by rw [← Nat.mul_add]; congr 1; omega
  have e3 : 4294967296 ^ p * s = 4294967296 ^ p * c + 4294967296 ^ p * T + 4294967296 ^ p * zs[p] := by rw [hs, Nat.mul_add, Nat.mul_add]
  omega

theorem pow_mul_take (i j : Nat) (x : Nat) (ys : List Nat) (hj : j < ys.length) :
    4294967296 ^ i * (x * val (ys.take (j + 1))) = 4294967296 ^ i * (x * val (ys.take j)) + 4294967296 ^ (i + j) * (x * ys[j]) := by
  rw [val_take_succ ys j hj, Nat.mul_add, Nat.mul_add, Nat.pow_add]
  congr 1
  rw [Nat.mul_assoc]
  congr 1
  rw [← Nat.mul_assoc, ← Nat.mul_assoc, Nat.mul_comm x]

theorem set_other (zs : List Nat) (p y t : Nat) (h : p ≠ t) (ht : t < zs.length) : (zs.set p y)[t]'(by simpa using ht) = zs[t] := List.getElem_set_ne h _

/-- The end of a round of the outer loop: the carry goes to a word that was 0. -/
theorem mul_end (zs : List Nat) (p c S : Nat) (hp : p < zs.length) (h0 : zs[p] = 0) (hv : val zs + 4294967296 ^ p * c = S) : val (zs.set p c) = S := by
  have h1 := val_set zs p c hp
  rw [h0] at h1
  omega
theorem mul_take_succ (xs : List Nat) (i b : Nat) (h : i < xs.length) : val (xs.take (i + 1)) * b = val (xs.take i) * b + 4294967296 ^ i * (xs[i] * b) := by
  rw [val_take_succ xs i h, Nat.add_mul, Nat.mul_assoc]

/-- Lists that agree behind place p are ordered by their words at p. -/
theorem val_lt_at (xs ys : List Nat) (hl : xs.length = ys.length) (hx : Ws xs) (p : Nat) (hp : p < xs.length) (hd : xs.drop (p + 1) = ys.drop (p + 1)) (h : xs[p] < ys[p]'(by omega)) : val xs < val ys := by
  have hq : p < ys.length := by omega
  have a1 := val_take_drop xs p
  have a2 := val_take_drop ys p
  rw [val_drop_succ xs p hp, List.length_take, Nat.min_eq_left (by omega)] at a1
  rw [val_drop_succ ys p hq, List.length_take, Nat.min_eq_left (by omega), ← hd] at a2
  have b1 := val_lt (hx.take p)
  rw [List.length_take, Nat.min_eq_left (by omega)] at b1
  have c1 : 4294967296 ^ p * (xs[p] + 1) ≤ 4294967296 ^ p * ys[p] := Nat.mul_le_mul_left _ h
  rw [Nat.mul_add] at a1 a2 c1
  omega

/-- One round of a division by a word. -/
theorem short_step (zs xs : List Nat) (p d r x q r' : Nat) (hz : p < zs.length) (hx : p < xs.length) (hX : x = xs[p]) (hq : q = (r * 4294967296 + x) / d) (hr : r' = (r * 4294967296 + x) % d)
    (hv : val (zs.drop (p + 1)) * d + r = val (xs.drop (p + 1))) : val ((zs.set p q).drop p) * d + r' = val (xs.drop p) := by
  rw [val_drop_succ (zs.set p q) p (by simpa using hz), val_drop_succ xs p hx, ← hv, ← hX, List.getElem_set_self, List.drop_set_of_lt (by omega)]
  have e := Nat.div_add_mod (r * 4294967296 + x) d
  rw [← hq, ← hr] at e
  rw [Nat.add_mul, Nat.mul_add, Nat.mul_assoc, Nat.mul_comm q d]
  omega

/-- The order of two numbers, as Go says it. -/
def cmpN (a b : Nat) : Int := if a < b then -1 else if a = b then 0 else 1
theorem cmpN_lt {a b : Nat} (h : a < b) : cmpN a b = -1 := by simp [cmpN, h]
theorem cmpN_gt {a b : Nat} (h : b < a) : cmpN a b = 1 := by unfold cmpN; rw [if_neg (by omega), if_neg (by omega)]
theorem cmpN_eq {a b : Nat} (h : a = b) : cmpN a b = 0 := by unfold cmpN; rw [if_neg (by omega), if_pos h]
end Go.Proofs.Ytooheapikhdllaa

/- The inner functions of package integer, first part: trim, Clone, signed. -/
namespace Go.Proofs.Ytooheapikhdllaa
open Go.RowKit

set_option maxHeartbeats 400000 in
theorem trim_any (w : World) (X : Nat → Prop) (v : Value) (xs : List Nat) (h : Words w X v xs) :
    Calls Try.prog 90 #[v] w fun e w' => ∃ v', e = .returned v' ∧ Words w X v' (trimL xs) ∧ w = w' := by
  have hm := h.lt_max
  obtain ⟨A, c, rfl, hc, _, H⟩ := h.open_
  go_enter Try.func90, Try.ntmps90
  go_wp2
  go_loop [3] (fun i => ∃ k : Nat, k ≤ xs.length ∧ (∀ j, k ≤ j → (h : j < xs.length) → xs[j] = 0) ∧ i = .int .i64 k) (fun i => (intOf i).toNat)
  case atStart => exact ⟨xs.length, Nat.le_refl _, fun j h1 h2 => absurd h2 (by omega), rfl⟩
  case round =>
    obtain ⟨k, hk, hz, rfl⟩ := hrel
    have Hz := Lib.hid hz
    clear hz
    by_cases h0 : k = 0
    · subst h0
      go_wp2
      go_ret
      exact ⟨_, rfl, trimL_take xs 0 hk Hz.out (by omega) ▸ H.take hk, rfl⟩
    · obtain ⟨a, rfl, _, _, hcell⟩ := H.at_ (k := k - 1) (by omega)
      have hp : (0 : Int) < (k : Int) := by omega
      by_cases hx : xs[k - 1] = 0
      · have hb : (((xs[k - 1] : Nat) : Int) == 0) = true := by simp [hx]
        have HX := Lib.hid hx
        clear hx
        go_wp2
        go_round
        case rel => exact ⟨k - 1, by omega, fun j h1 h2 => if e : j = k - 1 then by subst e; exact HX.out else Hz.out j (by omega) h2, by go_num⟩
        case measure => simp [intOf]; omega
      · have hb : (((xs[k - 1] : Nat) : Int) == 0) = false := by simp; omega
        go_wp2
        go_ret
        exact ⟨_, rfl, trimL_take xs k hk Hz.out (fun _ _ => hx) ▸ H.take hk, rfl⟩

theorem info_u32 : (Try.prog.info? 82).map (fun i => (i.zero, i.size, i.bytes)) = some (some (.int .u32 0), 1, 4) := by kernel_rfl

set_option maxHeartbeats 400000 in
theorem clone_any (w : World) (X : Nat → Prop) (v : Value) (xs : List Nat) (h : Words w X v xs) (hsz : xs.length ≤ 10000000000000) :
    Calls Try.prog 113 #[v] w fun e w' => ∃ v', e = .returned v' ∧ Words w' (Old w) v' xs ∧ Below w.heap.size w w' := by
  have hm := h.lt_max
  obtain ⟨i0, hi, hz0, hz1, hz2⟩ := info_parts info_u32
  obtain ⟨A, c, rfl, hc, _, H⟩ := h.open_
  have he := @Lib.run_eql_slice_nil Try.prog
  rcases A with _ | a
  · have h0 : xs = [] := by
      rcases xs with _ | ⟨x, xs⟩
      · rfl
      · obtain ⟨a, h, _⟩ := H.at_ (k := 0) (by simp)
        cases h
    subst h0
    go_enter Try.func113, Try.ntmps113
    go_wp2
    go_ret
    exact ⟨_, rfl, Words.nil w _, Below.refl _ _⟩
  · go_enter Try.func113, Try.ntmps113
    go_wp2_with (at_builtin; refine wpList_append_own _ rfl _ _ 22 rfl w.heap.size 82 i0 (.int .u32 0) 1 4 Try.underlying22 hi hz0 hz1 hz2 rfl (by decide) _ _ _ rfl (World.ownsRow_lit w #[] 0 (Nat.le_refl _) (by unfold maxLen; omega) rfl) a xs.length c (nums .u32 xs) rfl (by simp) (fun j u hu => (Words.below H ((Below.refl _ _).alloc (Nat.le_refl _) _)).news j u hu) (nums_one _ _) (by unfold maxLen; omega) (by omega) (by simp) ?_)
    intro v1 w1 hown hgrow _
    go_wp2
    go_ret
    refine ⟨_, rfl, Words.of_own (by simpa using hown) H.2 (fun b h1 _ _ => by unfold Old; omega), ((Below.refl _ _).alloc (Nat.le_refl _) _).grown hgrow (by simp) (by simp [Value.ownBlock])⟩

/-- A struct of a sign and words, as it lies. -/
def IntR (w : World) (X : Nat → Prop) (v : Value) (neg : Bool) (xs : List Nat) : Prop := ∃ s, v = .agg #[.bool neg, s] ∧ Words w X s xs
/-- The integer of a sign and words. -/
def sv (neg : Bool) (xs : List Nat) : Int := if neg then -((val xs : Nat) : Int) else ((val xs : Nat) : Int)
/-- The canonical struct of an integer. -/
def IntV (w : World) (X : Nat → Prop) (v : Value) (z : Int) : Prop := IntR w X v (decide (z < 0)) (dig z.natAbs)

theorem sv_abs (neg : Bool) (xs : List Nat) : (sv neg xs).natAbs = val xs := by unfold sv; split <;> omega
theorem sv_dig (z : Int) : sv (decide (z < 0)) (dig z.natAbs) = z := by
  unfold sv; rw [val_dig]
  by_cases h : z < 0 <;> simp [h] <;> omega
theorem sv_mul (n1 n2 : Bool) (xs ys zs : List Nat) (h : val zs = val xs * val ys) : sv (!n1 == n2) zs = sv n1 xs * sv n2 ys := by
  unfold sv
  rw [h]
  cases n1 <;> cases n2 <;> simp [Int.neg_mul, Int.mul_neg]
theorem sv_trim (n : Bool) (xs : List Nat) : sv n (trimL xs) = sv n xs := by unfold sv; rw [val_trimL]
theorem sv_not (n : Bool) (xs : List Nat) : sv (!n) xs = - sv n xs := by cases n <;> simp [sv]
theorem sv_false (xs : List Nat) : sv false xs = (val xs : Nat) := by simp [sv]
theorem sv_true (xs : List Nat) : sv true xs = -((val xs : Nat) : Int) := by simp [sv]
theorem sv_lt (neg : Bool) (xs : List Nat) (h : Ws xs) : decide (sv neg xs < 0) = (neg && decide (0 < (trimL xs).length)) := by
  rw [trimL_dig h]
  have := dig_len_pos (val xs)
  unfold sv
  by_cases h1 : 0 < val xs
  · have h2 := this.2 h1
    cases neg <;> simp [h2] <;> omega
  · have h2 : ¬ 0 < (dig (val xs)).length := fun h => h1 (this.1 h)
    cases neg <;> simp [h2] <;> omega

section
variable {X Y : Nat → Prop} {w w' : World} {v : Value} {neg : Bool} {xs : List Nat} {z : Int}
theorem IntR.keep (h : IntR w X v neg xs) (hk : Keep X w w') : IntR w' X v neg xs := let ⟨s, e, hs⟩ := h; ⟨s, e, hs.keep hk⟩
theorem IntR.below (h : IntR w X v neg xs) (hk : Below w.heap.size w w') : IntR w' X v neg xs := let ⟨s, e, hs⟩ := h; ⟨s, e, hs.below hk⟩
theorem IntR.weak (h : IntR w X v neg xs) (hY : ∀ b, b < w.heap.size → Y b → X b) : IntR w Y v neg xs := let ⟨s, e, hs⟩ := h; ⟨s, e, hs.weak hY⟩
theorem IntR.open_ (h : IntR w X v neg xs) : ∃ A c, v = .agg #[.bool neg, .slice A xs.length c] ∧ xs.length ≤ c ∧ c ≤ maxLen ∧ Words w X (.slice A xs.length c) xs := by
  obtain ⟨s, rfl, hs⟩ := h
  obtain ⟨A, c, rfl, h1, h2, h3⟩ := hs.open_
  exact ⟨A, c, rfl, h1, h2, h3⟩
theorem IntR.drewN (h : IntR w X v neg xs) (n : Nat) : IntR (w.drewN n) X v neg xs := h
theorem IntV.keep (h : IntV w X v z) (hk : Keep X w w') : IntV w' X v z := IntR.keep h hk
theorem IntV.below (h : IntV w X v z) (hk : Below w.heap.size w w') : IntV w' X v z := IntR.below h hk
theorem IntV.weak (h : IntV w X v z) (hY : ∀ b, b < w.heap.size → Y b → X b) : IntV w Y v z := IntR.weak h hY
theorem IntV.drewN (h : IntV w X v z) (n : Nat) : IntV (w.drewN n) X v z := h
end

theorem keep_set2 {X : Nat → Prop} {w : World} {g : Nat} (hg : X g) (u u' : Value) : Keep X w ((w.setCell ⟨g, 0, none⟩ u).setCell ⟨g, 1, none⟩ u') :=
  ((Keep.refl _ _).set (.inl hg) _).set (.inl hg) _
theorem below_set2 {B : Nat} {w0 w : World} (h : Below B w0 w) {g : Nat} (hg : B ≤ g) (u u' : Value) : Below B w0 ((w.setCell ⟨g, 0, none⟩ u).setCell ⟨g, 1, none⟩ u') :=
  (h.setCell hg _).setCell hg _

/-- The shape of a canonical struct, its parts letters. -/
theorem IntV.op {X : Nat → Prop} {w : World} {v : Value} {z : Int} (h : IntV w X v z) : ∃ (b : Bool) (A : Option Addr) (n c : Nat), v = .agg #[.bool b, .slice A n c] ∧ IntV w X (.agg #[.bool b, .slice A n c]) z := by
  obtain ⟨A, c, rfl, _, _, H⟩ := IntR.open_ h
  exact ⟨_, A, _, c, rfl, h⟩

/-- An integer handed on through the result's own cells. -/
theorem IntV.stored {X Y : Nat → Prop} {w : World} {v : Value} {z : Int} (h : IntV w X v z) {g : Nat} (hg : X g) (u u' : Value) (hY : ∀ b, b < w.heap.size → Y b → X b) : IntV ((w.setCell ⟨g, 0, none⟩ u).setCell ⟨g, 1, none⟩ u') Y v z :=
  (h.keep (keep_set2 hg u u')).weak (fun b hb => hY b (by simpa [World.setCell] using hb))

set_option maxHeartbeats 400000 in
theorem signed_any (w : World) (X : Nat → Prop) (neg : Bool) (v : Value) (xs : List Nat) (h : Words w X v xs) (hsz : xs.length ≤ 10000000000000) :
    Calls Try.prog 91 #[.bool neg, v] w fun e w' => ∃ v', e = .returned v' ∧ IntV w' (Old w) v' (sv neg xs) ∧ Below w.heap.size w w' := by
  go_enter Try.func91, Try.ntmps91
  go_wp2_with fail
  refine (trim_any _ X v xs (h.below ((Below.refl _ _).alloc (Nat.le_refl _) _))).mono ?_
  rintro e w' ⟨v1, rfl, h1, rfl⟩
  go_wp2_with fail
  refine (clone_any _ X v1 _ h1 (Nat.le_trans (trimL_len xs) hsz)).mono ?_
  rintro e w2 ⟨v2, rfl, h2, hb2⟩
  obtain ⟨A, c, rfl, hc, _, H2⟩ := h2.open_
  have L2 := (Loc.new _ _ _).below hb2
  have c2 := L2.cell
  have f2 := L2.frz
  have hB : Below w.heap.size w w2 := ((Below.refl _ _).alloc (Nat.le_refl _) _).trans (hb2.mono (by simp))
  cases neg
  all_goals
    go_wp2_with fail
    refine bodyPost_ret (by simp [results, Try.results91, go_sem, c2, f2] <;> rfl) rfl ⟨_, rfl, ?_, ?_⟩
    · refine ⟨_, by rw [sv_lt _ _ h.2]; simp; rfl, ?_⟩
      rw [sv_abs, ← trimL_dig h.2]
      exact (H2.keep (keep_set2 (by simp [Old]) _ _)).weak (by intro b _; simp [Old]; omega)
    · exact below_set2 hB (Nat.le_refl _) _ _
end Go.Proofs.Ytooheapikhdllaa

/- Facts carried from the world of their birth to the world at hand: the way between the two is found by itself. -/
namespace Go.Proofs.Ytooheapikhdllaa
open Go.RowKit

theorem size_set (w : World) (p : Addr) (u : Value) : (w.setCell p u).heap.size = w.heap.size := by simp [World.setCell]
theorem size_drew (w : World) : w.drew.heap.size = w.heap.size := rfl
theorem size_drewN (w : World) (n : Nat) : (w.drewN n).heap.size = w.heap.size := rfl

/-- Block g holds in w' what it held in w. -/
def Stay (g : Nat) (w w' : World) : Prop := g < w.heap.size → (w'.heap[g]? = w.heap[g]? ∧ g < w'.heap.size)
section
variable {X : Nat → Prop} {g B : Nat} {w w' E : World} {p : Addr} {u : Value} {t : TypeId} {cs : Array Value}
theorem Stay.refl : Stay g w w := fun h => ⟨rfl, h⟩
theorem Stay.drew (h : Stay g w E) : Stay g w E.drew := h
theorem Stay.drewN {n : Nat} (h : Stay g w E) : Stay g w (E.drewN n) := h
theorem Stay.below (h : Stay g w E) (k : Below E.heap.size E w') : Stay g w w' := fun hg => ⟨(k.block g (h hg).2).trans (h hg).1, Nat.lt_of_lt_of_le (h hg).2 k.size⟩
theorem Stay.alloc {o : Obj} (h : Stay g w E) : Stay g w (E.alloc o) := h.below (below1 _ _)
theorem Stay.far (h : Stay g w E) (hp : g ≠ p.block) : Stay g w (E.setCell p u) := fun hg => ⟨(Below.heap_setCell _ _ _ _ hp).trans (h hg).1, by rw [size_set]; exact (h hg).2⟩
theorem Stay.grown {row : Option Nat} (h : Stay g w E) (k : E.grownBy w' row) (hr : row ≠ some g) : Stay g w w' := fun hg => ⟨(k.block g (h hg).2 (fun e => hr e.symm)).trans (h hg).1, Nat.lt_of_lt_of_le (h hg).2 k.size⟩

theorem Keep.on (k : Keep X w E) (h : Below E.heap.size E w') : Keep X w w' := k.below h
theorem Keep.drewN {n : Nat} (k : Keep X w E) : Keep X w (E.drewN n) := ⟨k.size, k.block⟩
theorem Below.on (k : Below B w E) (h : Below E.heap.size E w') (hB : B ≤ E.heap.size) : Below B w w' := k.trans (h.mono hB)
theorem Below.drewN (k : Below B w E) {n : Nat} : Below B w (E.drewN n) := below_drewN k n

/-- The carrying of a block that is known whole. -/
theorem Loc.to (h : Loc w g t cs)
    (k : Stay g w w' := by
      repeat (first
        | (with_reducible exact Stay.refl) | (with_reducible refine Stay.drew ?_) | (with_reducible refine Stay.alloc ?_) | (with_reducible refine Stay.drewN ?_)
        | (with_reducible refine Stay.far ?_ ?_; rotate_left; (first | (simp only [Old, World.size_alloc, size_set, size_drew, size_drewN, ne_eq]; omega) | omega))
        | (with_reducible refine Stay.below ?_ (by assumption)))
      fail_if_success exfalso) : Loc w' g t cs := (k h.lt).1.trans h
theorem Loc.cells (h : Loc w g t cs)
    (k : Stay g w w' := by
      repeat (first
        | (with_reducible exact Stay.refl) | (with_reducible refine Stay.drew ?_) | (with_reducible refine Stay.alloc ?_) | (with_reducible refine Stay.drewN ?_)
        | (with_reducible refine Stay.far ?_ ?_; rotate_left; (first | (simp only [Old, World.size_alloc, size_set, size_drew, size_drewN, ne_eq]; omega) | omega))
        | (with_reducible refine Stay.below ?_ (by assumption)))
      fail_if_success exfalso) : ∀ i, w'.cell? ⟨g, i, none⟩ = cs[i]? := Loc.cell (h.to k)
theorem Loc.c (i : Nat) (h : Loc w g t cs)
    (k : Stay g w w' := by
      repeat (first
        | (with_reducible exact Stay.refl) | (with_reducible refine Stay.drew ?_) | (with_reducible refine Stay.alloc ?_) | (with_reducible refine Stay.drewN ?_)
        | (with_reducible refine Stay.far ?_ ?_; rotate_left; (first | (simp only [Old, World.size_alloc, size_set, size_drew, size_drewN, ne_eq]; omega) | omega))
        | (with_reducible refine Stay.below ?_ (by assumption)))
      fail_if_success exfalso) : w'.cell? ⟨g, i, none⟩ = cs[i]? := Loc.cell (h.to k) i
/-- What the walk asks of a block: its cells, that none is frozen, that it lies in the heap. -/
theorem Loc.all (h : Loc w g t cs)
    (k : Stay g w w' := by
      repeat (first
        | (with_reducible exact Stay.refl) | (with_reducible refine Stay.drew ?_) | (with_reducible refine Stay.alloc ?_) | (with_reducible refine Stay.drewN ?_)
        | (with_reducible refine Stay.far ?_ ?_; rotate_left; (first | (simp only [Old, World.size_alloc, size_set, size_drew, size_drewN, ne_eq]; omega) | omega))
        | (with_reducible refine Stay.below ?_ (by assumption)))
      fail_if_success exfalso) : (∀ i, w'.cell? ⟨g, i, none⟩ = cs[i]?) ∧ (∀ i, w'.frozen? ⟨g, i, none⟩ = false) ∧ g < w'.heap.size := ⟨Loc.cell (h.to k), Loc.frz (h.to k), Loc.lt (h.to k)⟩

/-- A block's facts laid from within a tactic: a failing way falls through. -/
theorem Loc.use {P : Prop} (w' : World) (h : Loc w g t cs) (k : Stay g w w') (f : Loc w' g t cs → (∀ i, w'.cell? ⟨g, i, none⟩ = cs[i]?) → (∀ i, w'.frozen? ⟨g, i, none⟩ = false) → g < w'.heap.size → P) : P := f (h.to k) (Loc.cell (h.to k)) (Loc.frz (h.to k)) (Loc.lt (h.to k))
variable {neg : Bool} {xs : List Nat} {v : Value} {z : Int} {Y : Nat → Prop}
theorem IntR.to (h : IntR w X v neg xs)
    (k : Keep X w w' := by
      repeat (first
        | (with_reducible exact Keep.refl _ _) | (with_reducible refine Keep.drew ?_) | (with_reducible refine Keep.alloc ?_ _) | (with_reducible refine Keep.drewN ?_)
        | (with_reducible refine Keep.set ?_ ?_ _; rotate_left; (first | (right; simp only [World.size_alloc, size_set, size_drew, size_drewN]; omega) | (right; omega) | (left; simp only [Old, World.size_alloc, size_set, size_drew, size_drewN]; omega) | (left; dsimp only; omega)))
        | (with_reducible refine Keep.on ?_ (by assumption)))
      fail_if_success exfalso) : IntR w' (fun _ => False) v neg xs := (h.keep k).weak (fun _ _ h => h.elim)
theorem IntV.to (h : IntV w X v z)
    (k : Keep X w w' := by
      repeat (first
        | (with_reducible exact Keep.refl _ _) | (with_reducible refine Keep.drew ?_) | (with_reducible refine Keep.alloc ?_ _) | (with_reducible refine Keep.drewN ?_)
        | (with_reducible refine Keep.set ?_ ?_ _; rotate_left; (first | (right; simp only [World.size_alloc, size_set, size_drew, size_drewN]; omega) | (right; omega) | (left; simp only [Old, World.size_alloc, size_set, size_drew, size_drewN]; omega) | (left; dsimp only; omega)))
        | (with_reducible refine Keep.on ?_ (by assumption)))
      fail_if_success exfalso) : IntV w' (fun _ => False) v z := (h.keep k).weak (fun _ _ h => h.elim)
/-- The same, the blocks that are kept out told anew. -/
theorem IntV.out (h : IntV w X v z)
    (k : Keep (fun b => X b ∨ Y b) w w' := by
      repeat (first
        | (with_reducible exact Keep.refl _ _) | (with_reducible refine Keep.drew ?_) | (with_reducible refine Keep.alloc ?_ _) | (with_reducible refine Keep.drewN ?_)
        | (with_reducible refine Keep.set ?_ ?_ _; rotate_left; (first | (right; simp only [World.size_alloc, size_set, size_drew, size_drewN]; omega) | (right; omega) | (left; simp only [Old, World.size_alloc, size_set, size_drew, size_drewN]; omega) | (left; dsimp only; omega) | (left; left; simp only [Old, World.size_alloc, size_set, size_drew, size_drewN]; omega) | (left; right; simp only [Old, World.size_alloc, size_set, size_drew, size_drewN]; omega) | (left; right; dsimp only; omega)))
        | (with_reducible refine Keep.on ?_ (by assumption)))
      fail_if_success exfalso)
    (hY : ∀ b, b < w.heap.size → Y b → X b := by intro b hw hb; (try simp only [Old, World.size_alloc, size_set, size_drew, size_drewN] at hw hb ⊢); first | omega | (exfalso; omega)) : IntV w' Y v z := ((h.weak (Y := fun b => X b ∨ Y b) (fun b hb hxy => hxy.elim id (hY b hb))).keep k).weak (fun b _ h => Or.inr h)

theorem IntR.out (h : IntR w X v neg xs)
    (k : Keep (fun b => X b ∨ Y b) w w' := by
      repeat (first
        | (with_reducible exact Keep.refl _ _) | (with_reducible refine Keep.drew ?_) | (with_reducible refine Keep.alloc ?_ _) | (with_reducible refine Keep.drewN ?_)
        | (with_reducible refine Keep.set ?_ ?_ _; rotate_left; (first | (right; simp only [World.size_alloc, size_set, size_drew, size_drewN]; omega) | (right; omega) | (left; simp only [Old, World.size_alloc, size_set, size_drew, size_drewN]; omega) | (left; dsimp only; omega) | (left; left; simp only [Old, World.size_alloc, size_set, size_drew, size_drewN]; omega) | (left; right; simp only [Old, World.size_alloc, size_set, size_drew, size_drewN]; omega) | (left; right; dsimp only; omega)))
        | (with_reducible refine Keep.on ?_ (by assumption)))
      fail_if_success exfalso)
    (hY : ∀ b, b < w.heap.size → Y b → X b := by intro b hw hb; (try simp only [Old, World.size_alloc, size_set, size_drew, size_drewN] at hw hb ⊢); first | omega | (exfalso; omega)) : IntR w' Y v neg xs := ((h.weak (Y := fun b => X b ∨ Y b) (fun b hb hxy => hxy.elim id (hY b hb))).keep k).weak (fun b _ h => Or.inr h)

theorem IntR.ws (h : IntR w X v neg xs) : Ws xs := let ⟨_, _, h⟩ := h; h.2
/-- The shape, its parts letters, and the fact again. -/
theorem IntR.op (h : IntR w X v neg xs) : ∃ A c, v = .agg #[.bool neg, .slice A xs.length c] ∧ IntR w X (.agg #[.bool neg, .slice A xs.length c]) neg xs := by
  have h0 := h
  obtain ⟨A, c, rfl, _⟩ := h.open_
  exact ⟨A, c, rfl, h0⟩
/-- The shape of a canonical struct: its sign and its length told. -/
theorem IntV.opb (h : IntV w X v z) : ∃ (b : Bool) (A : Option Addr) (n c : Nat), v = .agg #[.bool b, .slice A n c] ∧ IntV w X (.agg #[.bool b, .slice A n c]) z ∧ Hid (b = decide (z < 0)) ∧ Hid (n = (dig z.natAbs).length) := by
  have h0 := h
  obtain ⟨A, c, rfl, _, _, _⟩ := IntR.open_ h
  exact ⟨_, A, _, c, rfl, h0, rfl, rfl⟩
/-- Nothing below the call's first block has turned. -/
theorem bel (k : Below B w w' := by
      repeat (first
        | (with_reducible exact Below.refl _ _) | (with_reducible refine Below.drew ?_) | (with_reducible refine Below.drewN ?_)
        | (with_reducible refine Below.alloc ?_ ?_ _; rotate_left; (first | (simp only [World.size_alloc, size_set, size_drew, size_drewN]; omega) | omega))
        | (with_reducible refine Below.setCell ?_ ?_ _; rotate_left; (first | (simp only [World.size_alloc, size_set, size_drew, size_drewN]; omega) | omega))
        | (with_reducible refine Below.on ?_ (by assumption) ?_; rotate_left; (first | (simp only [World.size_alloc, size_set, size_drew, size_drewN]; omega) | omega)))
      fail_if_success exfalso) : Below B w w' := k

/-- A new block, by its number. -/
theorem Loc.made (w : World) (cs : Array Value) (t : TypeId) {n : Nat} (h : n = w.heap.size := by first | rfl | (simp only [World.size_alloc, size_set, size_drew, size_drewN]; omega)) : Loc (w.alloc (.cells cs t)) n t cs := by subst h; exact Loc.new w cs t
theorem made1 (w : World) (cs : Array Value) (t : TypeId) : Loc (w.alloc (.cells cs t)) w.heap.size t cs := Loc.new _ _ _
theorem made2 (w : World) (o1 : Obj) (cs : Array Value) (t : TypeId) : Loc ((w.alloc o1).alloc (.cells cs t)) (w.heap.size + 1) t cs := by simpa only [World.size_alloc] using Loc.new (w.alloc o1) cs t
theorem made3 (w : World) (o1 o2 : Obj) (cs : Array Value) (t : TypeId) : Loc (((w.alloc o1).alloc o2).alloc (.cells cs t)) (w.heap.size + 1 + 1) t cs := by simpa only [World.size_alloc] using Loc.new ((w.alloc o1).alloc o2) cs t
theorem made4 (w : World) (o1 o2 o3 : Obj) (cs : Array Value) (t : TypeId) : Loc ((((w.alloc o1).alloc o2).alloc o3).alloc (.cells cs t)) (w.heap.size + 1 + 1 + 1) t cs := by simpa only [World.size_alloc] using Loc.new (((w.alloc o1).alloc o2).alloc o3) cs t
theorem sz1 {B : Nat} {w w' : World} {o1 : Obj} (h : Below B (w.alloc o1) w') : w.heap.size < w'.heap.size := by have := h.size; simp only [World.size_alloc] at this; omega
theorem sz2 {B : Nat} {w w' : World} {o1 o2 : Obj} (h : Below B ((w.alloc o1).alloc o2) w') : w.heap.size < w'.heap.size ∧ w.heap.size + 1 < w'.heap.size := by have := h.size; simp only [World.size_alloc] at this; omega
theorem sz3 {B : Nat} {w w' : World} {o1 o2 o3 : Obj} (h : Below B (((w.alloc o1).alloc o2).alloc o3) w') : w.heap.size < w'.heap.size ∧ w.heap.size + 1 < w'.heap.size ∧ w.heap.size + 1 + 1 < w'.heap.size := by have := h.size; simp only [World.size_alloc] at this; omega
theorem sz4 {B : Nat} {w w' : World} {o1 o2 o3 o4 : Obj} (h : Below B ((((w.alloc o1).alloc o2).alloc o3).alloc o4) w') : w.heap.size < w'.heap.size ∧ w.heap.size + 1 < w'.heap.size ∧ w.heap.size + 1 + 1 < w'.heap.size ∧ w.heap.size + 1 + 1 + 1 < w'.heap.size := by have := h.size; simp only [World.size_alloc] at this; omega
theorem Loc.fill2 {a b u v : Value} (L : Loc w g t #[a, b]) : Loc ((w.setCell ⟨g, 0, none⟩ u).setCell ⟨g, 1, none⟩ v) g t #[u, v] := by
  have := (L.set 0 u).set 1 v
  simpa using this
theorem Loc.fill4 {a b c d u v x y : Value} (L : Loc w g t #[a, b, c, d]) : Loc ((((w.setCell ⟨g, 0, none⟩ u).setCell ⟨g, 1, none⟩ v).setCell ⟨g, 2, none⟩ x).setCell ⟨g, 3, none⟩ y) g t #[u, v, x, y] := by
  have := (((L.set 0 u).set 1 v).set 2 x).set 3 y
  simpa using this
/-- Two stores of two cells each, in either order. -/
theorem Loc.two_first {g' : Nat} {a b x y x' y' : Value} (h : g ≠ g') (L : Loc w g t #[a, b]) : Loc ((((w.setCell ⟨g, 0, none⟩ x).setCell ⟨g, 1, none⟩ y).setCell ⟨g', 0, none⟩ x').setCell ⟨g', 1, none⟩ y') g t #[x, y] := ((Loc.fill2 L).far (p := ⟨g', 0, none⟩) h _).far (p := ⟨g', 1, none⟩) h _
theorem Loc.two_last {g' : Nat} {a b x y x' y' : Value} (h : g ≠ g') (L : Loc w g t #[a, b]) : Loc ((((w.setCell ⟨g', 0, none⟩ x').setCell ⟨g', 1, none⟩ y').setCell ⟨g, 0, none⟩ x).setCell ⟨g, 1, none⟩ y) g t #[x, y] := Loc.fill2 ((L.far (p := ⟨g', 0, none⟩) h _).far (p := ⟨g', 1, none⟩) h _)
/-- Two stores of four cells each, in either order. -/
theorem Loc.two4_first {g' : Nat} {a b c d x1 x2 x3 x4 y1 y2 y3 y4 : Value} (h : g ≠ g') (L : Loc w g t #[a, b, c, d]) : Loc ((((((((w.setCell ⟨g, 0, none⟩ x1).setCell ⟨g, 1, none⟩ x2).setCell ⟨g, 2, none⟩ x3).setCell ⟨g, 3, none⟩ x4).setCell ⟨g', 0, none⟩ y1).setCell ⟨g', 1, none⟩ y2).setCell ⟨g', 2, none⟩ y3).setCell ⟨g', 3, none⟩ y4) g t #[x1, x2, x3, x4] :=
  ((((Loc.fill4 L).far (p := ⟨g', 0, none⟩) h _).far (p := ⟨g', 1, none⟩) h _).far (p := ⟨g', 2, none⟩) h _).far (p := ⟨g', 3, none⟩) h _
theorem Loc.two4_last {g' : Nat} {a b c d x1 x2 x3 x4 y1 y2 y3 y4 : Value} (h : g ≠ g') (L : Loc w g t #[a, b, c, d]) : Loc ((((((((w.setCell ⟨g', 0, none⟩ y1).setCell ⟨g', 1, none⟩ y2).setCell ⟨g', 2, none⟩ y3).setCell ⟨g', 3, none⟩ y4).setCell ⟨g, 0, none⟩ x1).setCell ⟨g, 1, none⟩ x2).setCell ⟨g, 2, none⟩ x3).setCell ⟨g, 3, none⟩ x4) g t #[x1, x2, x3, x4] :=
  Loc.fill4 ((((L.far (p := ⟨g', 0, none⟩) h _).far (p := ⟨g', 1, none⟩) h _).far (p := ⟨g', 2, none⟩) h _).far (p := ⟨g', 3, none⟩) h _)
end
end Go.Proofs.Ytooheapikhdllaa

/- math/bits: Sub32, Add32, Div32. -/
namespace Go.Proofs.Ytooheapikhdllaa
open Go.RowKit

/-- The borrow of x - y - b. -/
def bor (x y b : Nat) : Nat := if x < y + b then 1 else 0
theorem bor_le (x y b : Nat) : bor x y b ≤ 1 := by unfold bor; split <;> omega
/-- The word of x - y - b. -/
def dif (x y b : Nat) : Nat := (x + 4294967296 - y - b) % 4294967296
theorem dif_lt (x y b : Nat) : dif x y b < 4294967296 := by unfold dif; omega
theorem dif_bor (x y b : Nat) (hx : x < 4294967296) (hy : y < 4294967296) (hb : b ≤ 1) : dif x y b + y + b = x + 4294967296 * bor x y b := by
  unfold dif bor
  split <;> omega

theorem top_bit (n : Nat) (h : n < 4294967296) : n / 2147483648 = if n.testBit 31 then 1 else 0 := by
  rw [Nat.testBit_eq_decide_div_mod_eq]
  by_cases h1 : n / 2 ^ 31 % 2 = 1
  · simp only [h1, decide_true, if_true]; omega
  · simp only [h1, decide_false]; simp; omega

theorem test_top (n : Nat) (h : n < 4294967296) : n.testBit 31 = decide (2147483648 ≤ n) := by
  rw [Nat.testBit_eq_decide_div_mod_eq]
  congr 1
  simp only [eq_iff_iff]
  constructor <;> intro _ <;> omega

theorem sub32_bits (x y b : Nat) (hx : x < 4294967296) (hy : y < 4294967296) (hb : b ≤ 1) :
    bits BinOp.or IntKind.u32 (bits BinOp.and IntKind.u32 (bits BinOp.xor IntKind.u32 IntKind.u32.max (x : Int)) (y : Int))
      (bits BinOp.and IntKind.u32 (bits BinOp.xor IntKind.u32 IntKind.u32.max (bits BinOp.xor IntKind.u32 (x : Int) (y : Int))) (((x : Int) - (y : Int) - (b : Int)) % 4294967296)) / 2147483648 = ((bor x y b : Nat) : Int) := by
  have hm : IntKind.u32.max = ((4294967295 : Nat) : Int) := by decide
  have hd : ((x : Int) - (y : Int) - (b : Int)) % 4294967296 = ((dif x y b : Nat) : Int) := by unfold dif; omega
  have hdl := dif_lt x y b
  have x1 : x ^^^ y < 4294967296 := Nat.xor_lt_two_pow (n := 32) hx hy
  have x2 : 4294967295 ^^^ (x ^^^ y) < 4294967296 := Nat.xor_lt_two_pow (n := 32) (by omega) x1
  have x3 : 4294967295 ^^^ x < 4294967296 := Nat.xor_lt_two_pow (n := 32) (by omega) hx
  have x4 : (4294967295 ^^^ x) &&& y < 4294967296 := Nat.and_lt_two_pow (n := 32) _ hy
  have x5 : (4294967295 ^^^ (x ^^^ y)) &&& dif x y b < 4294967296 := Nat.and_lt_two_pow (n := 32) _ hdl
  have x6 : ((4294967295 ^^^ x) &&& y) ||| ((4294967295 ^^^ (x ^^^ y)) &&& dif x y b) < 4294967296 := Nat.or_lt_two_pow (n := 32) x4 x5
  rw [hm, hd, u32_xor_nat _ _ (by omega) hx, u32_and_nat _ _ x3 hy, u32_xor_nat _ _ hx hy, u32_xor_nat _ _ (by omega) x1, u32_and_nat _ _ x2 hdl, u32_or_nat _ _ x4 x5]
  have key : (((4294967295 ^^^ x) &&& y) ||| ((4294967295 ^^^ (x ^^^ y)) &&& dif x y b)) / 2147483648 = bor x y b := by
    rw [top_bit _ x6, Nat.testBit_or, Nat.testBit_and, Nat.testBit_and, Nat.testBit_xor, Nat.testBit_xor, Nat.testBit_xor, test_top x hx, test_top y hy, test_top _ hdl, test_top 4294967295 (by omega)]
    unfold dif bor
    by_cases h1 : 2147483648 ≤ x <;> by_cases h2 : 2147483648 ≤ y <;> by_cases h3 : 2147483648 ≤ (x + 4294967296 - y - b) % 4294967296 <;> by_cases h4 : x < y + b <;> simp [h1, h2, h3, h4] <;> omega
  rw [← key]
  omega

set_option maxHeartbeats 400000 in
theorem sub32_any (w : World) (x y b : Nat) (hx : x < 4294967296) (hy : y < 4294967296) (hb : b ≤ 1) :
    Calls Try.prog 121 #[.int .u32 x, .int .u32 y, .int .u32 b] w fun e w' => e = .returned (.tuple #[.int .u32 (dif x y b : Nat), .int .u32 (bor x y b : Nat)]) ∧ w = w' := by
  have h := sub32_bits x y b hx hy hb
  have hd : ((x : Int) - (y : Int) - (b : Int)) % 4294967296 = ((dif x y b : Nat) : Int) := by unfold dif; omega
  have H := Lib.hid h
  have HD := Lib.hid hd
  clear h hd
  go_enter Try.func121, Try.ntmps121
  go_wp2
  go_ret2
  refine ⟨?_, rfl⟩
  rw [← H.out, ← HD.out]
  rfl

set_option maxHeartbeats 400000 in
theorem add32_any (w : World) (x y b : Nat) (hx : x < 4294967296) (hy : y < 4294967296) (hb : b ≤ 1) :
    Calls Try.prog 122 #[.int .u32 x, .int .u32 y, .int .u32 b] w fun e w' => e = .returned (.tuple #[.int .u32 (((x + y + b) % 4294967296 : Nat) : Int), .int .u32 (((x + y + b) / 4294967296 : Nat) : Int)]) ∧ w = w' := by
  go_enter Try.func122, Try.ntmps122
  go_wp2
  go_ret2
  exact ⟨ret_eq (by simp), rfl⟩

theorem div_lt_32 (hi lo y : Nat) (hx : hi < y) (hl : lo < 4294967296) : (hi * 4294967296 + lo) / y < 4294967296 := by
  rw [Nat.div_lt_iff_lt_mul (by omega)]
  have : (hi + 1) * 4294967296 ≤ y * 4294967296 := Nat.mul_le_mul_right _ hx
  rw [Nat.mul_comm 4294967296]
  omega

theorem join_u64 (hi lo : Nat) (hx : hi < 4294967296) (hl : lo < 4294967296) : bits BinOp.or IntKind.u64 ((hi : Int) * 4294967296) (lo : Int) = ((hi * 4294967296 + lo : Nat) : Int) := by
  have h := bits_join .u64 64 (by decide) (fun n h0 h1 => by rw [IntKind.wrap_u64]; omega) 32 ((hi : Int) * 4294967296) (lo : Int) (by omega) (by omega) (by omega) (by omega) (by omega) (by omega)
  rw [h]; omega

set_option maxHeartbeats 400000 in
theorem div32_any (w : World) (hi lo y : Nat) (hx : hi < y) (hl : lo < 4294967296) (hy : y < 4294967296) :
    Calls Try.prog 120 #[.int .u32 hi, .int .u32 lo, .int .u32 y] w fun e w' => e = .returned (.tuple #[.int .u32 (((hi * 4294967296 + lo) / y : Nat) : Int), .int .u32 (((hi * 4294967296 + lo) % y : Nat) : Int)]) ∧ ∃ n, w' = w.drewN n := by
  have h1 : ((y : Int) != 0) = true := by rw [bne_iff_ne]; omega
  have h2 : decide ((y : Int) ≤ (hi : Int)) = false := by simp; omega
  have h3 : ¬ ((y : Int) ≤ (hi : Int)) := by omega
  have q1 := div_lt_32 hi lo y hx hl
  have r1 : (hi * 4294967296 + lo) % y < 4294967296 := Nat.lt_trans (Nat.mod_lt _ (by omega)) hy
  have hz := join_u64 hi lo (by omega) hl
  generalize hi * 4294967296 + lo = Z at hz q1 r1 ⊢
  have q2 : (Z : Int) / (y : Int) < 4294967296 := by rw [← Int.natCast_ediv]; omega
  have r2 : (Z : Int) % (y : Int) < 4294967296 := by rw [← Int.natCast_emod]; omega
  have q0 : 0 ≤ (Z : Int) / (y : Int) := Int.ediv_nonneg (by omega) (by omega)
  have r0 : 0 ≤ (Z : Int) % (y : Int) := Int.emod_nonneg _ (by omega)
  have y1 : (1 : Int) ≤ (y : Int) := by omega
  go_enter Try.func120, Try.ntmps120
  go_wp2
  go_quiet (fail)
  go_wp2
  go_ret2
  exact ⟨ret_eq (by simp), _, rfl⟩
end Go.Proofs.Ytooheapikhdllaa

/- The word of a quotient: the plain law of digit. -/
namespace Go.Proofs.Ytooheapikhdllaa
open Go.RowKit

/-- V and U by their upper words: N a power of the base. -/
structure Split (N V U ylo v2 vt ulo u2 u1 u0 : Nat) : Prop where
  hN : 0 < N
  hV : V = ylo + N * (v2 + 4294967296 * vt)
  hU : U = ulo + N * (u2 + 4294967296 * (u1 + 4294967296 * u0))
  hy : ylo < N
  hu : ulo < N
  hv2 : v2 < 4294967296
  hu2 : u2 < 4294967296
  hu1 : u1 < 4294967296
  hvt : 2147483648 ≤ vt
  hvt2 : vt < 4294967296
  hlt : U < 4294967296 * V

section
variable {N V U ylo v2 vt ulo u2 u1 u0 : Nat} (S : Split N V U ylo v2 vt ulo u2 u1 u0)
include S
theorem Split.posV : 0 < V := by
  have h := S.hV
  have : N * 1 ≤ N * (v2 + 4294967296 * vt) := Nat.mul_le_mul_left _ (by have := S.hvt; omega)
  have := S.hN
  omega
theorem Split.top_le : u0 ≤ vt := by
  have h1 : N * (4294967296 * (4294967296 * u0)) ≤ U := by
    rw [S.hU]
    have : N * (4294967296 * (4294967296 * u0)) ≤ N * (u2 + 4294967296 * (u1 + 4294967296 * u0)) := Nat.mul_le_mul_left _ (by omega)
    omega
  have h2 : V < N * (v2 + 4294967296 * vt + 1) := by
    rw [S.hV, Nat.mul_add N (v2 + 4294967296 * vt) 1]
    have := S.hy
    omega
  have h3 : N * (v2 + 4294967296 * vt + 1) ≤ N * (4294967296 * (vt + 1)) := Nat.mul_le_mul_left _ (by have := S.hv2; omega)
  have h4 : N * (4294967296 * (4294967296 * u0)) < N * (4294967296 * (4294967296 * (vt + 1))) := by
    have e1 : N * (4294967296 * (4294967296 * (vt + 1))) = 4294967296 * (N * (4294967296 * (vt + 1))) := by rw [Nat.mul_left_comm]
    rw [e1]
    have := S.hlt
    omega
  have h5 := Nat.lt_of_mul_lt_mul_left h4
  omega
theorem Split.top_lt : u1 + 4294967296 * u0 < 4294967296 * (vt + 1) := by
  have := S.top_le
  have := S.hu1
  omega
theorem Split.q_top : U / V * vt ≤ u1 + 4294967296 * u0 := by
  have h1 := Nat.div_mul_le_self U V
  generalize U / V = q at *
  have h2 : q * (N * (4294967296 * vt)) ≤ q * V := Nat.mul_le_mul_left _ (by
    rw [S.hV]
    have : N * (4294967296 * vt) ≤ N * (v2 + 4294967296 * vt) := Nat.mul_le_mul_left _ (by omega)
    omega)
  have h3 : U < N * (4294967296 * (u1 + 4294967296 * u0 + 1)) := by
    rw [S.hU]
    have : N * (u2 + 4294967296 * (u1 + 4294967296 * u0) + 1) ≤ N * (4294967296 * (u1 + 4294967296 * u0 + 1)) := Nat.mul_le_mul_left _ (by have := S.hu2; omega)
    rw [Nat.mul_add N _ 1] at this
    have := S.hu
    omega
  have e : q * (N * (4294967296 * vt)) = N * (4294967296 * (q * vt)) := by rw [Nat.mul_left_comm q N, Nat.mul_left_comm q 4294967296]
  have h4 : N * (4294967296 * (q * vt)) < N * (4294967296 * (u1 + 4294967296 * u0 + 1)) := by omega
  have h5 := Nat.lt_of_mul_lt_mul_left h4
  omega
theorem Split.q_lt : U / V < 4294967296 := by
  rw [Nat.div_lt_iff_lt_mul S.posV]
  exact S.hlt
/-- The test says that the guess is too great. -/
theorem Split.less {g r : Nat} (hg : g * vt + r = u1 + 4294967296 * u0) (h : 4294967296 ≤ g ∨ r * 4294967296 + u2 < g * v2) : U / V < g := by
  rcases h with h | h
  · have := S.q_lt; omega
  · refine Nat.lt_of_not_le fun hle => ?_
    have h1 : g * V ≤ U := Nat.le_trans (Nat.mul_le_mul_right _ hle) (Nat.div_mul_le_self U V)
    have h2 : g * (N * (v2 + 4294967296 * vt)) ≤ g * V := Nat.mul_le_mul_left _ (by rw [S.hV]; omega)
    have h3 : U < N * (u2 + 4294967296 * (u1 + 4294967296 * u0) + 1) := by rw [S.hU, Nat.mul_add N _ 1]; have := S.hu; omega
    have e : g * (N * (v2 + 4294967296 * vt)) = N * (g * v2 + 4294967296 * (g * vt)) := by rw [Nat.mul_left_comm g N, Nat.mul_add g, Nat.mul_left_comm g 4294967296]
    have h4 : N * (g * v2 + 4294967296 * (g * vt)) < N * (u2 + 4294967296 * (u1 + 4294967296 * u0) + 1) := by omega
    have h5 := Nat.lt_of_mul_lt_mul_left h4
    omega
/-- The guess at the end is too great by at most one. -/
theorem Split.near {g r : Nat} (hg : g * vt + r = u1 + 4294967296 * u0) (hb : g < 4294967296) (h : g * v2 ≤ r * 4294967296 + u2) : g ≤ U / V + 1 := by
  have h1 : N * (g * v2 + 4294967296 * (g * vt)) ≤ U := by
    rw [S.hU]
    have : N * (g * v2 + 4294967296 * (g * vt)) ≤ N * (u2 + 4294967296 * (u1 + 4294967296 * u0)) := Nat.mul_le_mul_left _ (by omega)
    omega
  have h2 : g * ylo ≤ 4294967295 * N := Nat.mul_le_mul (by omega) (Nat.le_of_lt S.hy)
  have h3 : N * 4294967296 ≤ V := by
    rw [S.hV]
    have : N * 4294967296 ≤ N * (v2 + 4294967296 * vt) := Nat.mul_le_mul_left _ (by have := S.hvt; omega)
    omega
  have e : g * V = g * ylo + N * (g * v2 + 4294967296 * (g * vt)) := by
    have := S.hV
    rw [this, Nat.mul_add, Nat.mul_left_comm g N, Nat.mul_add g, Nat.mul_left_comm g 4294967296]
  have h4 : g * V < U + V := by have := S.hN; omega
  have h5 : g * V < (U / V + 1 + 1) * V := by
    have := Nat.div_add_mod U V
    have h6 := Nat.mod_lt U S.posV
    rw [Nat.add_mul, Nat.add_mul, Nat.mul_comm (U / V) V]
    omega
  have := Nat.lt_of_mul_lt_mul_right h5
  omega
theorem Split.broke {g r : Nat} (hg : g * vt + r = u1 + 4294967296 * u0) (hr : 4294967296 ≤ r) : g < 4294967296 ∧ g * v2 ≤ r * 4294967296 + u2 := by
  have h1 := S.top_lt
  have h2 : g * vt < 4294967296 * vt := by omega
  have h3 := Nat.lt_of_mul_lt_mul_right h2
  refine ⟨h3, ?_⟩
  have h4 : g * v2 ≤ 4294967296 * 4294967296 := Nat.mul_le_mul (by omega) (by have := S.hv2; omega)
  omega
theorem Split.first : (u1 + 4294967296 * u0) / vt ≤ 4294967298 ∧ U / V ≤ (u1 + 4294967296 * u0) / vt := by
  constructor
  · rw [← Nat.lt_succ_iff]
    rw [Nat.div_lt_iff_lt_mul (by have := S.hvt; omega)]
    have := S.top_lt
    have := S.hvt
    omega
  · rw [Nat.le_div_iff_mul_le (by have := S.hvt; omega)]
    exact S.q_top
end

/-- Multiply and subtract, one word. -/
theorem msub_step (nk ok yk B g c b u y d p c' b' : Nat) (hinv : nk + g * yk = ok + B * (c + b)) (hp : p = c + g * y) (hc : c' = p / 4294967296) (hd : d + p % 4294967296 + b = u + 4294967296 * b') :
    (nk + B * d) + g * (yk + B * y) = (ok + B * u) + B * 4294967296 * (c' + b') := by
  have h1 := Nat.div_add_mod p 4294967296
  rw [← hc] at h1
  have h2 : d + g * y + c + b = u + 4294967296 * (c' + b') := by omega
  have h3 : B * (d + g * y + c + b) = B * (u + 4294967296 * (c' + b')) := by rw [h2]
  simp only [Nat.mul_add] at h3 hinv ⊢
  rw [Nat.mul_left_comm g B y, Nat.mul_assoc B 4294967296 c', Nat.mul_assoc B 4294967296 b']
  omega
/-- Add back, one word. -/
theorem addb_step (nk ok yk B c u y : Nat) (hinv : nk + B * c = ok + yk) :
    (nk + B * ((u + y + c) % 4294967296)) + B * 4294967296 * ((u + y + c) / 4294967296) = (ok + B * u) + (yk + B * y) := by
  have h1 := Nat.div_add_mod (u + y + c) 4294967296
  generalize (u + y + c) / 4294967296 = e at *
  generalize (u + y + c) % 4294967296 = r at *
  have h3 : B * (4294967296 * e + r) = B * (u + y + c) := by rw [h1]
  simp only [Nat.mul_add] at h3 ⊢
  rw [Nat.mul_assoc B]
  omega
/-- The end of multiply and subtract: nw the n + 1 new words. -/
theorem msub_end {nw g V U T b : Nat} (h : nw + g * V = U + T * b) (hw : nw < T) (hb : b ≤ 1) (hV : 0 < V) (h1 : U / V ≤ g) (h2 : g ≤ U / V + 1) (hUT : U % V < T) :
    (b = 0 → g = U / V ∧ nw = U % V) ∧ (b = 1 → g = U / V + 1 ∧ nw + V = T + U % V) := by
  have hd := Nat.div_add_mod U V
  rcases (by omega : g = U / V ∨ g = U / V + 1) with hg | hg
  · rw [hg, Nat.mul_comm] at h
    have h3 : nw + U % V = nw + U % V := rfl
    refine ⟨fun h0 => ⟨hg, by rw [h0, Nat.mul_zero] at h; omega⟩, fun h0 => ?_⟩
    rw [h0, Nat.mul_one] at h
    omega
  · rw [hg, Nat.add_mul, Nat.one_mul, Nat.mul_comm (U / V)] at h
    refine ⟨fun h0 => ?_, fun h0 => ⟨hg, by rw [h0, Nat.mul_one] at h; omega⟩⟩
    rw [h0, Nat.mul_zero] at h
    have := Nat.mod_lt U hV
    omega
end Go.Proofs.Ytooheapikhdllaa

/- A block of words known whole. -/
namespace Go.Proofs.Ytooheapikhdllaa
open Go.RowKit

/-- Block g is just the words zs. -/
def Row (w : World) (g : Nat) (zs : List Nat) : Prop := Loc w g 82 (nums .u32 zs).toArray

section
variable {w w' : World} {g : Nat} {zs : List Nat}
theorem Row.of_own {base n : Nat} (h : w.ownsRow base 82 1 (.slice (some ⟨g, 0, none⟩) n n) n (nums .u32 zs)) : Row w g zs ∧ zs.length = n := by
  have hl := h.1
  rw [nums_length, Nat.mul_one] at hl
  refine ⟨?_, hl⟩
  rcases h.2 with ⟨h', _⟩ | ⟨g', cap', cur, h', _, hg, _, _, hsz, htake⟩
  · simp at h'
  · simp only [Value.slice.injEq, Option.some.injEq, Addr.mk.injEq, and_true, true_and] at h'
    obtain ⟨rfl, rfl⟩ := h'
    have : cur.toList = nums .u32 zs := by
      rw [← htake, List.take_of_length_le (by simp; omega)]
    unfold Row Loc
    rw [hg, ← this]
theorem Row.cell (h : Row w g zs) {k : Nat} (hk : k < zs.length) : w.cell? ⟨g, k, none⟩ = some (.int .u32 ((zs[k] : Nat) : Int)) := by
  rw [Loc.cell h, List.getElem?_toArray, nums_get hk]
theorem Row.frz (h : Row w g zs) (k : Nat) : w.frozen? ⟨g, k, none⟩ = false := Loc.frz h k
theorem Row.lt (h : Row w g zs) : g < w.heap.size := Loc.lt h
theorem Row.set (h : Row w g zs) (i y : Nat) : Row (w.setCell ⟨g, i, none⟩ (.int .u32 ((y : Nat) : Int))) g (zs.set i y) := by
  have := Loc.set h i (.int .u32 ((y : Nat) : Int))
  unfold Row
  rw [List.setIfInBounds_toArray, nums_set] at this
  exact this
theorem Row.below (h : Row w g zs) (hb : Below w.heap.size w w') : Row w' g zs := Loc.below h hb
theorem Row.drewN (h : Row w g zs) (n : Nat) : Row (w.drewN n) g zs := h
theorem Row.words {X : Nat → Prop} (h : Row w g zs) (hw : Ws zs) (hX : ¬ X g) (hl : zs.length ≤ maxLen) : Words w X (.slice (some ⟨g, 0, none⟩) zs.length zs.length) zs := Words.lit zs h hw hX hl
end
theorem below_grown {B : Nat} {w0 w w' : World} {g : Nat} (h : Below B w0 w) (hg : w.grownBy w' (some g)) (hw : B ≤ w.heap.size) (hB : B ≤ g) : Below B w0 w' := h.grown hg hw fun k hk => by injection hk with hk; omega
theorem grown_refl (w : World) (r : Option Nat) : w.grownBy w r := ⟨rfl, rfl, rfl, Nat.le_refl _, fun _ _ _ => rfl⟩
theorem keep_grown {X : Nat → Prop} {w w' : World} {g : Nat} (h : w.grownBy w' (some g)) (hX : X g) : Keep X w w' := (Keep.refl X w).grown h fun k hk => by injection hk with hk; subst hk; exact .inl hX
end Go.Proofs.Ytooheapikhdllaa

