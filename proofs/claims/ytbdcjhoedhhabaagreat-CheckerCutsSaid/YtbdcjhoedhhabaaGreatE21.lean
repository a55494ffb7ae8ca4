/- Contracts of the functions that the statements reach, part 21. -/
import Derived.Test.YtbdcjhoedhhabaaGreatRows
import Derived.Laws.BitsAllLaws
import Derived.Deep.QuietTactic
import Derived.BigQuiet
import Derived.Lib.EndianBits
import Derived.Deep.DeepCutAuto
import Derived.Deep.CutBlock
import Derived.Lib.BitFns
import Derived.Lib.Walk
import Derived.Deep.RegionHeld3
import Derived.Deep.DrawnRows
import Derived.Laws.OwnMore
import Derived.Lib.Strings
import Derived.Lib.Slices
import Derived.Laws.Strings3
import Derived.Deep.LoopGhost
import Derived.Laws.IdiomStrings
import Derived.Test.YtbdcjhoedhhabaaGreatE3
import Derived.Test.YtbdcjhoedhhabaaGreatE20
set_option linter.unusedSimpArgs false
set_option linter.unusedVariables false

/- Facts carried from the world of their birth to the world at hand: the way between the two is found by itself. -/
namespace Go.Proofs.YtbdcjhoedhhabaaGreat
open Go.RowKit

theorem size_set (w : World) (p : Addr) (u : Value) : (w.setCell p u).heap.size = w.heap.size := by simp [World.setCell]
theorem size_drew (w : World) : w.drew.heap.size = w.heap.size := rfl
theorem size_drewN (w : World) (n : Nat) : (w.drewN n).heap.size = w.heap.size := rfl
/-- The four sizes in one. -/
abbrev zs := And.intro @World.size_alloc (And.intro @size_set (And.intro @size_drew @size_drewN))

/-- Block g holds in w' what it held in w. -/
def Stay (g : Nat) (w w' : World) : Prop := g < w.heap.size → (w'.heap[g]? = w.heap[g]? ∧ g < w'.heap.size)
section
variable {X : Nat → Prop} {g B : Nat} {w w' E : World} {p : Addr} {u : Value} {t : TypeId} {cs : Array Value}
theorem Stay.refl : Stay g w w := fun h => ⟨rfl, h⟩
theorem Stay.drew (h : Stay g w E) : Stay g w E.drew := h
theorem Stay.drewN {n : Nat} (h : Stay g w E) : Stay g w (E.drewN n) := h
theorem Stay.below (h : Stay g w E) (k : Below E.heap.size E w') : Stay g w w' := fun hg => ⟨(k.block g (h hg).2).trans (h hg).1, Nat.lt_of_lt_of_le (h hg).2 k.size⟩
theorem Stay.alloc {o : Obj} (h : Stay g w E) : Stay g w (E.alloc o) := h.below (below1 _ _)
theorem Stay.far (h : Stay g w E) (hp : g ≠ p.block) : Stay g w (E.setCell p u) := fun hg => ⟨(Below.heap_setCell _ _ _ _ hp).trans (h hg).1, by rw [size_set]; exact (h hg).2⟩
theorem Stay.grown {row : Option Nat} (h : Stay g w E) (k : E.grownBy w' row) (hr : row ≠ some g) : Stay g w w' := fun hg => ⟨(k.block g (h hg).2 (fun e => hr e.symm)).trans (h hg).1, Nat.lt_of_lt_of_le (h hg).2 k.size⟩

theorem Keep.on (k : Keep X w E) (h : Below E.heap.size E w') : Keep X w w' := k.below h
theorem Keep.drewN {n : Nat} (k : Keep X w E) : Keep X w (E.drewN n) := ⟨k.size, k.block, k.env⟩
theorem Below.on (k : Below B w E) (h : Below E.heap.size E w') (hB : B ≤ E.heap.size) : Below B w w' := k.trans (h.mono hB)
theorem Below.drewN (k : Below B w E) {n : Nat} : Below B w (E.drewN n) := below_drewN k n

/-- The carrying of a block that is known whole. -/
theorem Loc.to (h : Loc w g t cs)
 (k : Stay g w w' := by
  repeat (first
   | (with_reducible exact Stay.refl) | (with_reducible refine Stay.drew ?_) | (with_reducible refine Stay.alloc ?_) | (with_reducible refine Stay.drewN ?_)
   | (with_reducible refine Stay.far ?_ ?_; rotate_left; (first | (simp only [Old, World.size_alloc, size_set, size_drew, size_drewN, ne_eq]; omega) | omega))
   | (with_reducible refine Stay.below ?_ (by assumption)))
  fail_if_success exfalso) : Loc w' g t cs := (k h.lt).1.trans h
theorem Loc.cells (h : Loc w g t cs)
 (k : Stay g w w' := by
  repeat (first
   | (with_reducible exact Stay.refl) | (with_reducible refine Stay.drew ?_) | (with_reducible refine Stay.alloc ?_) | (with_reducible refine Stay.drewN ?_)
   | (with_reducible refine Stay.far ?_ ?_; rotate_left; (first | (simp only [Old, World.size_alloc, size_set, size_drew, size_drewN, ne_eq]; omega) | omega))
   | (with_reducible refine Stay.below ?_ (by assumption)))
  fail_if_success exfalso) : ∀ i, w'.cell? ⟨g, i, none⟩ = cs[i]? := Loc.cell (h.to k)
theorem Loc.c (i : Nat) (h : Loc w g t cs)
 (k : Stay g w w' := by
  repeat (first
   | (with_reducible exact Stay.refl) | (with_reducible refine Stay.drew ?_) | (with_reducible refine Stay.alloc ?_) | (with_reducible refine Stay.drewN ?_)
   | (with_reducible refine Stay.far ?_ ?_; rotate_left; (first | (simp only [Old, World.size_alloc, size_set, size_drew, size_drewN, ne_eq]; omega) | omega))
   | (with_reducible refine Stay.below ?_ (by assumption)))
  fail_if_success exfalso) : w'.cell? ⟨g, i, none⟩ = cs[i]? := Loc.cell (h.to k) i
/-- What the walk asks of a block: its cells, that none is frozen, that it lies in the heap. -/
theorem Loc.all (h : Loc w g t cs)
 (k : Stay g w w' := by
  repeat (first
   | (with_reducible exact Stay.refl) | (with_reducible refine Stay.drew ?_) | (with_reducible refine Stay.alloc ?_) | (with_reducible refine Stay.drewN ?_)
   | (with_reducible refine Stay.far ?_ ?_; rotate_left; (first | (simp only [Old, World.size_alloc, size_set, size_drew, size_drewN, ne_eq]; omega) | omega))
   | (with_reducible refine Stay.below ?_ (by assumption)))
  fail_if_success exfalso) : (∀ i, w'.cell? ⟨g, i, none⟩ = cs[i]?) ∧ (∀ i, w'.frozen? ⟨g, i, none⟩ = false) ∧ g < w'.heap.size := ⟨Loc.cell (h.to k), Loc.frz (h.to k), Loc.lt (h.to k)⟩

variable {neg : Bool} {xs : List Nat} {v : Value} {z : Int} {Y : Nat → Prop}
theorem IntR.to (h : IntR w X v neg xs)
 (k : Keep X w w' := by
  repeat (first
   | (with_reducible exact Keep.refl _ _) | (with_reducible refine Keep.drew ?_) | (with_reducible refine Keep.alloc ?_ _) | (with_reducible refine Keep.drewN ?_)
   | (with_reducible refine Keep.set ?_ ?_ _; rotate_left; (first | (right; simp only [World.size_alloc, size_set, size_drew, size_drewN]; omega) | (right; omega) | (left; simp only [Old, World.size_alloc, size_set, size_drew, size_drewN]; omega) | (left; dsimp only; omega)))
   | (with_reducible refine Keep.on ?_ (by assumption)))
  fail_if_success exfalso) : IntR w' (fun _ => False) v neg xs := (h.keep k).weak (fun _ _ h => h.elim)
theorem IntV.to (h : IntV w X v z)
 (k : Keep X w w' := by
  repeat (first
   | (with_reducible exact Keep.refl _ _) | (with_reducible refine Keep.drew ?_) | (with_reducible refine Keep.alloc ?_ _) | (with_reducible refine Keep.drewN ?_)
   | (with_reducible refine Keep.set ?_ ?_ _; rotate_left; (first | (right; simp only [World.size_alloc, size_set, size_drew, size_drewN]; omega) | (right; omega) | (left; simp only [Old, World.size_alloc, size_set, size_drew, size_drewN]; omega) | (left; dsimp only; omega)))
   | (with_reducible refine Keep.on ?_ (by assumption)))
  fail_if_success exfalso) : IntV w' (fun _ => False) v z := (h.keep k).weak (fun _ _ h => h.elim)
/-- The same, the blocks that are kept out told anew. -/
theorem IntV.out (h : IntV w X v z)
 (k : Keep (fun b => X b ∨ Y b) w w' := by
  repeat (first
   | (with_reducible exact Keep.refl _ _) | (with_reducible refine Keep.drew ?_) | (with_reducible refine Keep.alloc ?_ _) | (with_reducible refine Keep.drewN ?_)
   | (with_reducible refine Keep.set ?_ ?_ _; rotate_left; (first | (right; simp only [World.size_alloc, size_set, size_drew, size_drewN]; omega) | (right; omega) | (left; simp only [Old, World.size_alloc, size_set, size_drew, size_drewN]; omega) | (left; dsimp only; omega) | (left; left; simp only [Old, World.size_alloc, size_set, size_drew, size_drewN]; omega) | (left; right; simp only [Old, World.size_alloc, size_set, size_drew, size_drewN]; omega) | (left; right; dsimp only; omega)))
   | (with_reducible refine Keep.on ?_ (by assumption)))
  fail_if_success exfalso)
 (hY : ∀ b, b < w.heap.size → Y b → X b := by intro b hw hb; (try simp only [Old, World.size_alloc, size_set, size_drew, size_drewN] at hw hb ⊢); first | omega | (exfalso; omega)) : IntV w' Y v z := ((h.weak (Y := fun b => X b ∨ Y b) (fun b hb hxy => hxy.elim id (hY b hb))).keep k).weak (fun b _ h => Or.inr h)

theorem IntR.out (h : IntR w X v neg xs)
 (k : Keep (fun b => X b ∨ Y b) w w' := by
  repeat (first
   | (with_reducible exact Keep.refl _ _) | (with_reducible refine Keep.drew ?_) | (with_reducible refine Keep.alloc ?_ _) | (with_reducible refine Keep.drewN ?_)
   | (with_reducible refine Keep.set ?_ ?_ _; rotate_left; (first | (right; simp only [World.size_alloc, size_set, size_drew, size_drewN]; omega) | (right; omega) | (left; simp only [Old, World.size_alloc, size_set, size_drew, size_drewN]; omega) | (left; dsimp only; omega) | (left; left; simp only [Old, World.size_alloc, size_set, size_drew, size_drewN]; omega) | (left; right; simp only [Old, World.size_alloc, size_set, size_drew, size_drewN]; omega) | (left; right; dsimp only; omega)))
   | (with_reducible refine Keep.on ?_ (by assumption)))
  fail_if_success exfalso)
 (hY : ∀ b, b < w.heap.size → Y b → X b := by intro b hw hb; (try simp only [Old, World.size_alloc, size_set, size_drew, size_drewN] at hw hb ⊢); first | omega | (exfalso; omega)) : IntR w' Y v neg xs := ((h.weak (Y := fun b => X b ∨ Y b) (fun b hb hxy => hxy.elim id (hY b hb))).keep k).weak (fun b _ h => Or.inr h)

theorem IntR.ws (h : IntR w X v neg xs) : Ws xs := let ⟨_, _, h⟩ := h; h.2
/-- The shape, its parts letters, and the fact again. -/
theorem IntR.op (h : IntR w X v neg xs) : ∃ A c, v = .agg #[.bool neg, .slice A xs.length c] ∧ IntR w X (.agg #[.bool neg, .slice A xs.length c]) neg xs := by
 have h0 := h
 obtain ⟨A, c, rfl, _⟩ := h.open_
 exact ⟨A, c, rfl, h0⟩
/-- Nothing below the call's first block has turned. -/
theorem bel (k : Below B w w' := by
 repeat (first
  | (with_reducible exact Below.refl _ _) | (with_reducible refine Below.drew ?_) | (with_reducible refine Below.drewN ?_)
  | (with_reducible refine Below.alloc ?_ ?_ _; rotate_left; (first | (simp only [World.size_alloc, size_set, size_drew, size_drewN]; omega) | omega))
  | (with_reducible refine Below.setCell ?_ ?_ _; rotate_left; (first | (simp only [World.size_alloc, size_set, size_drew, size_drewN]; omega) | omega))
  | (with_reducible refine Below.on ?_ (by assumption) ?_; rotate_left; (first | (simp only [World.size_alloc, size_set, size_drew, size_drewN]; omega) | omega)))
 fail_if_success exfalso) : Below B w w' := k

/-- A new block, by its number. -/
theorem Loc.made (w : World) (cs : Array Value) (t : TypeId) {n : Nat} (h : n = w.heap.size := by first | rfl | (simp only [World.size_alloc, size_set, size_drew, size_drewN]; omega)) : Loc (w.alloc (.cells cs t)) n t cs := by subst h; exact Loc.new w cs t
theorem made1 (w : World) (cs : Array Value) (t : TypeId) : Loc (w.alloc (.cells cs t)) w.heap.size t cs := Loc.new _ _ _
theorem made2 (w : World) (o1 : Obj) (cs : Array Value) (t : TypeId) : Loc ((w.alloc o1).alloc (.cells cs t)) (w.heap.size + 1) t cs := by simpa only [World.size_alloc] using Loc.new (w.alloc o1) cs t
theorem sz2 {B : Nat} {w w' : World} {o1 o2 : Obj} (h : Below B ((w.alloc o1).alloc o2) w') : w.heap.size < w'.heap.size ∧ w.heap.size + 1 < w'.heap.size := by have := h.size; simp only [World.size_alloc] at this; omega
end

/- math/bits: Sub32, Add32, Div32. -/

/- The word of a quotient: the plain law of digit. -/

/-- V and U by their upper words: N a power of the base. -/
structure Split (N V U ylo v2 vt ulo u2 u1 u0 : Nat) : Prop where
 hN : 0 < N
 hV : V = ylo + N * (v2 + 4294967296 * vt)
 hU : U = ulo + N * (u2 + 4294967296 * (u1 + 4294967296 * u0))
 hy : ylo < N
 hu : ulo < N
 hv2 : v2 < 4294967296
 hu2 : u2 < 4294967296
 hu1 : u1 < 4294967296
 hvt : 2147483648 ≤ vt
 hvt2 : vt < 4294967296
 hlt : U < 4294967296 * V

section
variable {N V U ylo v2 vt ulo u2 u1 u0 : Nat} (S : Split N V U ylo v2 vt ulo u2 u1 u0)
include S
theorem Split.top_le : u0 ≤ vt := by
 have h1 : N * (4294967296 * (4294967296 * u0)) ≤ U := by
  rw [S.hU]
  have : N * (4294967296 * (4294967296 * u0)) ≤ N * (u2 + 4294967296 * (u1 + 4294967296 * u0)) := Nat.mul_le_mul_left _ (by omega)
  omega
 have h2 : V < N * (v2 + 4294967296 * vt + 1) := by
  rw [S.hV, Nat.mul_add N (v2 + 4294967296 * vt) 1]
  have := S.hy
  omega
 have h3 : N * (v2 + 4294967296 * vt + 1) ≤ N * (4294967296 * (vt + 1)) := Nat.mul_le_mul_left _ (by have := S.hv2; omega)
 have h4 : N * (4294967296 * (4294967296 * u0)) < N * (4294967296 * (4294967296 * (vt + 1))) := by
  have e1 : N * (4294967296 * (4294967296 * (vt + 1))) = 4294967296 * (N * (4294967296 * (vt + 1))) := by rw [Nat.mul_left_comm]
  rw [e1]
  have := S.hlt
  omega
 have h5 := Nat.lt_of_mul_lt_mul_left h4
 omega
theorem Split.top_lt : u1 + 4294967296 * u0 < 4294967296 * (vt + 1) := by
 have := S.top_le
 have := S.hu1
 omega
theorem Split.q_top : U / V * vt ≤ u1 + 4294967296 * u0 := by
 have h1 := Nat.div_mul_le_self U V
 generalize U / V = q at *
 have h2 : q * (N * (4294967296 * vt)) ≤ q * V := Nat.mul_le_mul_left _ (by
  rw [S.hV]
  have : N * (4294967296 * vt) ≤ N * (v2 + 4294967296 * vt) := Nat.mul_le_mul_left _ (by omega)
  omega)
 have h3 : U < N * (4294967296 * (u1 + 4294967296 * u0 + 1)) := by
  rw [S.hU]
  have : N * (u2 + 4294967296 * (u1 + 4294967296 * u0) + 1) ≤ N * (4294967296 * (u1 + 4294967296 * u0 + 1)) := Nat.mul_le_mul_left _ (by have := S.hu2; omega)
  rw [Nat.mul_add N _ 1] at this
  have := S.hu
  omega
 have e : q * (N * (4294967296 * vt)) = N * (4294967296 * (q * vt)) := by rw [Nat.mul_left_comm q N, Nat.mul_left_comm q 4294967296]
 have h4 : N * (4294967296 * (q * vt)) < N * (4294967296 * (u1 + 4294967296 * u0 + 1)) := by omega
 have h5 := Nat.lt_of_mul_lt_mul_left h4
 omega
theorem Split.first : (u1 + 4294967296 * u0) / vt ≤ 4294967298 ∧ U / V ≤ (u1 + 4294967296 * u0) / vt := by
 constructor
 ·rw [← Nat.lt_succ_iff]
  rw [Nat.div_lt_iff_lt_mul (by have := S.hvt; omega)]
  have := S.top_lt
  have := S.hvt
  omega
 ·rw [Nat.le_div_iff_mul_le (by have := S.hvt; omega)]
  exact S.q_top
end

/- A block of words known whole. -/

/-- Block g is just the words zs. -/
def Row (w : World) (g : Nat) (zs : List Nat) : Prop := Loc w g 305 (nums .u32 zs).toArray

section
variable {w w' : World} {g : Nat} {zs : List Nat}
theorem Row.cell (h : Row w g zs) {k : Nat} (hk : k < zs.length) : w.cell? ⟨g, k, none⟩ = some (.int .u32 ((zs[k] : Nat) : Int)) := by
 rw [Loc.cell h, List.getElem?_toArray, nums_get hk]
theorem Row.frz (h : Row w g zs) (k : Nat) : w.frozen? ⟨g, k, none⟩ = false := Loc.frz h k
theorem Row.lt (h : Row w g zs) : g < w.heap.size := Loc.lt h
theorem Row.set (h : Row w g zs) (i y : Nat) : Row (w.setCell ⟨g, i, none⟩ (.int .u32 ((y : Nat) : Int))) g (zs.set i y) := by
 have := Loc.set h i (.int .u32 ((y : Nat) : Int))
 unfold Row
 rw [List.setIfInBounds_toArray, nums_set] at this
 exact this
theorem Row.below (h : Row w g zs) (hb : Below w.heap.size w w') : Row w' g zs := Loc.below h hb
theorem Row.drewN (h : Row w g zs) (n : Nat) : Row (w.drewN n) g zs := h
theorem Row.words {X : Nat → Prop} (h : Row w g zs) (hw : Ws zs) (hX : ¬ X g) (hl : zs.length ≤ maxLen) : Words w X (.slice (some ⟨g, 0, none⟩) zs.length zs.length) zs := Words.lit zs h hw hX hl
end

/- digit: the next word of a quotient, and the divisor times it taken away. -/

/- math/bits: Len32 and LeadingZeros32. -/

/- Long division: the plain law. -/

/- left and right: a magnitude shifted by fewer than 32 bits, and back. -/

/- The reference's inner functions: trim, word, compareWords, addWords, timesWord, subWords. -/

/- right: a magnitude shifted back. -/

/- short, compare. -/

/- over: quotient and remainder of two magnitudes. -/

/- times: the product of two magnitudes. -/

end Go.Proofs.YtbdcjhoedhhabaaGreat

/- Clean, Neg, Abs, Sign, Valid, Mul of package integer. -/
namespace Go.Proofs.YtbdcjhoedhhabaaGreat
open Go.RowKit
attribute [local go_sem ↓] Go.wp_at_zero Go.wp_at_succ

end Go.Proofs.YtbdcjhoedhhabaaGreat

/- plus: the sum of two magnitudes. -/
namespace Go.Proofs.YtbdcjhoedhhabaaGreat
open Go.RowKit

/- minus: the difference of two magnitudes. -/

end Go.Proofs.YtbdcjhoedhhabaaGreat

/- Add and Sub of package integer. -/
namespace Go.Proofs.YtbdcjhoedhhabaaGreat
open Go.RowKit
attribute [local go_sem ↓] Go.wp_at_zero Go.wp_at_succ
attribute [local go_sem] beq_self_eq_true

end Go.Proofs.YtbdcjhoedhhabaaGreat

/- The reference's inner functions, second part: timesWord, subWords, compareWords. -/
namespace Go.Proofs.YtbdcjhoedhhabaaGreat
open Go.RowKit

end Go.Proofs.YtbdcjhoedhhabaaGreat

/- Valid, Sign, Of of package integer; Equal, made, Of of the reference; short, same of the law. -/
namespace Go.Proofs.YtbdcjhoedhhabaaGreat
open Go.RowKit
attribute [local go_sem ↓] Go.wp_at_zero Go.wp_at_succ

/- Neg, Abs, Bits of package integer; Clean, Neg, Abs, Valid, Sign, Bits of the reference. -/

end Go.Proofs.YtbdcjhoedhhabaaGreat

/- Add and Sub of the reference. -/
namespace Go.Proofs.YtbdcjhoedhhabaaGreat
open Go.RowKit
attribute [local go_sem ↓] Go.wp_at_zero Go.wp_at_succ
attribute [local go_sem] beq_self_eq_true

/- Compare of package integer and of the reference. -/

theorem sign_cases (a : Int) : (a < 0 ∧ a.sign = -1) ∨ (a = 0 ∧ a.sign = 0) ∨ (0 < a ∧ a.sign = 1) := by
 rcases Int.lt_trichotomy a 0 with h | h | h
 ·exact Or.inl ⟨h, Int.sign_eq_neg_one_of_neg h⟩
 ·exact Or.inr (Or.inl ⟨h, by rw [h]; rfl⟩)
 ·exact Or.inr (Or.inr ⟨h, Int.sign_eq_one_of_pos h⟩)
theorem add_len (a b : Int) (k : Nat) (ha : (dig a.natAbs).length ≤ k) (hb : (dig b.natAbs).length ≤ k) : (dig (a + b).natAbs).length ≤ k + 1 := by
 have h1 := val_lt (can_dig a.natAbs).1
 have h2 := val_lt (can_dig b.natAbs).1
 rw [val_dig] at h1 h2
 have h3 : 4294967296 ^ (dig a.natAbs).length ≤ 4294967296 ^ k := Nat.pow_le_pow_right (by omega) ha
 have h4 : 4294967296 ^ (dig b.natAbs).length ≤ 4294967296 ^ k := Nat.pow_le_pow_right (by omega) hb
 refine dig_len_le ?_
 rw [Nat.pow_succ]
 omega
theorem sub_len (a b : Int) (k : Nat) (ha : (dig a.natAbs).length ≤ k) (hb : (dig b.natAbs).length ≤ k) : (dig (a - b).natAbs).length ≤ k + 1 := by
 rw [Int.sub_eq_add_neg]
 exact add_len a (-b) k ha (by rw [Int.natAbs_neg]; exact hb)
end Go.Proofs.YtbdcjhoedhhabaaGreat

/- append(own row, words...): one law for a source that is nil or not; in a list of operations, and as one step of a region that draws. -/
namespace Go.Proofs.YtbdcjhoedhhabaaGreat
open Go.RowKit

section
variable {P : Program} {ops : Array Oper} {rest : List Oper} {o : Oper} {a : Act} {K : Act → World → Prop} {Q : Exit → Act → World → Prop} {E : Prop} {t e : TypeId} {X : Nat → Prop}

end
end Go.Proofs.YtbdcjhoedhhabaaGreat

/- mulWords of the reference. -/
namespace Go.Proofs.YtbdcjhoedhhabaaGreat
open Go.RowKit
attribute [local go_sem ↓] Go.wp_at_zero Go.wp_at_succ

theorem len_mul {xs ys : List Nat} (hx : Ws xs) (hy : Ws ys) : (dig (val xs * val ys)).length ≤ xs.length + ys.length := by
 refine dig_len_le ?_
 rw [Nat.pow_add]
 have h1 := val_lt hx
 have h2 := val_lt hy
 exact Nat.mul_lt_mul'' h1 h2
theorem ws_dig (n : Nat) : Ws (dig n) := (can_dig n).1

/- Mul of the reference. -/
end Go.Proofs.YtbdcjhoedhhabaaGreat

/- Parse: the sign cut off. -/
namespace Go.Proofs.YtbdcjhoedhhabaaGreat
open Go.RowKit

/-- A string of bytes. -/
abbrev str (bs : List UInt8) : Value := .string ⟨bs.toArray⟩
end Go.Proofs.YtbdcjhoedhhabaaGreat

/- Decimal texts. Plain arithmetic. -/
namespace Go.Proofs.YtbdcjhoedhhabaaGreat

/-- The number of little-endian decimal digits. -/
def dval : List Nat → Nat
 | [] => 0
 | d :: ds => d + 10 * dval ds
def Ds (ds : List Nat) : Prop := ∀ d ∈ ds, d < 10

@[simp] theorem dval_nil : dval [] = 0 := rfl
@[simp] theorem dval_cons (d : Nat) (ds : List Nat) : dval (d :: ds) = d + 10 * dval ds := rfl
theorem Ds.cons {x : Nat} {xs : List Nat} : Ds (x :: xs) ↔ x < 10 ∧ Ds xs := by simp [Ds]
theorem Ds.append {xs ys : List Nat} : Ds (xs ++ ys) ↔ Ds xs ∧ Ds ys := by
 simp only [Ds, List.mem_append]
 exact ⟨fun h => ⟨fun x hx => h x (.inl hx), fun x hx => h x (.inr hx)⟩, fun h x hx => hx.elim (h.1 x) (h.2 x)⟩
theorem Ds.take {xs : List Nat} (h : Ds xs) (n : Nat) : Ds (xs.take n) := fun x hx => h x (List.mem_of_mem_take hx)
/-- The characters of digits. -/
def chars (ds : List Nat) : List Nat := ds.map (48 + ·)
@[simp] theorem chars_length (ds : List Nat) : (chars ds).length = ds.length := by simp [chars]
/-- Bytes out of numbers. -/
def bytesOf (xs : List Nat) : List UInt8 := xs.map UInt8.ofNat
@[simp] theorem bytesOf_length (xs : List Nat) : (bytesOf xs).length = xs.length := by simp [bytesOf]
end Go.Proofs.YtbdcjhoedhhabaaGreat

/- Parse: what it answers; the plain law. -/
namespace Go.Proofs.YtbdcjhoedhhabaaGreat
open Go.RowKit

def good (c : UInt8) : Prop := 48 ≤ c.toNat ∧ c.toNat ≤ 57
instance (c : UInt8) : Decidable (good c) := inferInstanceAs (Decidable (_ ∧ _))
/-- No number's canonical digits. -/
def synt (neg : Bool) (ds : List UInt8) : Prop := ds = [] ∨ (ds.head? = some 48 ∧ (1 < ds.length ∨ neg = true))
instance (neg : Bool) (ds : List UInt8) : Decidable (synt neg ds) := inferInstanceAs (Decidable (_ ∨ _))
/-! The text of what was parsed. -/

/- Parse of package integer. -/

theorem IntV.zero (w : World) (X : Nat → Prop) : IntV w X (.agg #[.bool false, .slice none 0 0]) 0 := by
 refine ⟨_, rfl, ?_⟩
 have : dig (0 : Int).natAbs = [] := dig_zero
 rw [this]
 exact Words.nil _ _

theorem Words.one {w : World} {t : TypeId} {X : Nat → Prop} (d : Nat) (h : d < 4294967296) (z : Int) (e : z = (d : Nat)) (hX : ∀ b, X b → b < w.heap.size) :
 Words (w.alloc (.cells #[.int .u32 z] t)) X (.slice (some ⟨w.heap.size, 0, none⟩) 1 1) [d] := by
 subst e
 exact Words.lit (t := t) [d] (Loc.new _ _ _) (by simpa using h) (fun h => by have := hX _ h; omega) (by unfold maxLen; simp)
end Go.Proofs.YtbdcjhoedhhabaaGreat

/- Of and Small of package integer and of the reference; same of the law. -/
namespace Go.Proofs.YtbdcjhoedhhabaaGreat
open Go.RowKit
attribute [local go_sem ↓] Go.wp_at_zero Go.wp_at_succ

theorem Words.two {w : World} {o : Obj} {t : TypeId} {X : Nat → Prop} (m : Nat) (h : m < 18446744073709551616) (z1 z2 : Int) (e1 : z1 = ((m % 4294967296 : Nat) : Int)) (e2 : z2 = ((m / 4294967296 : Nat) : Int)) (hX : ∀ b, X b → b < w.heap.size) :
 Words ((w.alloc o).alloc (.cells #[.int .u32 z1, .int .u32 z2] t)) X (.slice (some ⟨w.heap.size + 1, 0, none⟩) 2 2) [m % 4294967296, m / 4294967296] := by
 subst e1 e2
 refine Words.lit (t := t) [m % 4294967296, m / 4294967296] ?_ (by simp; omega) (fun h => by have := hX _ h; omega) (by unfold maxLen; simp)
 have := Loc.new (w.alloc o) #[.int .u32 ((m % 4294967296 : Nat) : Int), .int .u32 ((m / 4294967296 : Nat) : Int)] t
 simpa [nums] using this

/- Of of the reference; Small of both. -/

/-- Does an integer fit an int? -/
def fits (z : Int) : Bool := decide (-9223372036854775808 ≤ z ∧ z ≤ 9223372036854775807)

/- Divide of the program. -/

end Go.Proofs.YtbdcjhoedhhabaaGreat

/- Fractions: the plain law of New: what it makes is Lean's own canonical quotient. -/
namespace Go.Proofs.YtbdcjhoedhhabaaGreat
open Go.RowKit

theorem rat_den0 (x : Rat) : ((x.den : Nat) : Int) ≠ 0 := by have := x.den_nz; omega
theorem rat_add (x y : Rat) : Rat.divInt (x.num * y.den + y.num * x.den) (x.den * y.den) = x + y := by
 rw [← Rat.divInt_add_divInt _ _ (rat_den0 x) (rat_den0 y), Rat.num_divInt_den, Rat.num_divInt_den]
theorem rat_mul (x y : Rat) : Rat.divInt (x.num * y.num) (x.den * y.den) = x * y := by
 rw [← Rat.divInt_mul_divInt, Rat.num_divInt_den, Rat.num_divInt_den]
theorem rat_div (x y : Rat) : Rat.divInt (x.num * y.den) (x.den * y.num) = x / y := by
 rw [Rat.div_def, ← Rat.divInt_mul_divInt, Rat.num_divInt_den]
 congr 1
 have h := Rat.inv_divInt y.num (y.den : Int)
 rw [Rat.num_divInt_den] at h
 exact h.symm
end Go.Proofs.YtbdcjhoedhhabaaGreat

/- divWords of the reference: quotient and remainder, a word at a time, each by halving. -/
namespace Go.Proofs.YtbdcjhoedhhabaaGreat
open Go.RowKit
attribute [local go_sem ↓] Go.wp_at_zero Go.wp_at_succ

/- Gcd, the program's and the reference's. -/

/-- The number that a slice of words reads as. -/
def rd (w : World) : Value → Nat
 | .slice (some a) n _ => val ((List.range n).map fun i => match w.cell? (a.add i) with | some (.int _ x) => x.toNat | _ => 0)
 | _ => 0
theorem Words.rd {w : World} {X : Nat → Prop} {v : Value} {xs : List Nat} (h : Words w X v xs) : rd w v = val xs := by
 obtain ⟨A, c, rfl, _, _, H⟩ := h.open_
 rcases A with _ | a
 ·have h0 : xs = [] := by
   rcases xs with _ | ⟨y, ys⟩
   ·rfl
   ·obtain ⟨_, e, _⟩ := H.at_ (k := 0) (by simp)
    cases e
  subst h0
  rfl
 ·show val _ = _
  congr 1
  apply List.ext_getElem
  ·simp
  ·intro i h1 h2
   obtain ⟨a', e, _, _, hc⟩ := H.at_ (k := i) h2
   injection e with e
   subst e
   simp [hc]

/- Fractions: how they lie; rational.over and rational.zero. -/

/-- A fraction as it lies: two signs, two lists of words. -/
def RatR (w : World) (X : Nat → Prop) (v : Value) (n1 : Bool) (xs : List Nat) (n2 : Bool) (ys : List Nat) : Prop :=
 ∃ A c B d, v = .agg #[.bool n1, .slice A xs.length c, .bool n2, .slice B ys.length d] ∧ IntR w X (.agg #[.bool n1, .slice A xs.length c]) n1 xs ∧ IntR w X (.agg #[.bool n2, .slice B ys.length d]) n2 ys
/-- The canonical struct of a fraction. -/
def RatV (w : World) (X : Nat → Prop) (v : Value) (q : Rat) : Prop := RatR w X v (decide (q.num < 0)) (dig q.num.natAbs) (decide ((q.den : Int) < 0)) (dig (q.den : Int).natAbs)
/-- The value of a fraction as it lies: 0 where the denominator is 0. -/
def rv (n1 : Bool) (xs : List Nat) (n2 : Bool) (ys : List Nat) : Rat := Rat.divInt (sv n1 xs) (sv n2 ys)

theorem rv_canon (q : Rat) : rv (decide (q.num < 0)) (dig q.num.natAbs) (decide ((q.den : Int) < 0)) (dig (q.den : Int).natAbs) = q := by
 unfold rv; rw [sv_dig, sv_dig, Rat.num_divInt_den]

section
variable {X Y : Nat → Prop} {w w' : World} {v : Value} {n1 n2 : Bool} {xs ys : List Nat} {q : Rat}
theorem RatR.keep (h : RatR w X v n1 xs n2 ys) (hk : Keep X w w') : RatR w' X v n1 xs n2 ys := let ⟨A, c, B, d, e, h1, h2⟩ := h; ⟨A, c, B, d, e, h1.keep hk, h2.keep hk⟩
theorem RatR.weak (h : RatR w X v n1 xs n2 ys) (hY : ∀ b, b < w.heap.size → Y b → X b) : RatR w Y v n1 xs n2 ys := let ⟨A, c, B, d, e, h1, h2⟩ := h; ⟨A, c, B, d, e, h1.weak hY, h2.weak hY⟩
theorem RatR.below (h : RatR w X v n1 xs n2 ys) (hk : Below w.heap.size w w') : RatR w' X v n1 xs n2 ys := h.keep (.of_below hk)
theorem RatV.keep (h : RatV w X v q) (hk : Keep X w w') : RatV w' X v q := RatR.keep h hk
theorem RatV.weak (h : RatV w X v q) (hY : ∀ b, b < w.heap.size → Y b → X b) : RatV w Y v q := RatR.weak h hY
theorem RatV.below (h : RatV w X v q) (hk : Below w.heap.size w w') : RatV w' X v q := RatR.below h hk
/-- The shape, its parts letters. -/
theorem RatV.op (h : RatV w X v q) : ∃ (b : Bool) (A : Option Addr) (m c : Nat) (b' : Bool) (A' : Option Addr) (m' c' : Nat), v = .agg #[.bool b, .slice A m c, .bool b', .slice A' m' c'] ∧
 RatV w X (.agg #[.bool b, .slice A m c, .bool b', .slice A' m' c']) q ∧ IntV w X (.agg #[.bool b, .slice A m c]) q.num ∧ IntV w X (.agg #[.bool b', .slice A' m' c']) (q.den : Int) := by
 have h0 := h
 obtain ⟨A, c, B, d, rfl, h1, h2⟩ := h
 exact ⟨_, A, _, c, _, B, _, d, rfl, h0, h1, h2⟩
theorem RatV.of {a1 b1 : Bool} {a2 b2 : Value} (h : IntV w X (.agg #[.bool a1, a2]) q.num) (k : IntV w X (.agg #[.bool b1, b2]) (q.den : Int)) : RatV w X (.agg #[.bool a1, a2, .bool b1, b2]) q := by
 obtain ⟨A, c, e, _, _, h1⟩ := IntR.open_ h
 obtain ⟨B, d, e', _, _, h2⟩ := IntR.open_ k
 simp only [Value.agg.injEq, Array.mk.injEq, List.cons.injEq, Value.bool.injEq, and_true] at e e'
 obtain ⟨rfl, rfl⟩ := e
 obtain ⟨rfl, rfl⟩ := e'
 exact ⟨A, c, B, d, rfl, h, k⟩
theorem RatR.to (h : RatR w X v n1 xs n2 ys)
 (k : Keep X w w' := by
  repeat (first
   | (with_reducible exact Keep.refl _ _) | (with_reducible refine Keep.drew ?_) | (with_reducible refine Keep.alloc ?_ _) | (with_reducible refine Keep.drewN ?_)
   | (with_reducible refine Keep.set ?_ ?_ _; rotate_left; (first | (right; simp only [zs]; omega) | (right; omega) | (left; simp only [Old, World.size_alloc, size_set, size_drew, size_drewN]; omega) | (left; dsimp only; omega)))
   | (with_reducible refine Keep.on ?_ (by assumption)))
  fail_if_success exfalso) : RatR w' (fun _ => False) v n1 xs n2 ys := (h.keep k).weak (fun _ _ h => h.elim)
theorem RatV.to (h : RatV w X v q)
 (k : Keep X w w' := by
  repeat (first
   | (with_reducible exact Keep.refl _ _) | (with_reducible refine Keep.drew ?_) | (with_reducible refine Keep.alloc ?_ _) | (with_reducible refine Keep.drewN ?_)
   | (with_reducible refine Keep.set ?_ ?_ _; rotate_left; (first | (right; simp only [zs]; omega) | (right; omega) | (left; simp only [Old, World.size_alloc, size_set, size_drew, size_drewN]; omega) | (left; dsimp only; omega)))
   | (with_reducible refine Keep.on ?_ (by assumption)))
  fail_if_success exfalso) : RatV w' (fun _ => False) v q := (h.keep k).weak (fun _ _ h => h.elim)
theorem RatV.out (h : RatV w X v q)
 (k : Keep (fun b => X b ∨ Y b) w w' := by
  repeat (first
   | (with_reducible exact Keep.refl _ _) | (with_reducible refine Keep.drew ?_) | (with_reducible refine Keep.alloc ?_ _) | (with_reducible refine Keep.drewN ?_)
   | (with_reducible refine Keep.set ?_ ?_ _; rotate_left; (first | (right; simp only [zs]; omega) | (right; omega) | (left; simp only [Old, World.size_alloc, size_set, size_drew, size_drewN]; omega) | (left; dsimp only; omega) | (left; left; simp only [Old, World.size_alloc, size_set, size_drew, size_drewN]; omega) | (left; right; simp only [Old, World.size_alloc, size_set, size_drew, size_drewN]; omega) | (left; right; dsimp only; omega)))
   | (with_reducible refine Keep.on ?_ (by assumption)))
  fail_if_success exfalso)
 (hY : ∀ b, b < w.heap.size → Y b → X b := by intro b hw hb; (try simp only [Old, World.size_alloc, size_set, size_drew, size_drewN] at hw hb ⊢); first | omega | (exfalso; omega)) : RatV w' Y v q := ((h.weak (Y := fun b => X b ∨ Y b) (fun b hb hxy => hxy.elim id (hY b hb))).keep k).weak (fun b _ h => Or.inr h)
end

/- rational.New. -/

end Go.Proofs.YtbdcjhoedhhabaaGreat

