/- A block of words known whole. -/
import Derived.Test.YtlbgnndjacagkaaRows
import Derived.Test.YtlbgnndjacagkaaInt1
import Derived.Lib.EndianBits
namespace Go.Proofs.Ytlbgnndjacagkaa
open Go.RowKit

/-- Block g is just the words zs. -/
def Row (w : World) (g : Nat) (zs : List Nat) : Prop := Loc w g 44 (nums .u32 zs).toArray

section
variable {w w' : World} {g : Nat} {zs : List Nat}
theorem Row.of_own {base n : Nat} (h : w.ownsRow base 44 1 (.slice (some ⟨g, 0, none⟩) n n) n (nums .u32 zs)) : Row w g zs ∧ zs.length = n := by
  have hl := h.1
  rw [nums_length, Nat.mul_one] at hl
  refine ⟨?_, hl⟩
  rcases h.2 with ⟨h', _⟩ | ⟨g', cap', cur, h', _, hg, _, _, hsz, htake⟩
  · simp at h'
  · simp only [Value.slice.injEq, Option.some.injEq, Addr.mk.injEq, and_true, true_and] at h'
    obtain ⟨rfl, rfl⟩ := h'
    have : cur.toList = nums .u32 zs := by
      rw [← htake, List.take_of_length_le (by simp; omega)]
    unfold Row Loc
    rw [hg, ← this]
theorem Row.cell (h : Row w g zs) {k : Nat} (hk : k < zs.length) : w.cell? ⟨g, k, none⟩ = some (.int .u32 ((zs[k] : Nat) : Int)) := by
  rw [Loc.cell h, List.getElem?_toArray, nums_get hk]
theorem Row.frz (h : Row w g zs) (k : Nat) : w.frozen? ⟨g, k, none⟩ = false := Loc.frz h k
theorem Row.lt (h : Row w g zs) : g < w.heap.size := Loc.lt h
theorem Row.set (h : Row w g zs) (i y : Nat) : Row (w.setCell ⟨g, i, none⟩ (.int .u32 ((y : Nat) : Int))) g (zs.set i y) := by
  have := Loc.set h i (.int .u32 ((y : Nat) : Int))
  unfold Row
  rw [List.setIfInBounds_toArray, nums_set] at this
  exact this
theorem Row.below (h : Row w g zs) (hb : Below w.heap.size w w') : Row w' g zs := Loc.below h hb
theorem Row.drewN (h : Row w g zs) (n : Nat) : Row (w.drewN n) g zs := h
theorem Row.words {X : Nat → Prop} (h : Row w g zs) (hw : Ws zs) (hX : ¬ X g) (hl : zs.length ≤ maxLen) : Words w X (.slice (some ⟨g, 0, none⟩) zs.length zs.length) zs := Words.lit zs h hw hX hl
end
theorem below_grown {B : Nat} {w0 w w' : World} {g : Nat} (h : Below B w0 w) (hg : w.grownBy w' (some g)) (hw : B ≤ w.heap.size) (hB : B ≤ g) : Below B w0 w' := h.grown hg hw fun k hk => by injection hk with hk; omega
theorem grown_refl (w : World) (r : Option Nat) : w.grownBy w r := ⟨rfl, rfl, rfl, Nat.le_refl _, fun _ _ _ => rfl⟩
theorem keep_grown {X : Nat → Prop} {w w' : World} {g : Nat} (h : w.grownBy w' (some g)) (hX : X g) : Keep X w w' := (Keep.refl X w).grown h fun k hk => by injection hk with hk; subst hk; exact .inl hX
end Go.Proofs.Ytlbgnndjacagkaa
