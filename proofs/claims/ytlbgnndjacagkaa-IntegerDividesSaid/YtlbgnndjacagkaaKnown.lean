/- known: the first example of the chapter. -/
import Derived.Test.YtlbgnndjacagkaaRows
import Derived.Test.YtlbgnndjacagkaaApi3
import Derived.Test.YtlbgnndjacagkaaText1
namespace Go.Proofs.Ytlbgnndjacagkaa
open Go.RowKit

theorem known_text : textB (-18446744078004518912) = [45, 49, 56, 52, 52, 54, 55, 52, 52, 48, 55, 56, 48, 48, 52, 53, 49, 56, 57, 49, 50] := by
  have h := textB_neg 18446744078004518912 (by omega)
  have e : ([2, 1, 9, 8, 1, 5, 4, 0, 0, 8, 7, 0, 4, 4, 7, 6, 4, 4, 8, 1] : List Nat) = decR 18446744078004518912 := by
    have := decR_of (ds := [2, 1, 9, 8, 1, 5, 4, 0, 0, 8, 7, 0, 4, 4, 7, 6, 4, 4, 8, 1]) (by simp [Ds]) (by simp)
    simpa [dval] using this
  rw [← e] at h
  exact h.trans (by decide)

theorem known_val : sv true [0, 1] * sv false [1, 1] = -18446744078004518912 := by
  simp [sv, val]

set_option maxHeartbeats 1000000 in
theorem known_any (w : World) :
    Calls Try.prog 12 #[] w fun e w' => e = .returned (.bool true) ∧ Below w.heap.size w w' := by
  go_enter Try.func12, Try.ntmps12
  go_wp2_with fail
  have L1 : Loc ((w.alloc (.cells #[.int .u32 0, .int .u32 1] 44)).alloc (.cells #[.int .u32 1, .int .u32 1] 44)) w.heap.size 44 (nums .u32 [0, 1]).toArray := (Loc.new _ _ _).alloc _
  have L2 : Loc ((w.alloc (.cells #[.int .u32 0, .int .u32 1] 44)).alloc (.cells #[.int .u32 1, .int .u32 1] 44)) (w.heap.size + 1) 44 (nums .u32 [1, 1]).toArray := by
    have := Loc.new (w.alloc (.cells #[.int .u32 0, .int .u32 1] 44)) #[.int .u32 1, .int .u32 1] 44
    simpa [nums] using this
  have W1 := Words.lit (X := Old w) [0, 1] L1 (by simp) (by simp [Old]) (by unfold maxLen; simp)
  have W2 := Words.lit (X := Old w) [1, 1] L2 (by simp) (by simp [Old]) (by unfold maxLen; simp)
  refine (mul_any _ (Old w) _ _ true false [0, 1] [1, 1] ⟨_, rfl, W1⟩ ⟨_, rfl, W2⟩ (by simp) (by simp)).mono ?_
  rintro e w2 ⟨v2, rfl, h2, hb2⟩
  rw [known_val] at h2
  obtain ⟨b2, A2, n2, c2, rfl, h2⟩ := h2.op
  have hB : Below w.heap.size w w2 := (below2 _ _ _).trans (hb2.mono (by simp only [World.size_alloc]; omega))
  have hlen : (dig (-18446744078004518912 : Int).natAbs).length ≤ 1000000000 := Nat.le_trans (dig_len_le (k := 3) (by decide)) (by omega)
  clear L1 L2 W1 W2 hb2
  go_wp2_with fail
  refine (text_any _ _ _ _ _ (h2.below (below1 _ _)) hlen).mono ?_
  rintro e w3 ⟨rfl, hb3⟩
  rw [sv_dig, known_text]
  have hB3 : Below w.heap.size w w3 := hB.trans ((below1 w2 _).trans (hb3.mono (by simp)) |>.mono hB.size)
  clear hb3 hlen
  go_wp2_with fail
  refine (valid_any _ (Old w) _ true [] ⟨_, rfl, Words.nil _ _⟩).mono ?_
  rintro e w4 ⟨rfl, hb4⟩
  have hv : validR true [] = false := rfl
  rw [hv]
  have hB4 : Below w.heap.size w w4 := hB3.trans (hb4.mono hB3.size)
  go_wp2_with fail
  go_ret
  exact ⟨rfl, hB4⟩
end Go.Proofs.Ytlbgnndjacagkaa
