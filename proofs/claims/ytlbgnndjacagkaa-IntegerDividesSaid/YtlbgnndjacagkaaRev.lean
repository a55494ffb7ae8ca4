/- slices.Reverse at []byte. -/
import Derived.Test.YtlbgnndjacagkaaRows
import Derived.Test.YtlbgnndjacagkaaBase
import Derived.RegionTactic
import Derived.BigRegion
namespace Go.Proofs.Ytlbgnndjacagkaa
open Go.RowKit

set_option maxHeartbeats 1000000 in
theorem reverse_any (w : World) (base e g n cap : Nat) (xs : List Nat) (h : w.ownsRow base 5 1 (.slice (some ⟨g, 0, none⟩) n cap) n (nums .u8 xs)) (hl : xs.length = n) (hm : n ≤ 1000000000000) :
    Calls Try.prog 59 #[.slice (some ⟨g, 0, none⟩) n cap] w fun e w' => e = .returned (.tuple #[]) ∧ w'.ownsRow base 5 1 (.slice (some ⟨g, 0, none⟩) n cap) n (nums .u8 xs.reverse) ∧ w.grownBy w' (some g) := by
  have HL := Lib.hid hl
  have hl1 : xs.length ≤ n := by omega
  have hl2 : n ≤ xs.length := by omega
  clear hl
  go_enter Try.func59, Try.ntmps59
  go_wp2_with fail
  go_loopw [2, 3] (fun i j wr => ∃ (k : Nat) (ys : List Nat), k + k ≤ n + 1 ∧ i = .int .i64 k ∧ j = .int .i64 ((n : Int) - 1 - k) ∧ ys.length = n ∧ wr.ownsRow base 5 1 (.slice (some ⟨g, 0, none⟩) n cap) n (nums .u8 ys) ∧ w.grownBy wr (some g) ∧
      (∀ t, (h : t < ys.length) → ys[t] = if t < k ∨ n ≤ t + k then xs.getD (n - 1 - t) 0 else xs.getD t 0)) (fun i _ _ => n - (intOf i).toNat)
  case atStart => exact ⟨0, xs, by omega, rfl, by simp, HL.out, h, World.grownBy.refl _ _, fun t ht => by rw [if_neg (by omega)]; simp [ht]⟩
  case round =>
    obtain ⟨k, ys, hk, rfl, rfl, hyl, hown, hg, hys⟩ := hrel
    have HY := Lib.hid hyl
    have hyl2 : n ≤ ys.length := by omega
    have HYS := Lib.hid hys
    clear hyl hys
    by_cases hlt : k + k + 1 < n
    · obtain ⟨j, hj⟩ : ∃ j, j = n - 1 - k := ⟨_, rfl⟩
      have ej : (n : Int) - 1 - (k : Int) = (j : Int) := by omega
      rw [ej]
      have h1 : k < j := by omega
      have h2 : j < n := by omega
      have HJ := Lib.hid hj
      clear hj ej
      have ca : wr.cell? ⟨g, k, none⟩ = some (.int .u8 ((ys[k] : Nat) : Int)) := (hown.cellAt k (by omega)).trans (nums_get _)
      have cb : wr.cell? ⟨g, j, none⟩ = some (.int .u8 ((ys[j] : Nat) : Int)) := (hown.cellAt j (by omega)).trans (nums_get _)
      have fa := hown.frozenAt k
      have fb := hown.frozenAt j
      go_wp2_with fail
      go_region
      all_goals
        go_wp2_with fail
        go_roundw
        case rel =>
          have s1 := (hown.stored k (.int .u8 (ys[j] : Nat))).1
          have s2 := (s1.stored j (.int .u8 (ys[k] : Nat))).1
          rw [nums_set, nums_set] at s2
          refine ⟨k + 1, (ys.set k ys[j]).set j ys[k], by omega, by go_num, by have := HJ.out; exact int_eq (by omega), by simpa using HY.out, s2, grown_drew (grown_set (grown_set hg _ _) _ _), fun t ht => ?_⟩
          have hj := HJ.out
          have hn := HY.out
          simp only [List.length_set] at ht
          have e1 := HYS.out t ht
          have e2 := HYS.out k (by omega)
          have e3 := HYS.out j (by omega)
          rw [if_neg (by omega)] at e2 e3
          rw [List.getElem_set, List.getElem_set, e1, e2, e3]
          by_cases h1 : j = t
          · subst h1
            rw [if_pos rfl, if_pos (by omega)]
            congr 1; omega
          · rw [if_neg h1]
            by_cases h2 : k = t
            · subst h2
              rw [if_pos rfl, if_pos (by omega)]
              congr 1
            · rw [if_neg h2]
              by_cases h3 : t < k ∨ n ≤ t + k
              · rw [if_pos h3, if_pos (by omega)]
              · rw [if_neg h3, if_neg (by omega)]
        case measure => simp only [intOf]; omega
    · go_wp2_with fail
      go_end0
      refine ⟨rfl, ?_, hg⟩
      have e : ys = xs.reverse := by
        have hn := HY.out
        have hx := HL.out
        apply List.ext_getElem
        · simp; omega
        · intro t h1 h2
          rw [HYS.out t h1, List.getElem_reverse]
          by_cases h3 : t < k ∨ n ≤ t + k
          · rw [if_pos h3, List.getD_eq_getElem?_getD, List.getElem?_eq_getElem (by omega)]
            simp only [Option.getD_some]
            congr 1; omega
          · rw [if_neg h3, List.getD_eq_getElem?_getD, List.getElem?_eq_getElem (by omega)]
            simp only [Option.getD_some]
            congr 1; omega
      rw [← e]
      exact hown
end Go.Proofs.Ytlbgnndjacagkaa
