/- Long division: the plain law. -/
import Derived.Test.YtlbgnndjacagkaaRows
import Derived.Test.YtlbgnndjacagkaaDigit
import Derived.Test.YtlbgnndjacagkaaLen
namespace Go.Proofs.Ytlbgnndjacagkaa
open Go.RowKit

theorem bitLen_bounds (x : Nat) (h0 : 0 < x) (h : x < 2 ^ 64) : 1 ≤ Lib.bitLen x ∧ 2 ^ (Lib.bitLen x - 1) ≤ x ∧ x < 2 ^ Lib.bitLen x := by
  induction x using Nat.strongRecOn with
  | _ x ih =>
    have e := Lib.bitLen_half x (by omega) h
    by_cases h2 : x / 2 = 0
    · obtain rfl : x = 1 := by omega
      have : Lib.bitLen 1 = 1 := by decide +kernel
      rw [this]; decide
    · obtain ⟨i1, i2, i3⟩ := ih (x / 2) (by omega) (by omega) (by omega)
      rw [e]
      generalize Lib.bitLen (x / 2) = L at *
      obtain ⟨l, rfl⟩ : ∃ l, L = l + 1 := ⟨L - 1, by omega⟩
      rw [(by omega : 1 + (l + 1) = l + 1 + 1), Nat.add_sub_cancel]
      rw [Nat.add_sub_cancel] at i2
      rw [Nat.pow_succ] at i3 ⊢
      rw [Nat.pow_succ]
      omega
theorem norm_word (x : Nat) (h0 : 0 < x) (h : x < 4294967296) : 32 - Lib.bitLen x < 32 ∧ 2147483648 ≤ x * 2 ^ (32 - Lib.bitLen x) ∧ (x + 1) * 2 ^ (32 - Lib.bitLen x) ≤ 4294967296 := by
  obtain ⟨h1, h2, h3⟩ := bitLen_bounds x h0 (by omega)
  have h4 := Lib.bitLen_le x 32 (by omega) (by omega)
  generalize Lib.bitLen x = L at *
  refine ⟨by omega, ?_, ?_⟩
  · have e : 2 ^ (L - 1) * 2 ^ (32 - L) = 2147483648 := by rw [← Nat.pow_add, (by omega : L - 1 + (32 - L) = 31)]
    rw [← e]
    exact Nat.mul_le_mul_right _ h2
  · have e : 2 ^ L * 2 ^ (32 - L) = 4294967296 := by rw [← Nat.pow_add, (by omega : L + (32 - L) = 32)]
    rw [← e]
    exact Nat.mul_le_mul_right _ h3
theorem val_cut (zs : List Nat) (n : Nat) (h : val zs < 4294967296 ^ n) : val (zs.take n) = val zs ∧ val (zs.drop n) = 0 := by
  have e := val_take_drop zs n
  by_cases hl : zs.length ≤ n
  · rw [List.take_of_length_le hl, List.drop_of_length_le hl]; exact ⟨rfl, rfl⟩
  · rw [List.length_take, Nat.min_eq_left (by omega)] at e
    rcases Nat.eq_zero_or_pos (val (zs.drop n)) with h0 | h0
    · rw [h0, Nat.mul_zero] at e
      exact ⟨by omega, h0⟩
    · have : 4294967296 ^ n * 1 ≤ 4294967296 ^ n * val (zs.drop n) := Nat.mul_le_mul_left _ h0
      omega
/-- The divisor, shifted. -/
theorem norm_div (ys vs : List Nat) (p s : Nat) (hy : Ws ys) (hv : Ws vs) (hl : ys.length = p + 2) (hvl : vs.length = p + 2 + 1) (h0 : 0 < ys[p + 1]) (hs : s = 32 - Lib.bitLen ys[p + 1]) (hval : val vs = val ys * 2 ^ s) :
    val (vs.take (p + 2)) = val ys * 2 ^ s ∧ val ys * 2 ^ s < 4294967296 ^ (p + 2) ∧ 4294967296 ^ (p + 1) * 2147483648 ≤ val ys * 2 ^ s ∧ (vs.take (p + 2)).length = p + 2 ∧ ∀ h : p + 1 < (vs.take (p + 2)).length, 2147483648 ≤ (vs.take (p + 2))[p + 1] := by
  obtain ⟨n1, n2, n3⟩ := norm_word ys[p + 1] h0 (hy.get _)
  rw [← hs] at n2 n3
  have e : val ys = val (ys.take (p + 1)) + 4294967296 ^ (p + 1) * ys[p + 1] := by
    rw [← val_take_succ ys (p + 1) (by omega), List.take_of_length_le (by omega)]
  have hlo := val_lt (hy.take (p + 1))
  rw [List.length_take, Nat.min_eq_left (by omega)] at hlo
  have hV1 : val ys * 2 ^ s < 4294967296 ^ (p + 2) := by
    have h1 : val ys < 4294967296 ^ (p + 1) * (ys[p + 1] + 1) := by rw [Nat.mul_add]; omega
    have h2 : val ys * 2 ^ s < 4294967296 ^ (p + 1) * (ys[p + 1] + 1) * 2 ^ s := Nat.mul_lt_mul_of_pos_right h1 (Nat.pow_pos (by omega))
    have h3 : 4294967296 ^ (p + 1) * ((ys[p + 1] + 1) * 2 ^ s) ≤ 4294967296 ^ (p + 1) * 4294967296 := Nat.mul_le_mul_left _ n3
    rw [Nat.mul_assoc] at h2
    rw [Nat.pow_succ 4294967296 (p + 1)]
    omega
  have hV2 : 4294967296 ^ (p + 1) * 2147483648 ≤ val ys * 2 ^ s := by
    have h1 : 4294967296 ^ (p + 1) * ys[p + 1] ≤ val ys := by omega
    have h2 := Nat.mul_le_mul_right (2 ^ s) h1
    have h3 : 4294967296 ^ (p + 1) * 2147483648 ≤ 4294967296 ^ (p + 1) * (ys[p + 1] * 2 ^ s) := Nat.mul_le_mul_left _ n2
    rw [Nat.mul_assoc] at h2
    omega
  obtain ⟨c1, _⟩ := val_cut vs (p + 2) (by rw [hval]; exact hV1)
  have hl2 : (vs.take (p + 2)).length = p + 2 := by rw [List.length_take]; omega
  refine ⟨by rw [c1, hval], hV1, hV2, hl2, fun h => ?_⟩
  have e2 : val (vs.take (p + 2)) = val ((vs.take (p + 2)).take (p + 1)) + 4294967296 ^ (p + 1) * (vs.take (p + 2))[p + 1] := by
    have h5 := List.take_of_length_le (show (vs.take (p + 2)).length ≤ p + 1 + 1 by omega)
    rw [← val_take_succ (vs.take (p + 2)) (p + 1) h, h5]
  have h3 := val_lt ((hv.take (p + 2)).take (p + 1))
  rw [List.length_take, hl2, Nat.min_eq_left (by omega)] at h3
  rw [c1, hval] at e2
  have h4 : 4294967296 ^ (p + 1) * 2147483648 < 4294967296 ^ (p + 1) * ((vs.take (p + 2))[p + 1] + 1) := by rw [Nat.mul_add]; omega
  have := Nat.lt_of_mul_lt_mul_left h4
  omega
/-- One step: the window's value. -/
theorem over_window {us : List Nat} {j n V : Nat} (hu : Ws us) (hj : j + n < us.length) (hV : V ≤ 4294967296 ^ n) (hd : val (us.drop (j + 1)) < V) :
    seg us j (n + 1) = val (us.drop j) ∧ val (us.drop j) < 4294967296 * V ∧ val (us.drop (j + n + 1)) = 0 ∧ val (us.drop j) = us[j] + 4294967296 * val (us.drop (j + 1)) := by
  have e := val_drop_succ us j (by omega)
  have hx := hu.get (i := j) (by omega)
  have h1 : val (us.drop j) < 4294967296 * V := by
    have : 4294967296 * (val (us.drop (j + 1)) + 1) ≤ 4294967296 * V := Nat.mul_le_mul_left _ hd
    rw [e]; omega
  have h2 : val (us.drop j) < 4294967296 ^ (n + 1) := by
    have : 4294967296 * V ≤ 4294967296 * 4294967296 ^ n := Nat.mul_le_mul_left _ hV
    rw [Nat.pow_succ, Nat.mul_comm]; omega
  obtain ⟨c1, c2⟩ := val_cut (us.drop j) (n + 1) h2
  rw [List.drop_drop] at c2
  exact ⟨c1, h1, by rw [Nat.add_assoc]; exact c2, e⟩
theorem over_step {us vs qs : List Nat} {j n V U0 : Nat} (hu : Ws us) (hj : j + n < us.length) (hV : V ≤ 4294967296 ^ n) (hpos : 0 < V) (hd : val (us.drop (j + 1)) < V) (hl : vs.length = us.length)
    (hs : ∀ i, i < j ∨ j + n < i → vs[i]? = us[i]?) (hseg : seg vs j (n + 1) = seg us j (n + 1) % V) (hq : j < qs.length)
    (hinv : U0 = val (us.take (j + 1)) + 4294967296 ^ (j + 1) * (val (us.drop (j + 1)) + V * val (qs.drop (j + 1)))) :
    val (vs.drop j) < V ∧ U0 = val (vs.take j) + 4294967296 ^ j * (val (vs.drop j) + V * val ((qs.set j (seg us j (n + 1) / V)).drop j)) := by
  obtain ⟨w1, w2, w3, w4⟩ := over_window hu hj hV hd
  have hup : vs.drop (j + n + 1) = us.drop (j + n + 1) := by
    apply List.ext_getElem?
    intro i
    rw [List.getElem?_drop, List.getElem?_drop]
    exact hs _ (Or.inr (by omega))
  have hlow : vs.take j = us.take j := by
    apply List.ext_getElem?
    intro i
    rw [List.getElem?_take, List.getElem?_take]
    split
    · exact hs _ (Or.inl (by omega))
    · rfl
  have e1 := val_take_drop (vs.drop j) (n + 1)
  rw [List.drop_drop, ← Nat.add_assoc, hup, w3, Nat.mul_zero, Nat.add_zero] at e1
  have e2 : val (vs.drop j) = seg us j (n + 1) % V := by rw [e1]; exact hseg
  refine ⟨by rw [e2]; exact Nat.mod_lt _ hpos, ?_⟩
  have e3 : val ((qs.set j (seg us j (n + 1) / V)).drop j) = seg us j (n + 1) / V + 4294967296 * val (qs.drop (j + 1)) := by
    rw [val_drop_succ _ j (by simpa using hq), List.getElem_set_self, List.drop_set, if_pos (by omega)]
  rw [e2, e3, hlow, hinv, val_take_succ us j (by omega), Nat.pow_succ]
  have e4 := Nat.div_add_mod (seg us j (n + 1)) V
  rw [w1] at e4 ⊢
  generalize val (us.drop j) / V = q at *
  generalize val (us.drop j) % V = r at *
  generalize val (qs.drop (j + 1)) = Y at *
  have e5 : us[j] + 4294967296 * val (us.drop (j + 1)) + V * (4294967296 * Y) = r + V * (q + 4294967296 * Y) := by rw [Nat.mul_add, ← w4, ← e4]; omega
  rw [← e5]
  simp only [Nat.mul_add]
  rw [Nat.mul_assoc, Nat.mul_assoc (4294967296 ^ j), Nat.mul_left_comm V 4294967296 Y]
  omega
theorem over_end {us qs xs ys : List Nat} {n s : Nat} (hV : val ys * 2 ^ s ≤ 4294967296 ^ n) (hpos : 0 < val ys) (hlt : val us < val ys * 2 ^ s) (hinv : val xs * 2 ^ s = val us + val ys * 2 ^ s * val qs) :
    val qs = val xs / val ys ∧ val (us.take n) / 2 ^ s = val xs % val ys := by
  have hP : 0 < 2 ^ s := Nat.pow_pos (by omega)
  have hq : val xs * 2 ^ s / (val ys * 2 ^ s) = val qs := by
    rw [hinv, Nat.add_comm, Nat.mul_add_div (Nat.mul_pos hpos hP), Nat.div_eq_of_lt hlt, Nat.add_zero]
  have hr : val xs * 2 ^ s % (val ys * 2 ^ s) = val us := by
    rw [hinv, Nat.add_mul_mod_self_left, Nat.mod_eq_of_lt hlt]
  rw [Nat.mul_div_mul_right _ _ hP] at hq
  rw [Nat.mul_mod_mul_right] at hr
  refine ⟨hq.symm, ?_⟩
  rw [(val_cut us n (by omega)).1, ← hr, Nat.mul_div_cancel _ hP]
/-- At the loop's start the upper words are less than the divisor. -/
theorem over_start {us xs : List Nat} {s n V : Nat} (hx : Ws xs) (hn : 0 < n) (hs : s < 32) (hl : us.length = xs.length + 1) (hnx : n ≤ xs.length) (hu : Ws us) (hval : val us = val xs * 2 ^ s) (hV : 4294967296 ^ (n - 1) * 2147483648 ≤ V) :
    val (us.drop (xs.length - n + 1)) < V := by
  have e := val_take_drop us (xs.length - n + 1)
  rw [List.length_take, Nat.min_eq_left (by omega)] at e
  have h1 : val us < 4294967296 ^ xs.length * 2147483648 := by
    have h2 : (2 : Nat) ^ s ≤ 2 ^ 31 := Nat.pow_le_pow_right (by omega) (by omega)
    have h3 : val xs * 2 ^ s ≤ val xs * 2147483648 := Nat.mul_le_mul_left _ h2
    have h4 := val_lt hx
    have h5 : val xs * 2147483648 < 4294967296 ^ xs.length * 2147483648 := Nat.mul_lt_mul_of_pos_right h4 (by omega)
    omega
  have h6 : 4294967296 ^ xs.length = 4294967296 ^ (xs.length - n + 1) * 4294967296 ^ (n - 1) := by rw [← Nat.pow_add]; congr 1; omega
  rw [h6, Nat.mul_assoc] at h1
  have h7 : 4294967296 ^ (xs.length - n + 1) * val (us.drop (xs.length - n + 1)) < 4294967296 ^ (xs.length - n + 1) * (4294967296 ^ (n - 1) * 2147483648) := by omega
  have := Nat.lt_of_mul_lt_mul_left h7
  omega
end Go.Proofs.Ytlbgnndjacagkaa
