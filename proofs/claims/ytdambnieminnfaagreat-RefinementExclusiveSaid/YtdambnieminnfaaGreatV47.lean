/- Contracts of the functions that the statements reach, part 47. -/
import Derived.Test.YtdambnieminnfaaGreatRows
import Derived.Test.YtdambnieminnfaaGreatV22
import Derived.Test.YtdambnieminnfaaGreatV46
set_option linter.unusedSimpArgs false
set_option linter.unusedVariables false

/- Channels of few rows and columns: their systems are small. -/
namespace Go.Proofs.YtdambnieminnfaaGreat

theorem Few40.wd {L : List (List Int)} (h : Few40 L) : wid L ≤ 5 := by
 by_cases h0 : 0 < L.length
 ·exact h.2 _ (getD_mem h0)
 ·have : L = [] := List.eq_nil_of_length_eq_zero (by omega)
  subst this
  exact Nat.zero_le _
theorem Few40.sz {L1 L2 : List (List Int)} (h1 : Few40 L1) (h2 : Few40 L2) : SZ L1 L2 := sz_few h1.1 h1.2 h2.1 h2.2

theorem Few40.nk {L1 L2 : List (List Int)} (h1 : Few40 L1) (h2 : Few40 L2) : wid L1 * wid L2 ≤ 80 ∧ neq L1 L2 ≤ 80 := by
 have a := h1.wd
 have b := h2.wd
 have c := h1.1
 have d : wid L1 * wid L2 ≤ 5 * 5 := Nat.mul_le_mul a b
 have e : L1.length * wid L2 ≤ 5 * 5 := Nat.mul_le_mul c b
 unfold neq
 omega
theorem Few40.code {L1 L2 : List (List Int)} (h1 : Few40 L1) (h2 : Few40 L2) {code : Int} {b : Bool} {m Kn : Nat} {F G : Nat → Nat → Rat} (h : DecSays L1 L2 code b m F Kn G) (v1 : VC L1) (v2 : VC L2) (hl : L1.length = L2.length) : code = 0 :=
 dec_code h v1 v2 hl (h1.nk h2).1 (h1.nk h2).2
/-- An accepted witness: Decide's code is 0, and it holds. -/
theorem Few40.dec_wit {L1 L2 : List (List Int)} (h1 : Few40 L1) (h2 : Few40 L2) {code : Int} {b : Bool} {m Kn m' : Nat} {F G F' : Nat → Nat → Rat} {N' : Nat → Nat} (h : DecSays L1 L2 code b m F Kn G) (hw : WIT L1 L2 m' N' F') : code = 0 ∧ b = true := by
 obtain rfl := h1.code h2 h hw.1 hw.2.1 hw.2.2.1
 exact ⟨rfl, dec_true h hw⟩
theorem Few40.dec_gn {L1 L2 : List (List Int)} (h1 : Few40 L1) (h2 : Few40 L2) {code : Int} {b : Bool} {m Kn m' : Nat} {F G F' : Nat → Nat → Rat} {N' : Nat → Nat} (h : DecSays L1 L2 code b m F Kn G) (hw : GN L1 L2 m' N' F') : code = 0 ∧ b = false := by
 obtain rfl := h1.code h2 h hw.1 hw.2.1 hw.2.2.1
 exact ⟨rfl, dec_false h hw⟩
end Go.Proofs.YtdambnieminnfaaGreat

