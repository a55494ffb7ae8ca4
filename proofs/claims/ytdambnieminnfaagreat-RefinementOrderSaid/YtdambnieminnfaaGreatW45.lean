/- Contracts of the functions that the statements reach, part 45. -/
import Derived.Test.YtdambnieminnfaaGreatRows
import Derived.Test.YtdambnieminnfaaGreatW23
import Derived.Test.YtdambnieminnfaaGreatW24
import Derived.Test.YtdambnieminnfaaGreatW44
set_option linter.unusedSimpArgs false
set_option linter.unusedVariables false

/- Channels of few rows and columns: their systems are small. -/
namespace Go.Proofs.YtdambnieminnfaaGreat

theorem Few40.wd {L : List (List Int)} (h : Few40 L) : wid L ≤ 5 := by
 by_cases h0 : 0 < L.length
 ·exact h.2 _ (getD_mem h0)
 ·have : L = [] := List.eq_nil_of_length_eq_zero (by omega)
  subst this
  exact Nat.zero_le _
theorem Few40.sz {L1 L2 : List (List Int)} (h1 : Few40 L1) (h2 : Few40 L2) : SZ L1 L2 := sz_few h1.1 h1.2 h2.1 h2.2

theorem Few40.nk {L1 L2 : List (List Int)} (h1 : Few40 L1) (h2 : Few40 L2) : wid L1 * wid L2 ≤ 80 ∧ neq L1 L2 ≤ 80 := by
 have a := h1.wd
 have b := h2.wd
 have c := h1.1
 have d : wid L1 * wid L2 ≤ 5 * 5 := Nat.mul_le_mul a b
 have e : L1.length * wid L2 ≤ 5 * 5 := Nat.mul_le_mul c b
 unfold neq
 omega
theorem Few40.code {L1 L2 : List (List Int)} (h1 : Few40 L1) (h2 : Few40 L2) {code : Int} {b : Bool} {m Kn : Nat} {F G : Nat → Nat → Rat} (h : DecSays L1 L2 code b m F Kn G) (v1 : VC L1) (v2 : VC L2) (hl : L1.length = L2.length) : code = 0 :=
 dec_code h v1 v2 hl (h1.nk h2).1 (h1.nk h2).2
/-- An accepted witness: Decide's code is 0, and it holds. -/
theorem Few40.dec_wit {L1 L2 : List (List Int)} (h1 : Few40 L1) (h2 : Few40 L2) {code : Int} {b : Bool} {m Kn m' : Nat} {F G F' : Nat → Nat → Rat} {N' : Nat → Nat} (h : DecSays L1 L2 code b m F Kn G) (hw : WIT L1 L2 m' N' F') : code = 0 ∧ b = true := by
 obtain rfl := h1.code h2 h hw.1 hw.2.1 hw.2.2.1
 exact ⟨rfl, dec_true h hw⟩
theorem Few40.dec_gn {L1 L2 : List (List Int)} (h1 : Few40 L1) (h2 : Few40 L2) {code : Int} {b : Bool} {m Kn m' : Nat} {F G F' : Nat → Nat → Rat} {N' : Nat → Nat} (h : DecSays L1 L2 code b m F Kn G) (hw : GN L1 L2 m' N' F') : code = 0 ∧ b = false := by
 obtain rfl := h1.code h2 h hw.1 hw.2.1 hw.2.2.1
 exact ⟨rfl, dec_false h hw⟩
end Go.Proofs.YtdambnieminnfaaGreat

/- The law's side of layer 40: small. -/
namespace Go.Proofs.YtdambnieminnfaaGreat
open Go.RowKit
attribute [local go_sem ↓] Go.wp_at_zero Go.wp_at_succ

/-- A small channel. -/
def SM (L : List (List Int)) : Prop := Few40 L ∧ VC L ∧ L.length ≤ 4 ∧ wid L ≤ 4 ∧ tot L ≤ 1024
set_option maxRecDepth 100000 in
set_option maxHeartbeats 8000000 in
theorem small_any (w : World) (v0 : Value) (L : List (List Int)) (h : IMat w v0 L) :
 Calls Tryz.prog 24 #[.agg #[v0]] w fun e w' => Tells (SM L) e ∧ Below w.heap.size w w' := by
 have H := Lib.hid h
 obtain ⟨A, cA, rfl, h, l1, l2⟩ := h.op
 clear h
 obtain ⟨m, hm⟩ : ∃ m, L.length = m := ⟨_, rfl⟩
 have HM := Lib.hid hm
 rw [hm] at l1 H
 rw [hm]
 clear hm
 have L1 := made1 w #[.slice A m cA] 24
 go_enter Tryz.func24, Tryz.ntmps24
 go_wp2_with fail
 refine (few40_any _ _ L (H.out.keep kp)).mono ?_
 rintro e w1 ⟨⟨b, rfl, hb⟩, hb1⟩
 have z1 := sz1 hb1
 obtain ⟨e1, f1, t1⟩ := L1.all (w' := w1)
 cases b
 ·have HV : Hid (¬ SM L) := fun h => by have := hb.out.2 h.1; cases this
  clear hb
  go_wp2_with fail
  go_ret
  exact ⟨Tells.no HV.out, bel⟩
 have HF : Hid (Few40 L) := hb.out.1 rfl
 clear hb
 go_wp2_with fail
 refine (lvalid_any _ _ L (H.out.keep kp)).mono ?_
 rintro e w2 ⟨⟨b, rfl, hb⟩, hb2⟩
 have y2 := hb2.size; (try simp only [zs] at y2)
 clear e1 f1 t1
 obtain ⟨e1, f1, t1⟩ := L1.all (w' := w2)
 cases b
 ·have HV : Hid (¬ SM L) := fun h => by have := hb.out.2 h.2.1; cases this
  clear hb
  go_wp2_with fail
  go_ret
  exact ⟨Tells.no HV.out, bel⟩
 have HV : Hid (VC L) := hb.out.1 rfl
 clear hb
 have hm5 : m ≤ 5 := by rw [← HM.out]; exact HF.out.1
 by_cases h4 : m ≤ 4
 case neg =>
  have d1 : decide ((m : Int) ≤ 4) = false := decide_eq_false (by omega)
  have HN : Hid (¬ SM L) := fun h => by have := h.2.2.1; have := HM.out; omega
  go_wp2_with fail
  go_ret
  exact ⟨Tells.no HN.out, bel⟩
 have d1 : decide ((m : Int) ≤ 4) = true := decide_eq_true (by omega)
 have q0 : (0 : Int) < (m : Int) := by have := HV.out.1; have := HM.out; omega
 obtain ⟨l0, he⟩ : ∃ l, L[0]? = some l := ⟨_, List.getElem?_eq_getElem (by have := HM.out; omega)⟩
 obtain ⟨a0, D, d, rfl, hab, hcell, hints, l3, l4⟩ := H.out.at he
 rw [addr_zero] at hcell
 have hwd : wid L = l0.length := by unfold wid; rw [List.getD_eq_getElem?_getD, he]; rfl
 have HR : Hid (rsumA 0 l0 = tot L) := by show _ = _; unfold tot; rw [List.getD_eq_getElem?_getD, he]; rfl
 have HI := Lib.hid hints
 have hk1 : Keep (fun _ => False) w w2 := kp
 have hc1 : w2.cell? a0 = _ := cell_keep hcell hab id hk1
 obtain ⟨n, hn⟩ : ∃ n, l0.length = n := ⟨_, rfl⟩
 rw [hn] at hwd HI l3 hc1
 clear he hints hcell
 have hn5 : n ≤ 256 := by have := HV.out.2.2.2.1; unfold wid at hwd; omega
 by_cases h4' : n ≤ 4
 case neg =>
  have d2 : decide ((n : Int) ≤ 4) = false := decide_eq_false (by omega)
  have HN : Hid (¬ SM L) := fun h => by have := h.2.2.2.1; omega
  clear hwd
  go_wp2_with fail
  go_ret
  exact ⟨Tells.no HN.out, bel⟩
 have d2 : decide ((n : Int) ≤ 4) = true := decide_eq_true (by omega)
 have HW : Hid (wid L = n) := hwd
 have H4 := Lib.hid h4
 have H4' := Lib.hid h4'
 clear hwd
 go_wp2_with fail
 refine (rowSum_any _ _ l0 (HI.out.keep hk1)).mono ?_
 rintro e w3 ⟨he, hb3⟩
 rw [HR.out] at he
 subst he
 have y3 := hb3.size; (try simp only [zs] at y3)
 obtain ⟨T, hT⟩ : ∃ T, tot L = T := ⟨_, rfl⟩
 rw [hT]
 have HT := Lib.hid hT
 clear hT
 by_cases h5 : T ≤ 1024
 ·have d3 : decide (T ≤ 1024) = true := decide_eq_true h5
  have HY : Hid (SM L) := ⟨HF.out, HV.out, by rw [HM.out]; exact H4.out, by rw [HW.out]; exact H4'.out, by rw [HT.out]; exact h5⟩
  go_wp2_with fail
  go_ret
  exact ⟨Tells.yes HY.out, bel⟩
 ·have d3 : decide (T ≤ 1024) = false := decide_eq_false h5
  have HN : Hid (¬ SM L) := fun h => by have := h.2.2.2.2; have := HT.out; omega
  go_wp2_with fail
  go_ret
  exact ⟨Tells.no HN.out, bel⟩
end Go.Proofs.YtdambnieminnfaaGreat

