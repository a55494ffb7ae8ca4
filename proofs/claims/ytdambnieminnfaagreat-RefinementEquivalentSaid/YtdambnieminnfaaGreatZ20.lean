/- Contracts of the functions that the statements reach, part 20. -/
import Derived.Test.YtdambnieminnfaaGreatRows
import Derived.Test.YtdambnieminnfaaGreatZ16
import Derived.Test.YtdambnieminnfaaGreatZ17
import Derived.Test.YtdambnieminnfaaGreatZ19
set_option linter.unusedSimpArgs false
set_option linter.unusedVariables false

/- Answers that tell, settled (as in Nl5, which serves layer 8). -/
namespace Go.Proofs.YtdambnieminnfaaGreat
open Go.RowKit
theorem Tells.eq {P : Prop} {e : Ending} {b : Bool} (h : Tells P e) (hb : b = true ↔ P) : e = .returned (.bool b) := by
 obtain ⟨c, rfl, hc⟩ := h
 have : c = b := by
  have h1 := hc.out.trans hb.symm
  cases c <;> cases b <;> simp_all
 rw [this]
theorem tell (P : Prop) : ∃ b : Bool, Hid (b = true ↔ P) := by
 rcases Classical.em P with h | h
 ·exact ⟨true, fun _ => h, fun _ => rfl⟩
 ·exact ⟨false, fun h' => (by cases h'), fun h' => absurd h' h⟩
end Go.Proofs.YtdambnieminnfaaGreat

/- channel.Total, refinement.pair, refinement.whole. -/
namespace Go.Proofs.YtdambnieminnfaaGreat
open Go.RowKit
attribute [local go_sem ↓] Go.wp_at_zero Go.wp_at_succ

/-- A valid channel's total. -/
def tot (L : List (List Int)) : Int := rsumA 0 (L.getD 0 [])
set_option maxRecDepth 100000 in
set_option maxHeartbeats 4000000 in
theorem total_any (w : World) (v0 : Value) (L : List (List Int)) (h : IMat w v0 L) (hV : VC L) :
 Calls Tryz.prog 52 #[.agg #[v0]] w fun e w' => e = .returned (.int .i64 (tot L)) ∧ Below w.heap.size w w' := by
 have H := Lib.hid h
 have HV := Lib.hid hV
 obtain ⟨A, cA, rfl, h, l1, l2⟩ := h.op
 clear h hV
 obtain ⟨m, hm⟩ : ∃ m, L.length = m := ⟨_, rfl⟩
 have HM := Lib.hid hm
 rw [hm] at l1 H
 rw [hm]
 have q0 : (0 : Int) < (m : Int) := by have := HV.out.1; omega
 clear hm
 obtain ⟨l0, he⟩ : ∃ l, L[0]? = some l := ⟨_, List.getElem?_eq_getElem (by have := HM.out; omega)⟩
 obtain ⟨a0, D, d, rfl, hab, hcell, hints, l3, l4⟩ := H.out.at he
 rw [addr_zero] at hcell
 obtain ⟨R, hR⟩ : ∃ R, tot L = R := ⟨_, rfl⟩
 have HR : Hid (rsumA 0 l0 = R) := by show _ = _; rw [← hR]; unfold tot; rw [List.getD_eq_getElem?_getD, he]; rfl
 rw [hR]
 have HI := Lib.hid hints
 have L1 := made1 w #[.slice (some a0) m cA] 24
 clear he hR hints
 go_enter Tryz.func52, Tryz.ntmps52
 go_wp2_with fail
 refine (cvalid_any _ _ L (by have := H.out.keep (kp : Keep (fun _ => False) w (w.alloc (.cells #[.slice (some a0) m cA] 24))); exact this)).mono ?_
 rintro e w1 ⟨he, hb1⟩
 have he := he.eq (b := true) ⟨fun _ => HV.out, fun _ => rfl⟩
 subst he
 have z1 := sz1 hb1
 obtain ⟨e1, f1, t1⟩ := L1.all (w' := w1)
 have hk1 : Keep (fun _ => False) w w1 := kp
 have hc1 : w1.cell? a0 = _ := cell_keep hcell hab id hk1
 go_wp2_with fail
 refine (csum_any _ _ l0 (HI.out.keep hk1)).mono ?_
 rintro e w2 ⟨he, hb2⟩
 rw [HR.out] at he
 subst he
 go_wp2_with fail
 go_ret
 exact ⟨rfl, bel⟩

/-- The code of a pair of channels. -/
def PairSays (code : Int) (L1 L2 : List (List Int)) : Prop := (¬ (VC L1 ∧ VC L2) → code = 1) ∧ (VC L1 ∧ VC L2 → L1.length ≠ L2.length → code = 2) ∧ (VC L1 ∧ VC L2 → L1.length = L2.length → code = 0)
set_option maxRecDepth 100000 in
set_option maxHeartbeats 4000000 in
theorem pair_any (w : World) (v1 v2 : Value) (L1 L2 : List (List Int)) (h1 : IMat w v1 L1) (h2 : IMat w v2 L2) :
 Calls Tryz.prog 47 #[.agg #[v1], .agg #[v2]] w fun e w' => ∃ code : Int, e = .returned (.int .i64 code) ∧ Hid (PairSays code L1 L2) ∧ Below w.heap.size w w' := by
 have H1 := Lib.hid h1
 have H2 := Lib.hid h2
 obtain ⟨A, cA, rfl, h1, la1, la2⟩ := h1.op
 obtain ⟨B, cB, rfl, h2, lb1, lb2⟩ := h2.op
 clear h1 h2
 have M1 := made1 w #[.slice A L1.length cA] 24
 have M2 := made2 w (.cells #[.slice A L1.length cA] 24) #[.slice B L2.length cB] 24
 go_enter Tryz.func47, Tryz.ntmps47
 go_wp2_with fail
 refine (cvalid_any _ _ L1 (H1.out.keep kp)).mono ?_
 rintro e w1 ⟨⟨b, rfl, hb⟩, hb1⟩
 obtain ⟨z1, z2⟩ := sz2 hb1
 obtain ⟨e1, f1, t1⟩ := M1.all (w' := w1)
 obtain ⟨e2, f2, t2⟩ := M2.all (w' := w1)
 cases b
 ·have HV : Hid (¬ VC L1) := fun h => by have := hb.out.2 h; cases this
  clear hb
  go_wp2_with fail
  go_ret
  exact ⟨1, rfl, ⟨fun _ => rfl, fun h => absurd h.1 HV.out, fun h => absurd h.1 HV.out⟩, bel⟩
 have HV1 : Hid (VC L1) := hb.out.1 rfl
 clear hb
 go_wp2_with fail
 refine (cvalid_any _ _ L2 (H2.out.keep kp)).mono ?_
 rintro e w2 ⟨⟨b, rfl, hb⟩, hb2⟩
 have y2 := hb2.size; (try simp only [zs] at y2)
 clear e1 f1 t1 e2 f2 t2
 obtain ⟨e1, f1, t1⟩ := M1.all (w' := w2)
 obtain ⟨e2, f2, t2⟩ := M2.all (w' := w2)
 cases b
 ·have HV : Hid (¬ VC L2) := fun h => by have := hb.out.2 h; cases this
  clear hb
  go_wp2_with fail
  go_ret
  exact ⟨1, rfl, ⟨fun _ => rfl, fun h => absurd h.2 HV.out, fun h => absurd h.2 HV.out⟩, bel⟩
 have HV2 : Hid (VC L2) := hb.out.1 rfl
 clear hb
 by_cases hmk : L1.length = L2.length
 ·have d1 : ((L1.length : Int) == (L2.length : Int)) = true := beq_iff_eq.2 (by omega)
  have d2 : ((L1.length : Int) != (L2.length : Int)) = false := by simp only [bne, d1]; rfl
  have HMK := Lib.hid hmk
  clear hmk
  go_wp2_with fail
  go_ret
  exact ⟨0, rfl, ⟨fun h => absurd ⟨HV1.out, HV2.out⟩ h, fun _ h => absurd HMK.out h, fun _ _ => rfl⟩, bel⟩
 ·have d1 : ((L1.length : Int) == (L2.length : Int)) = false := beq_eq_false_iff_ne.2 (by omega)
  have d2 : ((L1.length : Int) != (L2.length : Int)) = true := bne_iff_ne.2 (by omega)
  have HMK : Hid (¬ L1.length = L2.length) := hmk
  clear hmk
  go_wp2_with fail
  go_ret
  exact ⟨2, rfl, ⟨fun h => absurd ⟨HV1.out, HV2.out⟩ h, fun _ _ => rfl, fun _ h => absurd h HMK.out⟩, bel⟩

/- slices.ContainsFunc at lists of fractions and at lists of those, for any predicate. -/

/-- A function that tells whether P, at fractions. -/
def TellsR (k : Nat) (w : World) (F : Nat) (caps : Array Value) (P : Rat → Prop) : Prop :=
 ∀ (W : World) (v : Value) (q : Rat), Below w.heap.size w W → RatL k W (fun _ => False) v q → Calls Tryz.prog F (#[v] ++ caps) W fun e w' => Tells (P q) e ∧ Below W.heap.size W w'
/-- A function that tells whether P, at lists of fractions. -/
def TellsN (k : Nat) (w : World) (F : Nat) (caps : Array Value) (P : Nat → (Nat → Rat) → Prop) (ok : Nat → Prop) : Prop :=
 ∀ (W : World) (v : Value) (n : Nat) (f : Nat → Rat), Below w.heap.size w W → ok n → Nums k W (fun _ => False) v n f → Calls Tryz.prog F (#[v] ++ caps) W fun e w' => Tells (P n f) e ∧ Below W.heap.size W w'

set_option maxRecDepth 100000 in
set_option maxHeartbeats 4000000 in
theorem indexR_any (w : World) (F : Nat) (caps : Array Value) (P : Rat → Prop) (v : Value) (m k : Nat) (f : Nat → Rat) (h : Nums k w (fun _ => False) v m f) (hen : Enters F) (hF : TellsR k w F caps P) :
 Calls Tryz.prog 71 #[v, .func (Fn.func F) #[] caps] w fun e w' => ∃ r : Int, e = .returned (.int .i64 r) ∧ ((0 ≤ r ∧ ∃ i, i < m ∧ P (f i)) ∨ (r < 0 ∧ ∀ i, i < m → ¬ P (f i))) ∧ Below w.heap.size w w' := by
 have H := Lib.hid h
 have HF := Lib.hid hF
 have hen2 : ∀ (args : Array Value) (W : World), (callFunc F args).run Tryz.prog W = .ok (.enter F args) W := hen
 obtain ⟨A, cap, rfl, h, l1, l2⟩ := h.op
 have lm : m ≤ 9223372036854775807 := by unfold maxLen at l2; omega
 clear h hF
 go_enter Tryz.func71, Tryz.ntmps71
 go_wp2_with fail
 go_loopw [8] (fun i wr => ∃ (c : Nat), c ≤ m ∧ i = .int .i64 c ∧ Hid (∀ i, i < c → ¬ P (f i)) ∧ Below w.heap.size w wr) (fun i _ => m - (intOf i).toNat)
 case atStart => exact ⟨0, by omega, rfl, Lib.hid (fun i hi => absurd hi (by omega)), bel⟩
 case round =>
  obtain ⟨c, hc, rfl, hall, hB⟩ := hrel
  obtain ⟨wo, rfl⟩ : ∃ wo : World, wo = wr := ⟨_, rfl⟩
  have y5 := hB.size; (try simp only [zs] at y5)
  by_cases hlt : c < m
  ·obtain ⟨a, b3, A3, m3, c3, b3', A3', m3', c3', rfl, ha, -, x0, x1, x2, x3, r3⟩ := Nums.at (Nums.keep H.out (.of_below hB)) hlt
   replace x1 : wo.cell? ⟨(a.add (c * 4)).block, (a.add (c * 4)).off + 1, none⟩ = _ := x1
   replace x2 : wo.cell? ⟨(a.add (c * 4)).block, (a.add (c * 4)).off + 2, none⟩ = _ := x2
   replace x3 : wo.cell? ⟨(a.add (c * 4)).block, (a.add (c * 4)).off + 3, none⟩ = _ := x3
   have k0 : (0 : Int) ≤ (c : Int) := by omega
   have k1 : (c : Int) < (m : Int) := by omega
   have HLT := Lib.hid hlt
   go_wp2_with fail
   refine (HF.out _ _ (f c) hB r3).mono ?_
   rintro e w2 ⟨⟨b, rfl, hb⟩, hb2⟩
   have y2 := hb2.size; (try simp only [zs] at y2)
   cases b
   ·have HGD : Hid (¬ P (f c)) := fun h => by have := hb.out.2 h; cases this
    clear hb
    go_wp2_with fail
    go_roundw
    case rel =>
     refine ⟨c + 1, by omega, by go_num, Lib.hid (fun i hi => ?_), bel⟩
     by_cases hic : i < c
     ·exact hall.out i hic
     ·obtain rfl : i = c := by omega
      exact HGD.out
    case measure => simp only [intOf]; omega
   ·have HGD : Hid (P (f c)) := hb.out.1 rfl
    clear hb
    go_wp2_with fail
    go_ret
    exact ⟨_, rfl, .inl ⟨by omega, c, HLT.out, HGD.out⟩, bel⟩
  ·obtain rfl : c = m := by omega
   go_wp2_with fail
   go_ret
   exact ⟨_, rfl, .inr ⟨by decide, hall.out⟩, hB⟩
set_option maxRecDepth 100000 in
set_option maxHeartbeats 4000000 in
theorem containsR_any (w : World) (F : Nat) (caps : Array Value) (P : Rat → Prop) (v : Value) (m k : Nat) (f : Nat → Rat) (h : Nums k w (fun _ => False) v m f) (hen : Enters F) (hF : TellsR k w F caps P) :
 Calls Tryz.prog 35 #[v, .func (Fn.func F) #[] caps] w fun e w' => Tells (∃ i, i < m ∧ P (f i)) e ∧ Below w.heap.size w w' := by
 have H := Lib.hid h
 have HF := Lib.hid hF
 obtain ⟨A, cap, rfl, h, l1, l2⟩ := h.op
 clear h hF
 go_enter Tryz.func35, Tryz.ntmps35
 go_wp2_with fail
 refine (indexR_any _ F caps P _ m k f H.out hen HF.out).mono ?_
 rintro e w1 ⟨r, rfl, hr, hb1⟩
 have y1 := hb1.size; (try simp only [zs] at y1)
 have HR := Lib.hid hr
 clear hr
 by_cases h0 : 0 ≤ r
 ·have HV : Hid (∃ i, i < m ∧ P (f i)) := by
   rcases HR.out with ⟨_, h⟩ | ⟨h, _⟩
   ·exact h
   ·omega
  go_wp2_with fail
  go_ret
  exact ⟨Tells.yes HV.out, bel⟩
 ·have HV : Hid (¬ ∃ i, i < m ∧ P (f i)) := by
   rcases HR.out with ⟨h, _⟩ | ⟨_, h⟩
   ·omega
   ·exact fun ⟨i, hi, hp⟩ => h i hi hp
  have hd : decide (0 ≤ r) = false := decide_eq_false h0
  go_wp2_with fail
  go_ret
  exact ⟨by first | exact Tells.no HV.out | (simp only [hd]; exact Tells.no HV.out), bel⟩

/- slices.ContainsFunc at lists of lists of fractions; refinement.matrix. -/

set_option maxRecDepth 100000 in
set_option maxHeartbeats 4000000 in
theorem indexN_any (w : World) (F : Nat) (caps : Array Value) (P : Nat → (Nat → Rat) → Prop) (v : Value) (m k : Nat) (N : Nat → Nat) (f : Nat → Nat → Rat) (h : Mat k w (fun _ => False) v m N f) (hen : Enters F) (ok : Nat → Prop) (hok : ∀ i, i < m → ok (N i)) (hF : TellsN k w F caps P ok) :
 Calls Tryz.prog 125 #[v, .func (Fn.func F) #[] caps] w fun e w' => ∃ r : Int, e = .returned (.int .i64 r) ∧ ((0 ≤ r ∧ ∃ i, i < m ∧ P (N i) (f i)) ∨ (r < 0 ∧ ∀ i, i < m → ¬ P (N i) (f i))) ∧ Below w.heap.size w w' := by
 have H := Lib.hid h
 have HF := Lib.hid hF
 have HOK := Lib.hid hok
 have hen2 : ∀ (args : Array Value) (W : World), (callFunc F args).run Tryz.prog W = .ok (.enter F args) W := hen
 obtain ⟨A, cap, rfl, h, l1, l2⟩ := h.op
 have lm : m ≤ 9223372036854775807 := by unfold maxLen at l2; omega
 clear h hF hok
 go_enter Tryz.func125, Tryz.ntmps125
 go_wp2_with fail
 go_loopw [8] (fun i wr => ∃ (c : Nat), c ≤ m ∧ i = .int .i64 c ∧ Hid (∀ i, i < c → ¬ P (N i) (f i)) ∧ Below w.heap.size w wr) (fun i _ => m - (intOf i).toNat)
 case atStart => exact ⟨0, by omega, rfl, Lib.hid (fun i hi => absurd hi (by omega)), bel⟩
 case round =>
  obtain ⟨c, hc, rfl, hall, hB⟩ := hrel
  obtain ⟨wo, rfl⟩ : ∃ wo : World, wo = wr := ⟨_, rfl⟩
  have y5 := hB.size; (try simp only [zs] at y5)
  by_cases hlt : c < m
  ·obtain ⟨a, D, d, rfl, hab, -, hcell, hnum, l3, l4⟩ := Mat.at (Mat.keep H.out (.of_below hB)) hlt
   have k0 : (0 : Int) ≤ (c : Int) := by omega
   have k1 : (c : Int) < (m : Int) := by omega
   have HLT := Lib.hid hlt
   have HNUM := Lib.hid hnum
   clear hnum
   go_wp2_with fail
   refine (HF.out _ _ (N c) (f c) hB (HOK.out c HLT.out) HNUM.out).mono ?_
   rintro e w2 ⟨⟨b, rfl, hb⟩, hb2⟩
   have y2 := hb2.size; (try simp only [zs] at y2)
   cases b
   ·have HGD : Hid (¬ P (N c) (f c)) := fun h => by have := hb.out.2 h; cases this
    clear hb
    go_wp2_with fail
    go_roundw
    case rel =>
     refine ⟨c + 1, by omega, by go_num, Lib.hid (fun i hi => ?_), bel⟩
     by_cases hic : i < c
     ·exact hall.out i hic
     ·obtain rfl : i = c := by omega
      exact HGD.out
    case measure => simp only [intOf]; omega
   ·have HGD : Hid (P (N c) (f c)) := hb.out.1 rfl
    clear hb
    go_wp2_with fail
    go_ret
    exact ⟨_, rfl, .inl ⟨by omega, c, HLT.out, HGD.out⟩, bel⟩
  ·obtain rfl : c = m := by omega
   go_wp2_with fail
   go_ret
   exact ⟨_, rfl, .inr ⟨by decide, hall.out⟩, hB⟩
set_option maxRecDepth 100000 in
set_option maxHeartbeats 4000000 in
theorem containsN_any (w : World) (F : Nat) (caps : Array Value) (P : Nat → (Nat → Rat) → Prop) (v : Value) (m k : Nat) (N : Nat → Nat) (f : Nat → Nat → Rat) (h : Mat k w (fun _ => False) v m N f) (hen : Enters F) (ok : Nat → Prop) (hok : ∀ i, i < m → ok (N i)) (hF : TellsN k w F caps P ok) :
 Calls Tryz.prog 86 #[v, .func (Fn.func F) #[] caps] w fun e w' => Tells (∃ i, i < m ∧ P (N i) (f i)) e ∧ Below w.heap.size w w' := by
 have H := Lib.hid h
 have HF := Lib.hid hF
 have HOK := Lib.hid hok
 obtain ⟨A, cap, rfl, h, l1, l2⟩ := h.op
 clear h hF hok
 go_enter Tryz.func86, Tryz.ntmps86
 go_wp2_with fail
 refine (indexN_any _ F caps P _ m k N f H.out hen ok HOK.out HF.out).mono ?_
 rintro e w1 ⟨r, rfl, hr, hb1⟩
 have y1 := hb1.size; (try simp only [zs] at y1)
 have HR := Lib.hid hr
 clear hr
 by_cases h0 : 0 ≤ r
 ·have HV : Hid (∃ i, i < m ∧ P (N i) (f i)) := by
   rcases HR.out with ⟨_, h⟩ | ⟨h, _⟩
   ·exact h
   ·omega
  go_wp2_with fail
  go_ret
  exact ⟨Tells.yes HV.out, bel⟩
 ·have HV : Hid (¬ ∃ i, i < m ∧ P (N i) (f i)) := by
   rcases HR.out with ⟨h, _⟩ | ⟨_, h⟩
   ·omega
   ·exact fun ⟨i, hi, hp⟩ => h i hi hp
  have hd : decide (0 ≤ r) = false := decide_eq_false h0
  go_wp2_with fail
  go_ret
  exact ⟨by first | exact Tells.no HV.out | (simp only [hd]; exact Tells.no HV.out), bel⟩

set_option maxHeartbeats 2000000 in
theorem below0_any (w : World) (k : Nat) (v : Value) (q : Rat) (h : RatL k w (fun _ => False) v q) :
 Calls Tryz.prog 97 #[v] w fun e w' => Tells (q < 0) e ∧ Below w.heap.size w w' := by
 have hq := sign_neg_iff q
 obtain ⟨n1, A, m, c, n2, B, m', d, rfl, h, -⟩ := h.op
 have HQ : Hid (q.num.sign < 0 ↔ q < 0) := hq
 clear hq
 go_enter Tryz.func97, Tryz.ntmps97
 go_wp2_with fail
 refine (sign_rat _ (fun _ => False) k _ q h.to).mono ?_
 rintro e w1 ⟨rfl, hb1⟩
 have z1 := sz1 hb1
 have HQ2 := HQ.out
 generalize q.num.sign = s at *
 clear HQ
 by_cases h2 : s < 0
 ·have HV : Hid (q < 0) := HQ2.1 h2
  clear HQ2
  go_wp2_with fail
  go_ret
  exact ⟨Tells.yes HV.out, bel⟩
 ·have HV : Hid (¬ q < 0) := fun h => h2 (HQ2.2 h)
  have hd : decide (s < 0) = false := decide_eq_false h2
  clear HQ2
  go_wp2_with fail
  go_ret
  exact ⟨by first | exact Tells.no HV.out | (simp only [hd]; exact Tells.no HV.out), bel⟩

/-- A matrix: a row, all rows of one length, at least 1, no number below zero. -/
def MX (m : Nat) (N : Nat → Nat) (F : Nat → Nat → Rat) : Prop := 1 ≤ m ∧ 1 ≤ N 0 ∧ ∀ i, i < m → N i = N 0 ∧ ∀ j, j < N i → ¬ F i j < 0
set_option maxRecDepth 100000 in
set_option maxHeartbeats 4000000 in
theorem matrix1_any (w : World) (v : Value) (n k g m cA n0 d : Nat) (f : Nat → Rat) (a0 : Addr) (D : Option Addr) (h : Nums k w (fun _ => False) v n f) (hg : w.cell? ⟨g, 0, none⟩ = some (.slice (some a0) m cA)) (h0 : w.cell? a0 = some (.slice D n0 d)) (hm : 0 < m) :
 Calls Tryz.prog 96 #[v, .pointer (some ⟨g, 0, none⟩)] w fun e w' => Tells (n ≠ n0 ∨ ∃ j, j < n ∧ f j < 0) e ∧ Below w.heap.size w w' := by
 have H := Lib.hid h
 obtain ⟨A, cp, rfl, h, l1, l2⟩ := h.op
 have q0 : (0 : Int) < (m : Int) := by omega
 clear h
 by_cases hn : n = n0
 ·have d1 : ((n : Int) == (n0 : Int)) = true := beq_iff_eq.2 (by omega)
  have d2 : ((n : Int) != (n0 : Int)) = false := by simp only [bne, d1]; rfl
  have HN := Lib.hid hn
  clear hn
  go_enter Tryz.func96, Tryz.ntmps96
  go_wp2_with fail
  refine (containsR_any _ 97 #[] (fun q => q < 0) _ n k f (H.out.keep kp) (enters Tryz.func97 (by kernel_rfl) (by kernel_rfl)) (show TellsR k _ 97 #[] (fun q => q < 0) from fun W v q _ hq => below0_any W k v q hq)).mono ?_
  rintro e w1 ⟨⟨b, rfl, hb⟩, hb1⟩
  have HP : Hid (b = true ↔ (n ≠ n0 ∨ ∃ j, j < n ∧ f j < 0)) := hb.out.trans ⟨fun h => .inr h, fun h => h.resolve_left (fun h => h HN.out)⟩
  clear hb
  go_wp2_with fail
  go_ret
  exact ⟨⟨b, rfl, HP.out⟩, bel⟩
 ·have d1 : ((n : Int) == (n0 : Int)) = false := beq_eq_false_iff_ne.2 (by omega)
  have d2 : ((n : Int) != (n0 : Int)) = true := bne_iff_ne.2 (by omega)
  have HN : Hid (n ≠ n0) := hn
  clear hn
  go_enter Tryz.func96, Tryz.ntmps96
  go_wp2_with fail
  go_ret
  exact ⟨Tells.yes (.inl HN.out), bel⟩

/- refinement.matrix, refinement.whole. -/

set_option maxHeartbeats 2000000 in
theorem rwhole_any (w : World) (n : Int) (h0 : -9223372036854775808 ≤ n) (h1 : n ≤ 9223372036854775807) :
 Calls Tryz.prog 49 #[.int .i64 n] w fun e w' => ∃ v', e = .returned v' ∧ RatV w' (Old w) v' (n : Rat) ∧ Below w.heap.size w w' := by
 have L := made1 w #[.bool false, .slice none 0 0, .bool false, .slice none 0 0] 60
 go_enter Tryz.func49, Tryz.ntmps49
 go_wp2_with fail
 refine (ratof_any _ n 1 (by decide) h0 h1 (by decide) (by decide)).mono ?_
 rintro e w1 ⟨v1, rfl, i1, hb1⟩
 rw [divInt_int] at i1
 obtain ⟨b1, A1, m1, c1, b1', A1', m1', c1', rfl, i1, -, -⟩ := i1.op
 have z1 := sz1 hb1
 have M := made1 w1 #[.bool b1, .slice A1 m1 c1, .bool b1', .slice A1' m1' c1'] 60
 obtain ⟨e4, g4, -⟩ := L.all (w' := w1.alloc (.cells #[.bool b1, .slice A1 m1 c1, .bool b1', .slice A1' m1' c1'] 60))
 obtain ⟨e6, g6, l6⟩ := L.all (w' := w1)
 obtain ⟨e5, g5, -⟩ := M.all (w' := w1.alloc (.cells #[.bool b1, .slice A1 m1 c1, .bool b1', .slice A1' m1' c1'] 60))
 have LF := Loc.fill4 (u := .bool b1) (v := .slice A1 m1 c1) (x := .bool b1') (y := .slice A1' m1' c1') (L.to (w' := w1))
 obtain ⟨e8, g8, -⟩ := LF.all (w' := ((((w1.setCell ⟨w.heap.size, 0, none⟩ (.bool b1)).setCell ⟨w.heap.size, 1, none⟩ (.slice A1 m1 c1)).setCell ⟨w.heap.size, 2, none⟩ (.bool b1')).setCell ⟨w.heap.size, 3, none⟩ (.slice A1' m1' c1')).alloc (.cells #[.bool b1, .slice A1 m1 c1, .bool b1', .slice A1' m1' c1'] 60))
 go_wp2_with fail
 refine bodyPost_ret (by simp [results, Tryz.results49, go_sem, e8, g8] <;> rfl) rfl ⟨_, rfl, RatV.out i1, bel⟩

set_option maxRecDepth 100000 in
set_option maxHeartbeats 4000000 in
theorem matrix_any (w : World) (v : Value) (m k : Nat) (N : Nat → Nat) (F : Nat → Nat → Rat) (h : Mat k w (fun _ => False) v m N F) :
 Calls Tryz.prog 57 #[v] w fun e w' => Tells (MX m N F) e ∧ Below w.heap.size w w' := by
 have H := Lib.hid h
 obtain ⟨A, cA, rfl, h, l1, l2⟩ := h.op
 by_cases hm : m = 0
 ·subst hm
  have HV : Hid (¬ MX 0 N F) := fun h => absurd h.1 (by decide)
  clear h
  go_enter Tryz.func57, Tryz.ntmps57
  go_wp2_with fail
  go_ret
  exact ⟨Tells.no HV.out, bel⟩
 have hpos : 0 < m := by omega
 have d1 : ((m : Int) == 0) = false := beq_eq_false_iff_ne.2 (by omega)
 have q0 : (0 : Int) < (m : Int) := by omega
 obtain ⟨a0, D, d, rfl, hab, -, hcell, -, l3, l4⟩ := Mat.at h hpos
 rw [addr_zero] at hcell
 obtain ⟨n0, hn0⟩ : ∃ n, N 0 = n := ⟨_, rfl⟩
 have HN0 := Lib.hid hn0
 rw [hn0] at hcell l3
 have L1 := made1 w #[.slice (some a0) m cA] 25
 have hkb : Keep (fun _ => False) w (w.alloc (.cells #[.slice (some a0) m cA] 25)) := kp
 have hc1 : (w.alloc (.cells #[.slice (some a0) m cA] 25)).cell? a0 = _ := cell_keep hcell hab id hkb
 clear h hm hn0
 by_cases hn : n0 = 0
 ·subst hn
  have HV : Hid (¬ MX m N F) := fun h => by have := h.2.1; rw [HN0.out] at this; omega
  go_enter Tryz.func57, Tryz.ntmps57
  go_wp2_with fail
  go_ret
  exact ⟨Tells.no HV.out, bel⟩
 have d2 : ((n0 : Int) == 0) = false := beq_eq_false_iff_ne.2 (by omega)
 have HT : Hid (TellsN k (w.alloc (.cells #[.slice (some a0) m cA] 25)) 96 #[.pointer (some ⟨w.heap.size, 0, none⟩)] (fun n f => n ≠ n0 ∨ ∃ j, j < n ∧ f j < 0) (fun _ => True)) := fun W v n f hW _ hv =>
  matrix1_any W v n k w.heap.size m cA n0 d f a0 D hv (Loc.cell (L1.below hW) 0) (cell_keep hcell hab id (hkb.trans (.of_below hW))) hpos
 have HW := Lib.hid (H.out.keep hkb)
 have HMX : Hid (MX m N F ↔ ¬ ∃ i, i < m ∧ (N i ≠ n0 ∨ ∃ j, j < N i ∧ F i j < 0)) := by
  show _ ↔ _
  unfold MX
  rw [HN0.out]
  constructor
  ·rintro ⟨_, _, h⟩ ⟨i, hi, h'⟩
   rcases h' with h' | ⟨j, hj, h'⟩
   ·exact h' (h i hi).1
   ·exact (h i hi).2 j hj h'
  ·intro h
   refine ⟨hpos, by omega, fun i hi => ⟨?_, fun j hj hneg => h ⟨i, hi, .inr ⟨j, hj, hneg⟩⟩⟩⟩
   exact Classical.not_not.1 (fun hne => h ⟨i, hi, .inl hne⟩)
 clear hcell hkb
 go_enter Tryz.func57, Tryz.ntmps57
 go_wp2_with fail
 refine (containsN_any _ 96 #[.pointer (some ⟨w.heap.size, 0, none⟩)] (fun n f => n ≠ n0 ∨ ∃ j, j < n ∧ f j < 0) _ m k N F HW.out (enters Tryz.func96 (by kernel_rfl) (by kernel_rfl)) (fun _ => True) (fun _ _ => trivial) HT.out).mono ?_
 rintro e w2 ⟨⟨b, rfl, hb⟩, hb2⟩
 cases b
 ·have HV : Hid (MX m N F) := HMX.out.2 (fun h => by have := hb.out.2 h; cases this)
  clear hb
  go_wp2_with fail
  go_ret
  exact ⟨Tells.yes HV.out, bel⟩
 ·have HV : Hid (¬ MX m N F) := fun h => HMX.out.1 h (hb.out.1 rfl)
  clear hb
  go_wp2_with fail
  go_ret
  exact ⟨Tells.no HV.out, bel⟩

/- New of the reference. -/

set_option maxHeartbeats 8000000 in
theorem rnew_any (w : World) (X : Nat → Prop) (v1 v2 : Value) (n1 n2 : Bool) (xs ys : List Nat) (h1 : IntR w X v1 n1 xs) (h2 : IntR w X v2 n2 ys) (hz : val ys ≠ 0) (hs1 : xs.length ≤ 10000000) (hs2 : ys.length ≤ 10000000) :
 Calls Tryz.prog 70 #[v1, v2] w fun e w' => ∃ v', e = .returned (.tuple #[v', .int .i64 0]) ∧ RatV w' (Old w) v' (Rat.divInt (sv n1 xs) (sv n2 ys)) ∧ Below w.heap.size w w' := by
 have HL1 := Lib.hid (Nat.le_trans (sv_len n1 xs h1.ws) hs1)
 have HL2 := Lib.hid (Nat.le_trans (sv_len n2 ys h2.ws) hs2)
 obtain ⟨A, c, rfl, h1⟩ := h1.op
 obtain ⟨B, d, rfl, h2⟩ := h2.op
 have hd0 : sv n2 ys ≠ 0 := fun h => hz ((sv_zero_iff n2 ys).1 h)
 obtain ⟨N, hN⟩ : ∃ z, sv n1 xs = z := ⟨_, rfl⟩
 obtain ⟨D, hD⟩ : ∃ z, sv n2 ys = z := ⟨_, rfl⟩
 rw [hD] at hd0 HL2
 rw [hN] at HL1
 have HN := Lib.hid hN
 have HD := Lib.hid hD
 have HD0 := Lib.hid (decide_eq_false hd0)
 obtain ⟨q, hq⟩ : ∃ q, Rat.divInt (sv n1 xs) (sv n2 ys) = q := ⟨_, rfl⟩
 rw [hq]
 rw [hN, hD] at hq
 have HQ := Lib.hid hq
 clear hq hz hN hD
 have L2 := made2 w (.cells #[.bool n1, .slice A xs.length c] 58) #[.bool n2, .slice B ys.length d] 58
 have L3 := made3 w (.cells #[.bool n1, .slice A xs.length c] 58) (.cells #[.bool n2, .slice B ys.length d] 58) #[.bool false, .slice none 0 0, .bool false, .slice none 0 0] 60
 go_enter Tryz.func70, Tryz.ntmps70
 go_wp2_with fail
 refine (rclean_any _ (fun _ => False) _ n1 xs h1.to (by omega)).mono ?_
 rintro e w1 ⟨v3, rfl, i1, hb1⟩
 rw [HN.out] at i1
 obtain ⟨b3, A3, m3, c3, rfl, i1⟩ := i1.op
 obtain ⟨z1, z2, z3⟩ := sz3 hb1
 obtain ⟨e2, f2, -⟩ := Loc.all L2 (w' := w1)
 go_wp2_with fail
 have L6 := made1 w1 #[.bool b3, .slice A3 m3 c3] 58
 refine (rclean_any _ (fun _ => False) _ n2 ys h2.to (by omega)).mono ?_
 rintro e w2 ⟨v4, rfl, i2, hb2⟩
 rw [HD.out] at i2
 obtain ⟨b4, A4, m4, c4, rfl, i2, HB4, -⟩ := i2.opb
 have y2 := hb2.size; (try simp only [zs] at y2)
 clear e2 f2
 go_wp2_with fail
 have L7 := made1 w2 #[.bool b4, .slice A4 m4 c4] 58
 refine (isZero_any _ (fun _ => False) _ _ _ i2.to (Nat.le_trans HL2.out (by omega))).mono ?_
 rintro e w3 ⟨he, hb3⟩
 rw [sv_dig, HD0.out] at he
 subst he
 have y3 := hb3.size; (try simp only [zs] at y3)
 obtain ⟨e6, f6, -⟩ := Loc.all L6 (w' := w3)
 go_wp2_with fail
 refine (isZero_any _ (fun _ => False) _ _ _ i1.to (Nat.le_trans HL1.out (by omega))).mono ?_
 rintro e w4 ⟨he, hb4⟩
 rw [sv_dig] at he
 have y4 := hb4.size; (try simp only [zs] at y4)
 by_cases hn0 : N = 0
 ·rw [decide_eq_true hn0] at he
  subst he
  have hq0 := HQ.out
  rw [hn0, Rat.zero_divInt] at hq0
  subst hq0
  clear hn0 e6 f6
  go_wp2_with fail
  refine (rzero_rat _).mono ?_
  rintro e w5 ⟨v5, rfl, h5, hb5⟩
  obtain ⟨b5, A5, m5, c5, b5', A5', m5', c5', rfl, h5, -, -⟩ := h5.op
  have y5 := hb5.size; (try simp only [zs] at y5)
  obtain ⟨e5, g5, -⟩ := Loc.all L3 (w' := w5)
  go_wp2_with fail
  refine bodyPost_ret (by simp [results, Tryz.results70, go_sem, e5, g5] <;> rfl) rfl ⟨_, rfl, h5.out, bel⟩
 ·rw [decide_eq_false hn0] at he
  subst he
  have HN0 := Lib.hid hn0
  have HDN := Lib.hid hd0
  clear hn0 hd0 e6 f6
  obtain ⟨e7, f7, -⟩ := Loc.all L7 (w' := w4)
  obtain ⟨e6, f6, -⟩ := Loc.all L6 (w' := w4)
  go_upto_if 26 with fail
  go_cut [26] (fun _ W => ∃ (b : Bool) (C : Option Addr) (m k : Nat) (b' : Bool) (C' : Option Addr) (m' k' : Nat) (us vs : Int), Loc W w1.heap.size 58 #[.bool b, .slice C m k] ∧ Loc W w2.heap.size 58 #[.bool b', .slice C' m' k'] ∧ Loc W (w.heap.size + 1 + 1) 60 #[.bool false, .slice none 0 0, .bool false, .slice none 0 0] ∧
   IntV W (fun b => w.heap.size + 2 = b ∨ w1.heap.size = b ∨ w2.heap.size = b) (.agg #[.bool b, .slice C m k]) us ∧ IntV W (fun b => w.heap.size + 2 = b ∨ w1.heap.size = b ∨ w2.heap.size = b) (.agg #[.bool b', .slice C' m' k']) vs ∧
   Hid (us = (if D < 0 then -N else N) ∧ vs = (if D < 0 then -D else D)) ∧ Below w.heap.size w W)
  case first =>
   have hb4 := HB4.out
   by_cases hneg : D < 0
   ·rw [decide_eq_true hneg] at hb4
    subst hb4
    have HNEG := Lib.hid hneg
    clear hneg
    go_wp2_with fail
    refine (rneg_any _ (fun _ => False) _ _ _ i1.to (Nat.le_trans HL1.out (by omega))).mono ?_
    rintro e u1 ⟨v5, rfl, j1, hb5⟩
    rw [sv_dig] at j1
    obtain ⟨b5, A5, m5, k5, rfl, j1⟩ := j1.op
    have y5 := hb5.size; (try simp only [zs] at y5)
    clear e6 f6 e7 f7
    obtain ⟨e6, f6, -⟩ := Loc.all L6 (w' := u1)
    obtain ⟨e7, f7, -⟩ := Loc.all L7 (w' := u1)
    have n67 : w1.heap.size ≠ w2.heap.size := by omega
    have n76 : w2.heap.size ≠ w1.heap.size := by omega
    go_wp2_with fail
    refine (rneg_any _ (fun _ => False) _ _ _ i2.to (Nat.le_trans HL2.out (by omega))).mono ?_
    rintro e u2 ⟨v6, rfl, j2, hb6⟩
    rw [sv_dig] at j2
    obtain ⟨b6, A6, m6, k6, rfl, j2⟩ := j2.op
    have y6 := hb6.size; (try simp only [zs] at y6)
    have M6 := Loc.fill2 (u := .bool b5) (v := .slice A5 m5 k5) (Loc.to L6 (w' := u1))
    obtain ⟨e8, f8, -⟩ := Loc.all L7 (w' := u2)
    go_wp2_with fail
    go_meet
    exact ⟨_, _, _, _, _, _, _, _, _, _, Loc.to M6, Loc.fill2 (Loc.to L7 (w' := u2)), Loc.to L3, IntV.out j1, IntV.out j2, ⟨by rw [if_pos HNEG.out], by rw [if_pos HNEG.out]⟩, bel⟩
   ·rw [decide_eq_false hneg] at hb4
    subst hb4
    have HNEG := Lib.hid hneg
    clear hneg
    go_wp2_with fail
    go_meet
    exact ⟨_, _, _, _, _, _, _, _, _, _, Loc.to L6, Loc.to L7, Loc.to L3, IntV.out i1, IntV.out i2, ⟨by rw [if_neg (by have := HNEG.out; omega)], by rw [if_neg (by have := HNEG.out; omega)]⟩, bel⟩
  case rest =>
   obtain ⟨b, C, m, k, b', C', m', k', us, vs, M6, M7, M4, i1, i2, HV, hB⟩ := hcut
   have hn1 : us.natAbs = N.natAbs := by rw [HV.out.1]; split <;> omega
   have hn2 : vs.natAbs = D.natAbs := by rw [HV.out.2]; split <;> omega
   have hu0 : us.natAbs ≠ 0 := by have := HN0.out; omega
   have hGp : 0 < Nat.gcd us.natAbs vs.natAbs := Nat.gcd_pos_of_pos_left _ (by omega)
   have hGl : (dig ((Nat.gcd us.natAbs vs.natAbs : Nat) : Int).natAbs).length ≤ 100000000 := by
    rw [Int.natAbs_natCast]; exact Nat.le_trans (dig_len_mono (Nat.gcd_le_left _ (by omega))) (by rw [hn1]; exact Nat.le_trans HL1.out (by omega))
   have hf := new_fields N D HDN.out HN0.out
   rw [← hn1, ← hn2, ← HV.out.1, ← HV.out.2, HQ.out] at hf
   obtain ⟨G, hG⟩ : ∃ G, Nat.gcd us.natAbs vs.natAbs = G := ⟨_, rfl⟩
   rw [hG] at hf hGl hGp
   have HG := Lib.hid hG
   have HF := Lib.hid hf
   have HLU : Hid ((dig us.natAbs).length ≤ 100000000) := by rw [hn1]; exact Nat.le_trans HL1.out (by omega)
   have HLV : Hid ((dig vs.natAbs).length ≤ 100000000) := by rw [hn2]; exact Nat.le_trans HL2.out (by omega)
   have HGV : Hid (val (dig ((G : Nat) : Int).natAbs) ≠ 0) := by show _ ≠ _; rw [val_dig, Int.natAbs_natCast]; omega
   have HGL := Lib.hid hGl
   have q4 := Loc.lt M4
   have q6 := Loc.lt M6
   have q7 := Loc.lt M7
   have n46 : w.heap.size + 1 + 1 < w1.heap.size := z3
   have n47 : w.heap.size + 1 + 1 < w2.heap.size := by omega
   clear hG hf hn1 hn2 hu0 hGp hGl e6 f6 e7 f7 z1 z2 z3 y2 y3 y4 hb1 hb2 hb3 hb4 L2 L3 L6 L7
   obtain ⟨e6, f6, -⟩ := Loc.all M6 (w' := wc)
   obtain ⟨e7, f7, -⟩ := Loc.all M7 (w' := wc)
   go_wp2_with fail
   refine (rgcd_any _ (fun _ => False) _ _ _ _ _ _ i1.to i2.to (Nat.le_trans HLU.out (by omega)) (Nat.le_trans HLV.out (by omega))).mono ?_
   rintro e w5 ⟨v5, rfl, h5, hb5⟩
   rw [val_dig, val_dig, HG.out] at h5
   obtain ⟨b5, A5, m5, k5, rfl, h5⟩ := h5.op
   have y5 := hb5.size; (try simp only [zs] at y5)
   clear e6 f6 e7 f7
   obtain ⟨e6, f6, l6⟩ := Loc.all M6 (w' := w5)
   have M8 := made1 w5 #[.bool b5, .slice A5 m5 k5] 58
   go_wp2_with fail
   refine (rdivide_any _ (fun _ => False) _ _ _ _ _ _ i1.to h5.to HGV.out HLU.out HGL.out).mono ?_
   rintro e w6 ⟨v6, r6, rfl, h6, j6, hb6⟩
   rw [sv_dig, sv_dig, HF.out.1] at h6
   obtain ⟨b6, A6, m6, k6, rfl, h6⟩ := h6.op
   obtain ⟨c6, C6, o6, l6, rfl, j6⟩ := j6.op
   have y6 := hb6.size; (try simp only [zs] at y6)
   clear e6 f6
   obtain ⟨e7, f7, l7⟩ := Loc.all M7 (w' := w6)
   obtain ⟨e8, f8, l8⟩ := Loc.all M8 (w' := w6)
   have M9 := made1 w6 #[.bool b6, .slice A6 m6 k6] 58
   go_wp2_with fail
   refine (rdivide_any _ (fun _ => False) _ _ _ _ _ _ i2.to h5.to HGV.out HLV.out HGL.out).mono ?_
   rintro e w7 ⟨v7, r7, rfl, h7, j7, hb7⟩
   rw [sv_dig, sv_dig, HF.out.2] at h7
   obtain ⟨b7, A7, m7, k7, rfl, h7⟩ := h7.op
   obtain ⟨c7, C7, o7, l7, rfl, j7⟩ := j7.op
   have y7 := hb7.size; (try simp only [zs] at y7)
   clear e7 f7 e8 f8
   obtain ⟨e9, f9, l9⟩ := Loc.all M9 (w' := w7)
   obtain ⟨e5, f5, l5⟩ := Loc.all M4 (w' := w7)
   have l51 : w.heap.size + 1 < w7.heap.size := by omega
   have l52 : w.heap.size < w7.heap.size := by omega
   go_wp2_with fail
   refine bodyPost_ret (by simp [results, Tryz.results70, go_sem, e5, f5, l5, l51, l52] <;> rfl) rfl ⟨_, rfl, RatV.of h6.out h7.out, bel⟩

/- Of the reference: Clean, Of, Sign, Neg, Mul. -/

set_option maxHeartbeats 2000000 in
theorem rratof_any (w : World) (n d : Int) (hd : d ≠ 0) (h0 : -9223372036854775808 ≤ n) (h1 : n ≤ 9223372036854775807) (h2 : -9223372036854775808 ≤ d) (h3 : d ≤ 9223372036854775807) :
 Calls Tryz.prog 84 #[.int .i64 n, .int .i64 d] w fun e w' => ∃ v', e = .returned (.tuple #[v', .int .i64 0]) ∧ RatV w' (Old w) v' (Rat.divInt n d) ∧ Below w.heap.size w w' := by
 have HN := Lib.hid (dig_i64 n h0 h1)
 have HD := Lib.hid (dig_i64 d h2 h3)
 go_enter Tryz.func84, Tryz.ntmps84
 go_wp2_with fail
 refine (rsmallI _ n h0 h1).mono ?_
 rintro e w1 ⟨v1, rfl, i1, hb1⟩
 obtain ⟨b1, A1, m1, c1, rfl, i1⟩ := i1.op
 have z1 := sz1 hb1
 go_wp2_with fail
 refine (rsmallI _ d h2 h3).mono ?_
 rintro e w2 ⟨v2, rfl, i2, hb2⟩
 obtain ⟨b2, A2, m2, c2, rfl, i2⟩ := i2.op
 have y2 := hb2.size; (try simp only [zs] at y2)
 go_wp2_with fail
 refine (rnew_any _ (fun _ => False) _ _ _ _ _ _ i1.to i2.to (by rw [val_dig]; omega) (Nat.le_trans HN.out (by omega)) (Nat.le_trans HD.out (by omega))).mono ?_
 rintro e w3 ⟨v3, rfl, h3, hb3⟩
 rw [sv_dig, sv_dig] at h3
 have y3 := hb3.size; (try simp only [zs] at y3)
 obtain ⟨b2, A2, m2, c2, b3, A3, m3, c3, rfl, h3, -, -⟩ := h3.op
 obtain ⟨e4, g4, -⟩ := (made1 w #[.bool false, .slice none 0 0, .bool false, .slice none 0 0] 60).all (w' := w3)
 go_wp2_with fail
 refine bodyPost_ret (by simp [results, Tryz.results84, go_sem, e4, g4] <;> rfl) rfl ⟨_, rfl, h3.out, bel⟩

/- Of the reference: Mul, Add, Sub, Divide, Compare. -/

/- Of the reference: Add, Sub, Divide, Compare; printed by gen_rat11.py. -/

end Go.Proofs.YtdambnieminnfaaGreat

