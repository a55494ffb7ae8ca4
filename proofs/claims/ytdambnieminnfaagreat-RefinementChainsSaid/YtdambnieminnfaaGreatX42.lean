/- Contracts of the functions that the statements reach, part 42. -/
import Derived.Test.YtdambnieminnfaaGreatRows
import Derived.Test.YtdambnieminnfaaGreatX21
import Derived.Test.YtdambnieminnfaaGreatX23
import Derived.Test.YtdambnieminnfaaGreatX26
set_option linter.unusedSimpArgs false
set_option linter.unusedVariables false

/- The law's side of layer 40: equal; keyholeref02.Valid at canonical values. -/
namespace Go.Proofs.YtdambnieminnfaaGreat
open Go.RowKit
attribute [local go_sem ↓] Go.wp_at_zero Go.wp_at_succ

/-- A function that tells whether two fractions are equal. -/
def TellsQ (k : Nat) (F : Nat) : Prop :=
 ∀ (W : World) (v1 v2 : Value) (x y : Rat), RatL k W (fun _ => False) v1 x → RatL k W (fun _ => False) v2 y → Calls Tryz.prog F (#[v1, v2] ++ #[]) W fun e w' => Tells (x = y) e ∧ Below W.heap.size W w'
/-- The same at lists. -/
def TellsL (k : Nat) (F : Nat) : Prop :=
 ∀ (W : World) (v1 v2 : Value) (n n2 : Nat) (f f2 : Nat → Rat), Nums k W (fun _ => False) v1 n f → Nums k W (fun _ => False) v2 n2 f2 → Calls Tryz.prog F (#[v1, v2] ++ #[]) W fun e w' => Tells (n = n2 ∧ ∀ i, i < n → f i = f2 i) e ∧ Below W.heap.size W w'

set_option maxRecDepth 100000 in
set_option maxHeartbeats 8000000 in
theorem eqRow_any (w : World) (F : Nat) (v1 v2 : Value) (m m2 k : Nat) (f f2 : Nat → Rat) (h : Nums k w (fun _ => False) v1 m f) (h2 : Nums k w (fun _ => False) v2 m2 f2) (hen : Enters F) (hF : TellsQ k F) :
 Calls Tryz.prog 75 #[v1, v2, .func (Fn.func F) #[] #[]] w fun e w' => Tells (m = m2 ∧ ∀ i, i < m → f i = f2 i) e ∧ Below w.heap.size w w' := by
 have H := Lib.hid h
 have H2 := Lib.hid h2
 have HF := Lib.hid hF
 have hen2 : ∀ (args : Array Value) (W : World), (callFunc F args).run Tryz.prog W = .ok (.enter F args) W := hen
 obtain ⟨A, cap, rfl, h, l1, l2⟩ := h.op
 obtain ⟨A2, cap2, rfl, h2, l3, l4⟩ := h2.op
 have lm : m ≤ 9223372036854775807 := by unfold maxLen at l2; omega
 clear h h2 hF
 by_cases hmm : m = m2
 case neg =>
  have d1 : ((m : Int) != (m2 : Int)) = true := by simp only [bne_iff_ne]; omega
  have HN : Hid (¬ (m = m2 ∧ ∀ i, i < m → f i = f2 i)) := fun h => hmm h.1
  clear hmm
  go_enter Tryz.func75, Tryz.ntmps75
  go_wp2_with fail
  go_ret
  exact ⟨Tells.no HN.out, bel⟩
 subst hmm
 have d1 : ((m : Int) != (m : Int)) = false := bne_self_eq_false _
 go_enter Tryz.func75, Tryz.ntmps75
 go_wp2_with fail
 go_loopw [17] (fun i wr => ∃ (c : Nat), c ≤ m ∧ i = .int .i64 c ∧ Hid (∀ i, i < c → f i = f2 i) ∧ Below w.heap.size w wr) (fun i _ => m - (intOf i).toNat)
 case atStart => exact ⟨0, by omega, rfl, Lib.hid (fun i hi => absurd hi (by omega)), bel⟩
 case round =>
  obtain ⟨c, hc, rfl, hall, hB⟩ := hrel
  obtain ⟨wo, rfl⟩ : ∃ wo : World, wo = wr := ⟨_, rfl⟩
  have y5 := hB.size; (try simp only [zs] at y5)
  by_cases hlt : c < m
  ·obtain ⟨a, b3, A3, m3, c3, b3', A3', m3', c3', rfl, ha, -, x0, x1, x2, x3, r3⟩ := Nums.at (Nums.keep H.out (.of_below hB)) hlt
   obtain ⟨a', b4, A4, m4, c4, b4', A4', m4', c4', rfl, ha', -, u0, u1, u2, u3, r4⟩ := Nums.at (Nums.keep H2.out (.of_below hB)) hlt
   replace x1 : wo.cell? ⟨(a.add (c * 4)).block, (a.add (c * 4)).off + 1, none⟩ = _ := x1
   replace x2 : wo.cell? ⟨(a.add (c * 4)).block, (a.add (c * 4)).off + 2, none⟩ = _ := x2
   replace x3 : wo.cell? ⟨(a.add (c * 4)).block, (a.add (c * 4)).off + 3, none⟩ = _ := x3
   replace u0 : (wo.alloc (.cells #[.bool b3, .slice A3 m3 c3, .bool b3', .slice A3' m3' c3'] 60)).cell? (a'.add (c * 4)) = _ := cell_keep (X := fun _ => False) u0 (by rw [addr_block]; exact ha') id (.of_below (below1 wo _))
   replace u1 : (wo.alloc (.cells #[.bool b3, .slice A3 m3 c3, .bool b3', .slice A3' m3' c3'] 60)).cell? ⟨(a'.add (c * 4)).block, (a'.add (c * 4)).off + 1, none⟩ = _ := cell_keep (X := fun _ => False) u1 (by show (a'.add (c * 4)).block < _; rw [addr_block]; exact ha') id (.of_below (below1 wo _))
   replace u2 : (wo.alloc (.cells #[.bool b3, .slice A3 m3 c3, .bool b3', .slice A3' m3' c3'] 60)).cell? ⟨(a'.add (c * 4)).block, (a'.add (c * 4)).off + 2, none⟩ = _ := cell_keep (X := fun _ => False) u2 (by show (a'.add (c * 4)).block < _; rw [addr_block]; exact ha') id (.of_below (below1 wo _))
   replace u3 : (wo.alloc (.cells #[.bool b3, .slice A3 m3 c3, .bool b3', .slice A3' m3' c3'] 60)).cell? ⟨(a'.add (c * 4)).block, (a'.add (c * 4)).off + 3, none⟩ = _ := cell_keep (X := fun _ => False) u3 (by show (a'.add (c * 4)).block < _; rw [addr_block]; exact ha') id (.of_below (below1 wo _))
   have k0 : (0 : Int) ≤ (c : Int) := by omega
   have k1 : (c : Int) < (m : Int) := by omega
   have HLT := Lib.hid hlt
   have R3 := Lib.hid r3
   have R4 := Lib.hid r4
   have M1 := made1 wo #[.bool b3, .slice A3 m3 c3, .bool b3', .slice A3' m3' c3'] 60
   have M2 := made2 wo (.cells #[.bool b3, .slice A3 m3 c3, .bool b3', .slice A3' m3' c3'] 60) #[.bool b4, .slice A4 m4 c4, .bool b4', .slice A4' m4' c4'] 60
   have HKK : Hid (Keep (fun _ => False) wo ((wo.alloc (.cells #[.bool b3, .slice A3 m3 c3, .bool b3', .slice A3' m3' c3'] 60)).alloc (.cells #[.bool b4, .slice A4 m4 c4, .bool b4', .slice A4' m4' c4'] 60))) := .of_below bel
   obtain ⟨e1, fz1, -⟩ := M1.all (w' := ((wo.alloc (.cells #[.bool b3, .slice A3 m3 c3, .bool b3', .slice A3' m3' c3'] 60)).alloc (.cells #[.bool b4, .slice A4 m4 c4, .bool b4', .slice A4' m4' c4'] 60)))
   obtain ⟨e2, fz2, -⟩ := M2.all (w' := ((wo.alloc (.cells #[.bool b3, .slice A3 m3 c3, .bool b3', .slice A3' m3' c3'] 60)).alloc (.cells #[.bool b4, .slice A4 m4 c4, .bool b4', .slice A4' m4' c4'] 60)))
   clear r3 r4
   go_wp2_with fail
   refine (HF.out _ _ _ (f c) (f2 c) (R3.out.keep HKK.out) (R4.out.keep HKK.out)).mono ?_
   rintro e w2 ⟨⟨b, rfl, hb⟩, hb2⟩
   have y2 := hb2.size; (try simp only [zs] at y2)
   have HB2 : Hid (Below w.heap.size w w2) := bel
   cases b
   ·have HGD : Hid (¬ (m = m ∧ ∀ i, i < m → f i = f2 i)) := fun h => by have := hb.out.2 (h.2 c HLT.out); cases this
    clear hb
    go_wp2_with fail
    go_ret
    exact ⟨Tells.no HGD.out, HB2.out⟩
   ·have HGD : Hid (f c = f2 c) := hb.out.1 rfl
    clear hb
    go_wp2_with fail
    go_roundw
    case rel =>
     refine ⟨c + 1, by omega, by go_num, Lib.hid (fun i hi => ?_), HB2.out⟩
     by_cases hic : i < c
     ·exact hall.out i hic
     ·obtain rfl : i = c := by omega
      exact HGD.out
    case measure => simp only [intOf]; omega
  ·obtain rfl : c = m := by omega
   go_wp2_with fail
   go_ret
   exact ⟨Tells.yes ⟨by trivial, hall.out⟩, hB⟩
set_option maxHeartbeats 2000000 in
theorem equal1_any (w : World) (v1 v2 : Value) (m m2 : Nat) (f f2 : Nat → Rat) (h : Nums 1000000 w (fun _ => False) v1 m f) (h2 : Nums 1000000 w (fun _ => False) v2 m2 f2) :
 Calls Tryz.prog 74 #[v1, v2] w fun e w' => Tells (m = m2 ∧ ∀ i, i < m → f i = f2 i) e ∧ Below w.heap.size w w' := by
 have H := Lib.hid h
 have H2 := Lib.hid h2
 obtain ⟨A, cap, rfl, h, l1, l2⟩ := h.op
 obtain ⟨A2, cap2, rfl, h2, l3, l4⟩ := h2.op
 clear h h2
 go_enter Tryz.func74, Tryz.ntmps74
 go_wp2_with fail
 refine (eqRow_any _ 76 _ _ m m2 1000000 f f2 H.out H2.out (enters Tryz.func76 (by kernel_rfl) (by kernel_rfl)) (show TellsQ 1000000 76 from fun W v1 v2 x y h1 h2 => equal11_any W (fun _ => False) v1 v2 x y h1 h2)).mono ?_
 rintro e w1 ⟨⟨b, rfl, hb⟩, hb1⟩
 go_wp2_with fail
 go_ret
 exact ⟨⟨_, rfl, hb⟩, hb1⟩
set_option maxRecDepth 100000 in
set_option maxHeartbeats 8000000 in
theorem eqMat_any (w : World) (F : Nat) (v1 v2 : Value) (m m2 k : Nat) (N N2 : Nat → Nat) (f f2 : Nat → Nat → Rat) (h : Mat k w (fun _ => False) v1 m N f) (h2 : Mat k w (fun _ => False) v2 m2 N2 f2) (hen : Enters F) (hF : TellsL k F) :
 Calls Tryz.prog 73 #[v1, v2, .func (Fn.func F) #[] #[]] w fun e w' => Tells (m = m2 ∧ ∀ i, i < m → N i = N2 i ∧ ∀ j, j < N i → f i j = f2 i j) e ∧ Below w.heap.size w w' := by
 have H := Lib.hid h
 have H2 := Lib.hid h2
 have HF := Lib.hid hF
 have hen2 : ∀ (args : Array Value) (W : World), (callFunc F args).run Tryz.prog W = .ok (.enter F args) W := hen
 obtain ⟨A, cap, rfl, h, l1, l2⟩ := h.op
 obtain ⟨A2, cap2, rfl, h2, l3, l4⟩ := h2.op
 have lm : m ≤ 9223372036854775807 := by unfold maxLen at l2; omega
 clear h h2 hF
 by_cases hmm : m = m2
 case neg =>
  have d1 : ((m : Int) != (m2 : Int)) = true := by simp only [bne_iff_ne]; omega
  have HN : Hid (¬ (m = m2 ∧ ∀ i, i < m → N i = N2 i ∧ ∀ j, j < N i → f i j = f2 i j)) := fun h => hmm h.1
  clear hmm
  go_enter Tryz.func73, Tryz.ntmps73
  go_wp2_with fail
  go_ret
  exact ⟨Tells.no HN.out, bel⟩
 subst hmm
 have d1 : ((m : Int) != (m : Int)) = false := bne_self_eq_false _
 go_enter Tryz.func73, Tryz.ntmps73
 go_wp2_with fail
 go_loopw [17] (fun i wr => ∃ (c : Nat), c ≤ m ∧ i = .int .i64 c ∧ Hid (∀ i, i < c → N i = N2 i ∧ ∀ j, j < N i → f i j = f2 i j) ∧ Below w.heap.size w wr) (fun i _ => m - (intOf i).toNat)
 case atStart => exact ⟨0, by omega, rfl, Lib.hid (fun i hi => absurd hi (by omega)), bel⟩
 case round =>
  obtain ⟨c, hc, rfl, hall, hB⟩ := hrel
  obtain ⟨wo, rfl⟩ : ∃ wo : World, wo = wr := ⟨_, rfl⟩
  have y5 := hB.size; (try simp only [zs] at y5)
  by_cases hlt : c < m
  ·obtain ⟨a, D, d, rfl, hab, -, hcell, hnum, l5, l6⟩ := Mat.at (Mat.keep H.out (.of_below hB)) hlt
   obtain ⟨a', D', d', rfl, hab', -, hcell', hnum', l7, l8⟩ := Mat.at (Mat.keep H2.out (.of_below hB)) hlt
   have k0 : (0 : Int) ≤ (c : Int) := by omega
   have k1 : (c : Int) < (m : Int) := by omega
   have HLT := Lib.hid hlt
   have HNUM := Lib.hid hnum
   have HNUM' := Lib.hid hnum'
   clear hnum hnum'
   go_wp2_with fail
   refine (HF.out _ _ _ (N c) (N2 c) (f c) (f2 c) HNUM.out HNUM'.out).mono ?_
   rintro e w2 ⟨⟨b, rfl, hb⟩, hb2⟩
   have y2 := hb2.size; (try simp only [zs] at y2)
   have HB2 : Hid (Below w.heap.size w w2) := bel
   cases b
   ·have HGD : Hid (¬ (m = m ∧ ∀ i, i < m → N i = N2 i ∧ ∀ j, j < N i → f i j = f2 i j)) := fun h => by have := hb.out.2 (h.2 c HLT.out); cases this
    clear hb
    go_wp2_with fail
    go_ret
    exact ⟨Tells.no HGD.out, HB2.out⟩
   ·have HGD : Hid (N c = N2 c ∧ ∀ j, j < N c → f c j = f2 c j) := hb.out.1 rfl
    clear hb
    go_wp2_with fail
    go_roundw
    case rel =>
     refine ⟨c + 1, by omega, by go_num, Lib.hid (fun i hi => ?_), HB2.out⟩
     by_cases hic : i < c
     ·exact hall.out i hic
     ·obtain rfl : i = c := by omega
      exact HGD.out
    case measure => simp only [intOf]; omega
  ·obtain rfl : c = m := by omega
   go_wp2_with fail
   go_ret
   exact ⟨Tells.yes ⟨by trivial, hall.out⟩, hB⟩
set_option maxHeartbeats 2000000 in
theorem lequal_any (w : World) (v1 v2 : Value) (m m2 : Nat) (N N2 : Nat → Nat) (f f2 : Nat → Nat → Rat) (h : Mat 1000000 w (fun _ => False) v1 m N f) (h2 : Mat 1000000 w (fun _ => False) v2 m2 N2 f2) :
 Calls Tryz.prog 38 #[v1, v2] w fun e w' => Tells (m = m2 ∧ ∀ i, i < m → N i = N2 i ∧ ∀ j, j < N i → f i j = f2 i j) e ∧ Below w.heap.size w w' := by
 have H := Lib.hid h
 have H2 := Lib.hid h2
 obtain ⟨A, cap, rfl, h, l1, l2⟩ := h.op
 obtain ⟨A2, cap2, rfl, h2, l3, l4⟩ := h2.op
 clear h h2
 go_enter Tryz.func38, Tryz.ntmps38
 go_wp2_with fail
 refine (eqMat_any _ 74 _ _ m m2 1000000 N N2 f f2 H.out H2.out (enters Tryz.func74 (by kernel_rfl) (by kernel_rfl)) (show TellsL 1000000 74 from fun W v1 v2 n n2 f f2 h1 h2 => equal1_any W v1 v2 n n2 f f2 h1 h2)).mono ?_
 rintro e w1 ⟨⟨b, rfl, hb⟩, hb1⟩
 go_wp2_with fail
 go_ret
 exact ⟨⟨_, rfl, hb⟩, hb1⟩

/- The law's side of layer 40: stochastic. -/

theorem z4_any (k : Nat) (w : World) (X : Nat → Prop) : RatL k w X (.agg #[.bool false, .slice none 0 0, .bool false, .slice none 0 0]) 0 :=
 ⟨false, [], false, [], ⟨none, 0, none, 0, rfl, ⟨_, rfl, Words.nil _ _⟩, ⟨_, rfl, Words.nil _ _⟩⟩, Nat.zero_le _, Nat.zero_le _, rfl⟩

set_option maxRecDepth 100000 in
set_option maxHeartbeats 16000000 in
theorem lstochastic_any (w : World) (v : Value) (m k : Nat) (N : Nat → Nat) (F : Nat → Nat → Rat) (h : Mat k w (fun _ => False) v m N F) (hm : m ≤ 200) (hN : ∀ i, i < m → N i ≤ 200) (hk1 : 1 ≤ k) (hk2 : k ≤ 2000) :
 Calls Tryz.prog 32 #[v] w fun e w' => Tells (STO m N F) e ∧ Below w.heap.size w w' := by
 have H := Lib.hid h
 have HNN := Lib.hid hN
 have HFZ := Lib.hid (h.rsz hk1)
 obtain ⟨A, cA, rfl, -, l1, l2⟩ := h.op
 by_cases hm0 : m = 0
 case pos =>
  have HV : Hid (¬ STO m N F) := fun h => by have := h.1.1; omega
  have d1 : ((m : Int) == 0) = true := beq_iff_eq.2 (by omega)
  clear h hN hm0
  go_enter Tryz.func32, Tryz.ntmps32
  go_wp2_with fail
  go_ret
  exact ⟨Tells.no HV.out, bel⟩
 have hm1 : 0 < m := by omega
 have d1 : ((m : Int) == 0) = false := beq_eq_false_iff_ne.2 (by omega)
 have i1 : (0 : Int) < (m : Int) := by omega
 obtain ⟨a0, D0, d0, rfl, hab0, -, hcell0, -, lc0, -⟩ := Mat.at h hm1
 rw [addr_zero] at hcell0
 obtain ⟨n0, hn0⟩ : ∃ n0, N 0 = n0 := ⟨_, rfl⟩
 rw [hn0] at hcell0 lc0
 have HN0 := Lib.hid hn0
 have hn200 : n0 ≤ 200 := by rw [← hn0]; exact hN 0 hm1
 clear h hN hn0 hm0
 by_cases hz : n0 = 0
 case pos =>
  have HV : Hid (¬ STO m N F) := fun h => by have := h.1.2.1; rw [HN0.out] at this; omega
  have d2 : ((n0 : Int) == 0) = true := beq_iff_eq.2 (by omega)
  clear hz
  go_enter Tryz.func32, Tryz.ntmps32
  go_wp2_with fail
  go_ret
  exact ⟨Tells.no HV.out, bel⟩
 have d2 : ((n0 : Int) == 0) = false := beq_eq_false_iff_ne.2 (by omega)
 have HSTO : Hid (STO m N F ↔ ∀ i, i < m → N i = n0 ∧ (∀ j, j < N i → ¬ F i j < 0) ∧ sm (N i) (F i) = 1) := by
  show _ ↔ _
  unfold STO MX
  rw [HN0.out]
  exact ⟨fun h i hi => ⟨(h.1.2.2 i hi).1, (h.1.2.2 i hi).2, h.2 i hi⟩, fun h => ⟨⟨hm1, by omega, fun i hi => ⟨(h i hi).1, (h i hi).2.1⟩⟩, fun i hi => (h i hi).2.2⟩⟩
 clear hz
 go_enter Tryz.func32, Tryz.ntmps32
 go_wp2_with fail
 have HC0 : Hid (∀ W, Below w.heap.size w W → W.cell? a0 = some (.slice D0 n0 d0)) := fun W hW => cell_keep (X := fun _ => False) hcell0 hab0 id (.of_below hW)
 clear hcell0
 go_loopw [20] (fun i wr => ∃ (c : Nat), c ≤ m ∧ i = .int .i64 c ∧ Hid (∀ i, i < c → N i = n0 ∧ (∀ j, j < N i → ¬ F i j < 0) ∧ sm (N i) (F i) = 1) ∧ Below w.heap.size w wr) (fun i _ => m - (intOf i).toNat)
 case atStart => exact ⟨0, by omega, rfl, Lib.hid (fun i hi => absurd hi (by omega)), bel⟩
 case round =>
  obtain ⟨c, hc, rfl, hall, hB⟩ := hrel
  obtain ⟨wo, rfl⟩ : ∃ wo : World, wo = wr := ⟨_, rfl⟩
  have yo := hB.size; (try simp only [zs] at yo)
  by_cases hlt : c < m
  ·obtain ⟨a1, D1, e1, ea, hab1, -, hcell1, hnum1, lc1, lm1⟩ := Mat.at (Mat.keep H.out (.of_below hB)) hlt
   injection ea with ea
   subst ea
   obtain ⟨n1, hn1⟩ : ∃ n1, N c = n1 := ⟨_, rfl⟩
   obtain ⟨f1, hf1⟩ : ∃ f, F c = f := ⟨_, rfl⟩
   have hn2 : n1 ≤ 200 := by rw [← hn1]; exact HNN.out c hlt
   have HF1 : Hid (∀ j, j < n1 → Rsz k (f1 j)) := by
    show ∀ j, _ → _
    rw [← hf1, ← hn1]
    exact HFZ.out c hlt
   rw [hn1] at hcell1 lc1 hnum1
   rw [hf1] at hnum1
   have HN1 := Lib.hid hn1
   have HF := Lib.hid hf1
   have HNUM := Lib.hid hnum1
   have HSZ : Hid (∀ i, i ≤ n1 → Rsz 900000 (sm i f1)) := fun i hi => (sum_rsz HF1.out i hi).mono (by
    have : (k + 1) * i ≤ 2001 * 200 := Nat.mul_le_mul (by omega) (by omega)
    omega)
   have k0 : (0 : Int) ≤ (c : Int) := by omega
   have k1 : (c : Int) < (m : Int) := by omega
   have HBO := Lib.hid hB
   have M := made1 wo #[.bool false, .slice none 0 0, .bool false, .slice none 0 0] 60
   clear hn1 hf1 hnum1 hB
   go_wp2_with fail
   clear hcell1
   go_loopw [27] (fun i wr => ∃ (j : Nat) (q : R4), j ≤ n1 ∧ i = .int .i64 j ∧ Hid (∀ i, i < j → ¬ f1 i < 0) ∧ Loc wr wo.heap.size 60 #[.bool q.b, .slice q.A q.m q.c, .bool q.b', .slice q.A' q.m' q.c'] ∧ RatL 900000 wr (fun b => b = wo.heap.size) q.v (sm j f1) ∧ Below wo.heap.size wo wr) (fun i _ => n1 - (intOf i).toNat)
   case atStart => exact ⟨0, zR4, by omega, rfl, Lib.hid (fun i hi => absurd hi (by omega)), M, z4_any _ _ _, bel⟩
   case round =>
    obtain ⟨j, q, hj, rfl, hallj, T, s1, hBj⟩ := hrel
    obtain ⟨wj, rfl⟩ : ∃ wj : World, wj = wr := ⟨_, rfl⟩
    obtain ⟨b2, A2, m2, c2, b2', A2', m2', c2'⟩ := q
    unfold R4.v at s1
    dsimp only at T s1
    clear M
    have yj := hBj.size; (try simp only [zs] at yj)
    have q1 := T.lt
    by_cases hltj : j < n1
    ·obtain ⟨a8, b8, A8, m8, c8, b8', A8', m8', c8', rfl, hab8, -, x0, x1, x2, x3, r8⟩ := Nums.at (Nums.keep HNUM.out (.of_below hBj)) hltj
     replace x1 : wj.cell? ⟨(a8.add (j * 4)).block, (a8.add (j * 4)).off + 1, none⟩ = _ := x1
     replace x2 : wj.cell? ⟨(a8.add (j * 4)).block, (a8.add (j * 4)).off + 2, none⟩ = _ := x2
     replace x3 : wj.cell? ⟨(a8.add (j * 4)).block, (a8.add (j * 4)).off + 3, none⟩ = _ := x3
     have k2 : (0 : Int) ≤ (j : Int) := by omega
     have k3 : (j : Int) < (n1 : Int) := by omega
     obtain ⟨sg, hsg⟩ : ∃ s, (f1 j).num.sign = s := ⟨_, rfl⟩
     have HSG := Lib.hid hsg
     have HNEG : Hid (sg < 0 ↔ f1 j < 0) := by show _ ↔ _; rw [← hsg]; exact sign_neg_iff _
     have HE : Hid (sm (j + 1) f1 = sm j f1 + f1 j) := sm_succ _ _
     have HS1 := Lib.hid (HSZ.out (j + 1) (by omega))
     have T5 := made1 wj #[.bool b8, .slice A8 m8 c8, .bool b8', .slice A8' m8' c8'] 60
     clear hsg
     go_wp2_with fail
     refine (rsign_rat _ (fun _ => False) _ (f1 j) (RatL.to (r8.mono (by omega)))).mono ?_
     rintro e u1 ⟨he, hb1⟩
     rw [HSG.out] at he
     subst he
     have y1 := hb1.size; (try simp only [zs] at y1)
     clear x0 x1 x2 x3
     by_cases hs : sg < 0
     ·have HV : Hid (¬ STO m N F) := fun h => ((HSTO.out.1 h c hlt).2.1 j (by rw [HN1.out]; exact hltj)) (by rw [HF.out]; exact HNEG.out.1 hs)
      have d3 : decide (sg < 0) = true := decide_eq_true hs
      have HBF : Hid (Below w.heap.size w u1) := HBO.out.trans ((bel : Below wo.heap.size wo u1).mono yo)
      clear HNEG hs
      go_wp2_with fail
      go_ret
      exact ⟨Tells.no HV.out, HBF.out⟩
     ·have HV : Hid (¬ f1 j < 0) := fun h => hs (HNEG.out.2 h)
      have d3 : decide (sg < 0) = false := decide_eq_false hs
      have T1 : Loc u1 wo.heap.size _ _ := T.to
      have T6 : Loc u1 wj.heap.size _ _ := T5.to
      obtain ⟨e7, f7, l7⟩ := T1.all (w' := u1)
      obtain ⟨e8, f8, l8⟩ := T6.all (w' := u1)
      clear HNEG hs
      go_wp2_with fail
      refine (radd_rat _ (fun _ => False) _ _ (sm j f1) (f1 j) (RatL.to (s1.mono (by omega))) (RatL.to (r8.mono (by omega)))).mono ?_
      rintro e u2 ⟨v2, rfl, i2, hb2⟩
      rw [← HE.out] at i2
      have y2 := hb2.size; (try simp only [zs] at y2)
      obtain ⟨b9, A9, m9, c9, b9', A9', m9', c9', rfl, i2, -, -⟩ := i2.op
      clear e7 f7 e8 f8
      have T2 : Loc u2 wo.heap.size _ _ := T1.to
      obtain ⟨e7, f7, l7'⟩ := T2.all (w' := u2)
      go_wp2_with fail
      go_roundw
      case rel =>
       refine ⟨j + 1, ⟨b9, A9, m9, c9, b9', A9', m9', c9'⟩, by omega, by go_num, Lib.hid (fun i hi => ?_), Loc.fill4 T2, RatV.len (RatV.out i2) HS1.out, bel⟩
       by_cases hij : i < j
       ·exact hallj.out i hij
       ·obtain rfl : i = j := by omega
        exact HV.out
      case measure => simp only [intOf]; omega
    ·obtain rfl : j = n1 := by omega
     have HSS : Hid (∀ W, Below wj.heap.size wj W → W.cell? a0 = some (.slice D0 n0 d0) ∧ (W.cell? ⟨wo.heap.size, 0, none⟩ = some (.bool b2) ∧ W.cell? ⟨wo.heap.size, 1, none⟩ = some (.slice A2 m2 c2)) ∧ W.cell? ⟨wo.heap.size, 2, none⟩ = some (.bool b2') ∧ W.cell? ⟨wo.heap.size, 3, none⟩ = some (.slice A2' m2' c2')) := fun W hW =>
      ⟨HC0.out W (HBO.out.trans ((hBj.trans (hW.mono yj)).mono yo)), ⟨Loc.cell (T.below hW) 0, Loc.cell (T.below hW) 1⟩, Loc.cell (T.below hW) 2, Loc.cell (T.below hW) 3⟩
     have HBF : Hid (∀ W, Below wj.heap.size wj W → Below w.heap.size w W) := fun W hW => HBO.out.trans ((hBj.trans (hW.mono yj)).mono yo)
     by_cases hne : j = n0
     case neg =>
      have HV : Hid (¬ STO m N F) := fun h => hne (by rw [← HN1.out]; exact (HSTO.out.1 h c hlt).1)
      have d3 : ((j : Int) == (n0 : Int)) = false := beq_eq_false_iff_ne.2 (by omega)
      have d4 : ((j : Int) != (n0 : Int)) = true := bne_iff_ne.2 (by omega)
      clear hne
      go_wp2_with fail
      refine wp_region_noPanic ?_
      refine wp_region_held_drew (S := (fun W => W.cell? a0 = some (.slice D0 n0 d0) ∧ (W.cell? ⟨wo.heap.size, 0, none⟩ = some (.bool b2) ∧ W.cell? ⟨wo.heap.size, 1, none⟩ = some (.slice A2 m2 c2)) ∧ W.cell? ⟨wo.heap.size, 2, none⟩ = some (.bool b2') ∧ W.cell? ⟨wo.heap.size, 3, none⟩ = some (.slice A2' m2' c2'))) (by kernel_rfl) ?_ (fun hHeld => ?_)
      ·exact HSS.out _ bel
      refine takeT 0 hHeld ?_
      (try simp only [Act.put, ly])
      refine takeT 1 hHeld ?_
      (try simp only [Act.put, ly])
      refine takeT 2 hHeld ?_
      (try simp only [Act.put, ly])
      refine takeT 3 hHeld ?_
      (try simp only [Act.put, ly])
      refine takeT 4 hHeld ?_
      (try simp only [Act.put, ly])
      refine takeT 5 hHeld ?_
      (try simp only [Act.put, ly])
      refine takeT 6 hHeld ?_
      (try simp only [Act.put, ly])
      refine takeT 7 hHeld ?_
      (try simp only [Act.put, ly])
      refine offT 8 hHeld ?_
      refine offT 9 hHeld ?_
      refine offT 10 hHeld ?_
      refine offT 11 hHeld ?_
      (try simp only [Act.put, ly])
      refine takeT 12 hHeld ?_
      (try simp only [Act.put, ly])
      refine wpAnyH_done (by kernel_rfl) ?_ _
      refine NoPanic.normal ?_
      go_wp2_with fail
      go_ret
      exact ⟨Tells.no HV.out, HBF.out _ bel⟩
     have HNE := Lib.hid hne
     have d3 : ((j : Int) == (n0 : Int)) = true := beq_iff_eq.2 (by omega)
     have d4 : ((j : Int) != (n0 : Int)) = false := by simp only [bne, d3]; rfl
     obtain ⟨q, hq⟩ : ∃ q, rcmp (sm j f1) ((1 : Int) : Rat) = q := ⟨_, rfl⟩
     have HQ := Lib.hid hq
     have HZ : Hid (q = 0 ↔ sm j f1 = 1) := by show _ ↔ _; rw [← hq]; exact rcmp_zero _ _
     clear hne hq
     go_upto_region 14 with fail
     go_cut [50] from 38 to 51 (fun v W => v = .bool (q != 0) ∧ Below wj.heap.size wj W)
     case first =>
      go_wp2_with fail
      refine wp_region_noPanic ?_
      refine wp_region_held_drew (S := (fun W => W.cell? a0 = some (.slice D0 n0 d0) ∧ (W.cell? ⟨wo.heap.size, 0, none⟩ = some (.bool b2) ∧ W.cell? ⟨wo.heap.size, 1, none⟩ = some (.slice A2 m2 c2)) ∧ W.cell? ⟨wo.heap.size, 2, none⟩ = some (.bool b2') ∧ W.cell? ⟨wo.heap.size, 3, none⟩ = some (.slice A2' m2' c2'))) (by kernel_rfl) ?_ (fun hHeld => ?_)
      ·exact HSS.out _ bel
      refine takeT 0 hHeld ?_
      (try simp only [Act.put, ly])
      refine takeT 1 hHeld ?_
      (try simp only [Act.put, ly])
      refine takeT 2 hHeld ?_
      (try simp only [Act.put, ly])
      refine takeT 3 hHeld ?_
      (try simp only [Act.put, ly])
      refine takeT 4 hHeld ?_
      (try simp only [Act.put, ly])
      refine takeT 5 hHeld ?_
      (try simp only [Act.put, ly])
      refine takeT 6 hHeld ?_
      (try simp only [Act.put, ly])
      refine takeT 7 hHeld ?_
      (try simp only [Act.put, ly])
      refine takeT 8 hHeld ?_
      (try simp only [Act.put, ly])
      refine wpAnyH_ready (rs := [9]) (by kernel_rfl) (by simp) ?_
      refine AllReadyH.cons rfl (fun K hK => ?_) AllReadyH.nil
      go_simp
      refine (lwhole_any _ 1 (by decide) (by decide)).mono ?_
      rintro e u1 ⟨v1, rfl, j1, hb1⟩
      obtain ⟨b11, A11, m11, c11, b11', A11', m11', c11', rfl, j1, -, -⟩ := j1.op
      have y11 := hb1.size; (try simp only [zs] at y11)
      (try go_wp2_with fail)
      refine hK.out _ _ ?_ (fun hHeld => ?_)
      ·(try dsimp only)
       exact HSS.out _ bel
      clear hK K
      (try simp only [Act.put, ly])
      refine wpAnyH_ready (rs := [10]) (by kernel_rfl) (by simp) ?_
      refine AllReadyH.cons rfl (fun K hK => ?_) AllReadyH.nil
      go_simp
      refine (rcompare_rat _ (fun _ => False) _ _ (sm j f1) ((1 : Int) : Rat) (RatL.to (s1.mono (by omega))) (RatL.to (j1.len ((rsz_int (z := 1) (by decide) (by decide)).mono (by omega))))).mono ?_
      rintro e u2 ⟨he, hb2⟩
      rw [HQ.out] at he
      subst he
      have y12 := hb2.size; (try simp only [zs] at y12)
      (try go_wp2_with fail)
      refine hK.out _ _ ?_ (fun hHeld => ?_)
      ·(try dsimp only)
       exact HSS.out _ bel
      clear hK K
      (try simp only [Act.put, ly])
      refine takeT 11 hHeld ?_
      (try simp only [Act.put, ly])
      refine takeT 12 hHeld ?_
      (try simp only [Act.put, ly])
      refine wpAnyH_done (by kernel_rfl) ?_ _
      refine NoPanic.normal ?_
      go_wp2_with fail
      go_meet
      exact ⟨rfl, bel⟩
     case rest =>
      obtain ⟨rfl, hB9⟩ := hcut
      obtain ⟨w9, rfl⟩ : ∃ w9 : World, w9 = wc := ⟨_, rfl⟩
      have HB9 := Lib.hid (HBF.out _ hB9)
      by_cases h0 : q = 0
      ·have HV := Lib.hid (HZ.out.1 h0)
       have d5 : (q == 0) = true := beq_iff_eq.2 h0
       have d6 : (q != 0) = false := by simp only [bne, d5]; rfl
       clear HZ h0
       go_wp2_with fail
       go_roundw
       case rel =>
        refine ⟨c + 1, by omega, by go_num, Lib.hid (fun i hi => ?_), HB9.out⟩
        by_cases hic : i < c
        ·exact hall.out i hic
        ·obtain rfl : i = c := by omega
         rw [HN1.out, HF.out]
         exact ⟨HNE.out, hallj.out, HV.out⟩
       case measure => simp only [intOf]; omega
      ·have HV : Hid (¬ STO m N F) := fun h => h0 (HZ.out.2 (by have := (HSTO.out.1 h c hlt).2.2; rw [HN1.out, HF.out] at this; exact this))
       have d5 : (q == 0) = false := beq_eq_false_iff_ne.2 h0
       have d6 : (q != 0) = true := bne_iff_ne.2 h0
       clear HZ h0
       go_wp2_with fail
       go_ret
       exact ⟨Tells.no HV.out, HB9.out⟩
  ·obtain rfl : c = m := by omega
   have HV : Hid (STO c N F) := HSTO.out.2 hall.out
   go_wp2_with fail
   go_ret
   exact ⟨Tells.yes HV.out, hB⟩
end Go.Proofs.YtdambnieminnfaaGreat

