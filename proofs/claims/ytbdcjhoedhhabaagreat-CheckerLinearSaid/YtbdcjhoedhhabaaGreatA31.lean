/- Contracts of the functions that the statements reach, part 31. -/
import Derived.Test.YtbdcjhoedhhabaaGreatRows
import Derived.Test.YtbdcjhoedhhabaaGreatA28
import Derived.Test.YtbdcjhoedhhabaaGreatA29
import Derived.Test.YtbdcjhoedhhabaaGreatA30
set_option linter.unusedSimpArgs false
set_option linter.unusedVariables false

/- CheckPoint, CheckFarkas, CheckResult of the program. -/
namespace Go.Proofs.YtbdcjhoedhhabaaGreat
open Go.RowKit
attribute [local go_sem ↓] Go.wp_at_zero Go.wp_at_succ

/-- A system that is read. -/
def Sys (k : Nat) (w : World) (v : Value) (m mb : Nat) (N : Nat → Nat) (F : Nat → Nat → Rat) (Bv : Nat → Rat) : Prop :=
 ∃ A c B d, v = .agg #[.slice A m c, .slice B mb d] ∧ Mat k w (fun _ => False) (.slice A m c) m N F ∧ Nums k w (fun _ => False) (.slice B mb d) mb Bv
theorem Sys.keep {k : Nat} {w w' : World} {v : Value} {m mb : Nat} {N : Nat → Nat} {F : Nat → Nat → Rat} {Bv : Nat → Rat} (h : Sys k w v m mb N F Bv) (hk : Keep (fun _ => False) w w') : Sys k w' v m mb N F Bv := by
 obtain ⟨A, c, B, d, rfl, h1, h2⟩ := h
 exact ⟨A, c, B, d, rfl, h1.keep hk, h2.keep hk⟩
/-- A point of a system. -/
def PT (m mb : Nat) (N : Nat → Nat) (F : Nat → Nat → Rat) (Bv : Nat → Rat) (nx : Nat) (f : Nat → Rat) : Prop := VS m mb N ∧ SV m (N 0) nx F f Bv
/-- A Farkas vector of a system. -/
def FK (m mb : Nat) (N : Nat → Nat) (F : Nat → Nat → Rat) (Bv : Nat → Rat) (ny : Nat) (y : Nat → Rat) : Prop := VS m mb N ∧ ny = m ∧ sm m (fun i => y i * Bv i) < 0 ∧ ∀ j, j < N 0 → ¬ sm m (fun i => y i * F i j) < 0

section
variable {m mb nx ny k : Nat} {N : Nat → Nat} {F : Nat → Nat → Rat} {f y Bv : Nat → Rat}

set_option maxHeartbeats 4000000 in
theorem checkPoint_any (w : World) (vs vx : Value) (hS : Sys k w vs m mb N F Bv) (hx : Nums k w (fun _ => False) vx nx f) (hk1 : 1 ≤ k) (hk : k ≤ 2000) :
 Calls Tryz.prog 108 #[vs, vx] w fun e w' => Tells (PT m mb N F Bv nx f) e ∧ Below w.heap.size w w' := by
 obtain ⟨A, c, B, d, rfl, hA, hB⟩ := hS
 have HA := Lib.hid hA
 have HB := Lib.hid hB
 have HX := Lib.hid hx
 obtain ⟨C, c3, rfl, hx, l3, l4⟩ := hx.op
 have L := made1 w #[.slice A m c, .slice B mb d] 73
 clear hA hB hx
 go_enter Tryz.func108, Tryz.ntmps108
 go_wp2_with fail
 refine (valid_any _ _ _ m mb k N F Bv (Mat.keep HA.out kp) (Nums.keep HB.out kp)).mono ?_
 rintro e w1 ⟨⟨b, rfl, hb⟩, hb1⟩
 have z1 := sz1 hb1
 obtain ⟨e1, f1, -⟩ := L.all (w' := w1)
 cases b
 ·have HV : Hid (¬ PT m mb N F Bv nx f) := fun h => by have := hb.out.2 h.1; cases this
  clear hb
  go_wp2_with fail
  go_ret
  exact ⟨Tells.no HV.out, bel⟩
 ·have HV : Hid (VS m mb N) := hb.out.1 rfl
  clear hb
  go_wp2_with fail
  obtain ⟨v1, v2, v3, v4, v5, v6⟩ := HV.out
  refine (solves_any _ _ _ _ _ m nx mb k N F f Bv (Mat.keep HA.out kp) ⟨_, _, _, rfl⟩ (Nums.keep HX.out kp) (Nums.keep HB.out kp) v1 v2 v5 v6 (by omega) hk1 hk).mono ?_
  rintro e w2 ⟨⟨b, rfl, hb⟩, hb2⟩
  have y2 := hb2.size; (try simp only [zs] at y2)
  clear v1 v2 v3 v4 v5 v6
  cases b
  ·have HV2 : Hid (¬ PT m mb N F Bv nx f) := fun h => by have := hb.out.2 h.2; cases this
   clear hb
   go_wp2_with fail
   go_ret
   exact ⟨Tells.no HV2.out, bel⟩
  ·have HV2 : Hid (PT m mb N F Bv nx f) := ⟨HV.out, hb.out.1 rfl⟩
   clear hb
   go_wp2_with fail
   go_ret
   exact ⟨Tells.yes HV2.out, bel⟩

set_option maxHeartbeats 8000000 in
theorem checkFarkas_any (w : World) (vs vy : Value) (hS : Sys k w vs m mb N F Bv) (hy : Nums k w (fun _ => False) vy ny y) (hk1 : 1 ≤ k) (hk : k ≤ 2000) :
 Calls Tryz.prog 109 #[vs, vy] w fun e w' => Tells (FK m mb N F Bv ny y) e ∧ Below w.heap.size w w' := by
 obtain ⟨A, c, B, d, rfl, hA, hB⟩ := hS
 have HA := Lib.hid hA
 have HB := Lib.hid hB
 have HY := Lib.hid hy
 obtain ⟨C, c3, rfl, hy, l3, l4⟩ := hy.op
 have L := made1 w #[.slice A m c, .slice B mb d] 73
 go_enter Tryz.func109, Tryz.ntmps109
 go_wp2_with fail
 refine (valid_any _ _ _ m mb k N F Bv (Mat.keep HA.out kp) (Nums.keep HB.out kp)).mono ?_
 rintro e w1 ⟨⟨b, rfl, hb⟩, hb1⟩
 have z1 := sz1 hb1
 obtain ⟨e1, f1, -⟩ := L.all (w' := w1)
 cases b
 ·have HV : Hid (¬ FK m mb N F Bv ny y) := fun h => by have := hb.out.2 h.1; cases this
  clear hb hA hB hy
  go_wp2_with fail
  go_ret
  exact ⟨Tells.no HV.out, bel⟩
 have HV : Hid (VS m mb N) := hb.out.1 rfl
 clear hb
 obtain ⟨v1, v2, rfl, v4, v5, v6⟩ := HV.out
 by_cases hny : ny ≠ mb
 ·have HV2 : Hid (¬ FK mb mb N F Bv ny y) := fun h => hny h.2.1
  have h4 : ((ny : Int) == (mb : Int)) = false := beq_eq_false_iff_ne.2 (by omega)
  have h5 : ((ny : Int) != (mb : Int)) = true := bne_iff_ne.2 (by omega)
  clear hA hB hy v6
  go_wp2_with fail
  go_ret
  exact ⟨Tells.no HV2.out, bel⟩
 obtain rfl : ny = mb := Classical.not_not.1 hny
 obtain ⟨a, D, dd, rfl, hab, -, hcell, hnum, l7, l8⟩ := Mat.at hA (show 0 < ny by omega)
 have e0 : a.add 0 = a := by simp [Addr.add]
 rw [e0] at hcell
 have HCELL : Hid (∀ W, Below w.heap.size w W → W.cell? a = some (.slice D (N 0) dd)) := fun W hW => cell_keep (X := fun _ => False) hcell hab id (.of_below hW)
 have q0 : (0 : Int) < (ny : Int) := by omega
 have HN := Lib.hid v6
 obtain ⟨n, hnn⟩ : ∃ n, N 0 = n := ⟨_, rfl⟩
 rw [hnn] at HCELL hnum l7 v4 v5
 have HN0 := Lib.hid hnn
 have HD : Hid (∀ q : Nat → Rat, (∀ i, i < ny → Rsz k (q i)) → Rsz 900000 (sm ny (fun i => y i * q i))) := fun q hq => dot_rsz (HY.out.rsz hk1) hq (by omega) hk
 have HR : Hid (∀ i, i < ny → Rsz k (Bv i)) := HB.out.rsz hk1
 clear hA hB hy v6 hny hcell hnn
 obtain ⟨dv, hdv⟩ : ∃ q, sm ny (fun i => y i * Bv i) = q := ⟨_, rfl⟩
 have HDV := Lib.hid hdv
 have HDS : Hid (Rsz 900000 dv) := by show Rsz _ _; rw [← hdv]; exact HD.out Bv HR.out
 clear hdv
 go_wp2_with fail
 refine (dot_any _ _ _ ny ny k y Bv (Nums.keep HY.out kp) (Nums.keep HB.out kp) (Nat.le_refl _) (by omega) hk1 (by omega)).mono ?_
 rintro e w2 ⟨u2, rfl, i2, hb2⟩
 rw [HDV.out] at i2
 have y2 := hb2.size; (try simp only [zs] at y2)
 obtain ⟨b2, A2, m2, c2, b2', A2', m2', c2', rfl, i2, -, -⟩ := i2.op
 go_wp2_with fail
 refine (negative_any _ 900000 _ dv (RatL.to (i2.len HDS.out))).mono ?_
 rintro e w3 ⟨he, hb3⟩
 have y3 := hb3.size; (try simp only [zs] at y3)
 by_cases hneg : dv < 0
 ·rw [decide_eq_true hneg] at he
  subst he
  have HNEG := Lib.hid hneg
  clear hneg e1 f1
  obtain ⟨e1, f1, -⟩ := L.all (w' := w3)
  have hc3 := HCELL.out w3 bel
  go_wp2_with fail
  go_loopw [30] (fun i wr => ∃ (c : Nat), c ≤ n ∧ i = .int .i64 c ∧ Hid (∀ j, j < c → ¬ sm ny (fun i => y i * F i j) < 0) ∧ Below w.heap.size w wr ∧ Loc wr w.heap.size 73 _) (fun i _ => n - (intOf i).toNat)
  case atStart => exact ⟨0, by omega, rfl, Lib.hid (fun i hi => absurd hi (by omega)), bel, L.to⟩
  case round =>
   obtain ⟨c6, hc, rfl, hall, hB, NL⟩ := hrel
   obtain ⟨wo, rfl⟩ : ∃ wo : World, wo = wr := ⟨_, rfl⟩
   have y5 := hB.size; (try simp only [zs] at y5)
   by_cases hlt : c6 < n
   ·clear e1 f1 hc3
    obtain ⟨e1, f1, l1⟩ := NL.all (w' := wo)
    obtain ⟨dw, hdw⟩ : ∃ q, sm ny (fun i => y i * F i c6) = q := ⟨_, rfl⟩
    have HDW := Lib.hid hdw
    clear hdw
    go_wp2_with fail
    refine (column_any _ _ _ ny c6 k N F (Mat.keep HA.out kp) ⟨_, _, _, rfl⟩ (fun i hi => by rw [HN.out i hi, HN0.out]; exact hlt) (by omega)).mono ?_
    rintro e w4 ⟨u4, rfl, i4, hb4⟩
    have y4 := hb4.size; (try simp only [zs] at y4)
    have HDS4 : Hid (Rsz 900000 dw) := by show Rsz _ _; rw [← HDW.out]; exact HD.out _ (i4.rsz hk1)
    obtain ⟨C4, c4, rfl, i4, l9, l10⟩ := i4.op
    go_wp2_with fail
    refine (dot_any _ _ _ ny ny k y (fun i => F i c6) (Nums.keep HY.out kp) i4 (Nat.le_refl _) (by omega) hk1 (by omega)).mono ?_
    rintro e w5 ⟨u5, rfl, i5, hb5⟩
    rw [HDW.out] at i5
    have y6 := hb5.size; (try simp only [zs] at y6)
    obtain ⟨b5, A5, m5, c5, b5', A5', m5', c5', rfl, i5, -, -⟩ := i5.op
    go_wp2_with fail
    refine (negative_any _ 900000 _ dw (RatL.to (i5.len HDS4.out))).mono ?_
    rintro e w6 ⟨he, hb6⟩
    have y7 := hb6.size; (try simp only [zs] at y7)
    by_cases hneg2 : dw < 0
    ·rw [decide_eq_true hneg2] at he
     subst he
     have HV2 : Hid (¬ FK ny ny N F Bv ny y) := fun h => h.2.2.2 c6 (by rw [HN0.out]; exact hlt) (by rw [HDW.out]; exact hneg2)
     clear hneg2
     go_wp2_with fail
     go_ret
     exact ⟨Tells.no HV2.out, bel⟩
    ·rw [decide_eq_false hneg2] at he
     subst he
     have HNN := Lib.hid hneg2
     clear hneg2
     go_wp2_with fail
     go_roundw
     case rel =>
      refine ⟨c6 + 1, by omega, by go_num, Lib.hid (fun i hi => ?_), bel, NL.to⟩
      by_cases hic : i < c6
      ·exact hall.out i hic
      ·obtain rfl : i = c6 := by omega
       rw [HDW.out]; exact HNN.out
     case measure => simp only [intOf]; omega
   ·obtain rfl : c6 = n := by omega
    go_wp2_with fail
    go_ret
    exact ⟨Tells.yes ⟨HV.out, rfl, by rw [HDV.out]; exact HNEG.out, by rw [HN0.out]; exact hall.out⟩, hB⟩
 ·rw [decide_eq_false hneg] at he
  subst he
  have HV2 : Hid (¬ FK ny ny N F Bv ny y) := fun h => hneg (by rw [← HDV.out]; exact h.2.2.1)
  clear hneg
  go_wp2_with fail
  go_ret
  exact ⟨Tells.no HV2.out, bel⟩

end

/- CheckResult and CheckOptimum of the program. -/

/-- A result that proves itself. -/
def RS (feas : Bool) (m mb : Nat) (N : Nat → Nat) (F : Nat → Nat → Rat) (Bv : Nat → Rat) (nx : Nat) (f : Nat → Rat) (ny : Nat) (y : Nat → Rat) : Prop :=
 (feas = true ∧ ny = 0 ∧ PT m mb N F Bv nx f) ∨ (feas = false ∧ nx = 0 ∧ FK m mb N F Bv ny y)
/-- An optimum that proves itself: the three kinds. -/
def OP0 (m mb : Nat) (N : Nat → Nat) (F : Nat → Nat → Rat) (Bv : Nat → Rat) (nx ny : Nat) (y : Nat → Rat) (nr : Nat) (val : Rat) : Prop := FK m mb N F Bv ny y ∧ nx = 0 ∧ nr = 0 ∧ val = 0
def OP1 (m mb : Nat) (N : Nat → Nat) (F : Nat → Nat → Rat) (Bv kc : Nat → Rat) (nx : Nat) (f : Nat → Rat) (ny nr : Nat) (r : Nat → Rat) (val : Rat) : Prop :=
 PT m mb N F Bv nx f ∧ SV m (N 0) nr F r (fun _ => 0) ∧ sm (N 0) (fun j => kc j * r j) < 0 ∧ ny = 0 ∧ val = 0
def OP2 (m mb : Nat) (N : Nat → Nat) (F : Nat → Nat → Rat) (Bv kc : Nat → Rat) (nx : Nat) (f : Nat → Rat) (ny : Nat) (y : Nat → Rat) (nr : Nat) (val : Rat) : Prop :=
 PT m mb N F Bv nx f ∧ (ny = m ∧ ∀ j, j < N 0 → ¬ kc j < sm m (fun i => y i * F i j)) ∧ nr = 0 ∧ sm (N 0) (fun j => kc j * f j) = val ∧ sm m (fun i => y i * Bv i) = val
def OP (kind : Int) (m mb : Nat) (N : Nat → Nat) (F : Nat → Nat → Rat) (Bv : Nat → Rat) (nc : Nat) (kc : Nat → Rat) (nx : Nat) (f : Nat → Rat) (ny : Nat) (y : Nat → Rat) (nr : Nat) (r : Nat → Rat) (val : Rat) : Prop :=
 VS m mb N ∧ nc = N 0 ∧ ((kind = 0 ∧ OP0 m mb N F Bv nx ny y nr val) ∨ (kind = 1 ∧ OP1 m mb N F Bv kc nx f ny nr r val) ∨ (kind = 2 ∧ OP2 m mb N F Bv kc nx f ny y nr val))

section
variable {m mb nx ny nr nc k : Nat} {N : Nat → Nat} {F : Nat → Nat → Rat} {f y r Bv kc : Nat → Rat} {val : Rat}

set_option maxHeartbeats 4000000 in
theorem checkResult_any (w : World) (vs vx vy : Value) (feas : Bool) (hS : Sys k w vs m mb N F Bv) (hx : Nums k w (fun _ => False) vx nx f) (hy : Nums k w (fun _ => False) vy ny y) (hk1 : 1 ≤ k) (hk : k ≤ 2000) :
 Calls Tryz.prog 37 #[vs, .agg #[.bool feas, vx, vy]] w fun e w' => Tells (RS feas m mb N F Bv nx f ny y) e ∧ Below w.heap.size w w' := by
 have HS := Lib.hid hS
 obtain ⟨A, c, B, d, rfl, hA, hB⟩ := hS
 have HX := Lib.hid hx
 have HY := Lib.hid hy
 obtain ⟨C, c3, rfl, hx, l3, l4⟩ := hx.op
 obtain ⟨E, c4, rfl, hy, l5, l6⟩ := hy.op
 have L := made1 w #[.slice A m c, .slice B mb d] 73
 clear hA hB hx hy
 cases feas
 ·by_cases h0 : nx ≠ 0
  ·have HV : Hid (¬ RS false m mb N F Bv nx f ny y) := fun h => by
    rcases h with ⟨h, _⟩ | ⟨_, h, _⟩
    ·cases h
    ·exact h0 h
   have h4 : ((nx : Int) == 0) = false := beq_eq_false_iff_ne.2 (by omega)
   go_enter Tryz.func37, Tryz.ntmps37
   go_wp2_with fail
   go_ret
   exact ⟨Tells.no HV.out, bel⟩
  ·obtain rfl : nx = 0 := Classical.not_not.1 h0
   go_enter Tryz.func37, Tryz.ntmps37
   go_wp2_with fail
   refine (checkFarkas_any (y := y) (ny := ny) _ _ _ (Sys.keep HS.out kp) (Nums.keep HY.out kp) hk1 hk).mono ?_
   rintro e w1 ⟨⟨b, rfl, hb⟩, hb1⟩
   obtain ⟨z1, z2⟩ := sz2 hb1
   cases b
   ·have HV : Hid (¬ RS false m mb N F Bv 0 f ny y) := fun h => by
     rcases h with ⟨h, _⟩ | ⟨_, _, h⟩
     ·cases h
     ·have := hb.out.2 h; cases this
    clear hb
    go_wp2_with fail
    go_ret
    exact ⟨Tells.no HV.out, bel⟩
   ·have HV : Hid (RS false m mb N F Bv 0 f ny y) := .inr ⟨rfl, rfl, hb.out.1 rfl⟩
    clear hb
    go_wp2_with fail
    go_ret
    exact ⟨Tells.yes HV.out, bel⟩
 ·by_cases h0 : ny ≠ 0
  ·have HV : Hid (¬ RS true m mb N F Bv nx f ny y) := fun h => by
    rcases h with ⟨_, h, _⟩ | ⟨h, _⟩
    ·exact h0 h
    ·cases h
   have h4 : ((ny : Int) == 0) = false := beq_eq_false_iff_ne.2 (by omega)
   go_enter Tryz.func37, Tryz.ntmps37
   go_wp2_with fail
   go_ret
   exact ⟨Tells.no HV.out, bel⟩
  ·obtain rfl : ny = 0 := Classical.not_not.1 h0
   go_enter Tryz.func37, Tryz.ntmps37
   go_wp2_with fail
   refine (checkPoint_any (f := f) (nx := nx) _ _ _ (Sys.keep HS.out kp) (Nums.keep HX.out kp) hk1 hk).mono ?_
   rintro e w1 ⟨⟨b, rfl, hb⟩, hb1⟩
   obtain ⟨z1, z2⟩ := sz2 hb1
   cases b
   ·have HV : Hid (¬ RS true m mb N F Bv nx f 0 y) := fun h => by
     rcases h with ⟨_, _, h⟩ | ⟨h, _⟩
     ·have := hb.out.2 h; cases this
     ·cases h
    clear hb
    go_wp2_with fail
    go_ret
    exact ⟨Tells.no HV.out, bel⟩
   ·have HV : Hid (RS true m mb N F Bv nx f 0 y) := .inl ⟨rfl, rfl, hb.out.1 rfl⟩
    clear hb
    go_wp2_with fail
    go_ret
    exact ⟨Tells.yes HV.out, bel⟩

end

/- The checker's systems are those of layer 8. -/

set_option maxHeartbeats 4000000 in
theorem csystem_any (w : World) (va vb : Value) (m mb k : Nat) (N : Nat → Nat) (F : Nat → Nat → Rat) (Bv : Nat → Rat) (h : Mat k w (fun _ => False) va m N F) (hb : Nums k w (fun _ => False) vb mb Bv) :
 Calls Tryz.prog 110 #[.agg #[va, vb]] w fun e w' => Tells (VS m mb N) e ∧ Below w.heap.size w w' := by
 have H := Lib.hid h
 obtain ⟨A, c1, rfl, h, l1, l2⟩ := h.op
 obtain ⟨B, c2, rfl, hb, l3, l4⟩ := hb.op
 by_cases h1 : m < 1
 ·have hv : Hid (¬ VS m mb N) := fun h => by have := h.1; omega
  clear h
  go_enter Tryz.func110, Tryz.ntmps110
  go_wp2_with fail
  go_ret
  exact ⟨Tells.no hv.out, bel⟩
 by_cases h2 : 80 < m
 ·have hv : Hid (¬ VS m mb N) := fun h => by have := h.2.1; omega
  clear h
  go_enter Tryz.func110, Tryz.ntmps110
  go_wp2_with fail
  go_ret
  exact ⟨Tells.no hv.out, bel⟩
 by_cases h3 : mb ≠ m
 ·have hv : Hid (¬ VS m mb N) := fun h => by have := h.2.2.1; omega
  have h4 : ((mb : Int) == (m : Int)) = false := beq_eq_false_iff_ne.2 (by omega)
  have h5 : ((mb : Int) != (m : Int)) = true := bne_iff_ne.2 (by omega)
  clear h
  go_enter Tryz.func110, Tryz.ntmps110
  go_wp2_with fail
  go_ret
  exact ⟨Tells.no hv.out, bel⟩
 obtain rfl : mb = m := Classical.not_not.1 h3
 clear h3
 obtain ⟨a, D, d, rfl, hab, -, hcell, hnum, l5, l6⟩ := Mat.at h (show 0 < mb by omega)
 have e0 : a.add 0 = a := by simp [Addr.add]
 rw [e0] at hcell
 have hc2 : (w.alloc (.cells #[.slice (some a) mb c1, .slice B mb c2] 73)).cell? a = _ := cell_keep (X := fun _ => False) hcell hab id kp
 have q0 : (0 : Int) < (mb : Int) := by omega
 obtain ⟨n, hn⟩ : ∃ n, N 0 = n := ⟨_, rfl⟩
 have HN := Lib.hid hn
 rw [hn] at hcell hnum hc2 l5
 clear hn hnum h hb
 have hVS : Hid (VS mb mb N ↔ (1 ≤ n ∧ n ≤ 80 ∧ ∀ i, i < mb → N i = n)) := by
  show _ ↔ _
  unfold VS
  rw [HN.out]
  constructor
  ·rintro ⟨_, _, _, h⟩; exact h
  ·intro h; exact ⟨by omega, by omega, rfl, h⟩
 by_cases h6 : n < 1
 ·have hv : Hid (¬ VS mb mb N) := fun h => by have := (hVS.out.1 h).1; omega
  go_enter Tryz.func110, Tryz.ntmps110
  go_wp2_with fail
  go_ret
  exact ⟨Tells.no hv.out, bel⟩
 by_cases h7 : 80 < n
 ·have hv : Hid (¬ VS mb mb N) := fun h => by have := (hVS.out.1 h).2.1; omega
  go_enter Tryz.func110, Tryz.ntmps110
  go_wp2_with fail
  go_ret
  exact ⟨Tells.no hv.out, bel⟩
 have HA : Hid (∀ W, Below w.heap.size w W → W.cell? a = some (.slice D n d)) := fun W hW => cell_keep (X := fun _ => False) hcell hab id (.of_below hW)
 have L := made1 w #[.slice (some a) mb c1, .slice B mb c2] 73
 have HM := Lib.hid (H.out)
 go_enter Tryz.func110, Tryz.ntmps110
 go_wp2_with fail
 go_loopw [43] (fun i wr => ∃ (c : Nat), c ≤ mb ∧ i = .int .i64 c ∧ Hid (∀ i, i < c → N i = n) ∧ Loc wr w.heap.size 73 #[.slice (some a) mb c1, .slice B mb c2] ∧ Below w.heap.size w wr) (fun i _ => mb - (intOf i).toNat)
 case atStart => exact ⟨0, by omega, rfl, Lib.hid (fun i hi => absurd hi (by omega)), L, bel⟩
 case round =>
  obtain ⟨c, hc, rfl, hall, NL, hB⟩ := hrel
  obtain ⟨wo, rfl⟩ : ∃ wo : World, wo = wr := ⟨_, rfl⟩
  have y5 := hB.size; (try simp only [zs] at y5)
  clear L hc2 hcell
  by_cases hlt : c < mb
  ·obtain ⟨a5, D5, d5, ea5, hab5, -, hcell5, hnum5, l9, l10⟩ := Mat.at (Mat.keep HM.out (.of_below hB)) hlt
   injection ea5 with ea5
   subst ea5
   have ha0 := HA.out wo hB
   obtain ⟨e1, f1, -⟩ := NL.all (w' := wo)
   obtain ⟨nc, hnc⟩ : ∃ nc, N c = nc := ⟨_, rfl⟩
   have HNC := Lib.hid hnc
   rw [hnc] at hcell5 l9
   clear hnum5 hnc
   by_cases hq : nc = n
   ·subst hq
    go_wp2_with fail
    go_roundw
    case rel =>
     refine ⟨c + 1, by omega, by go_num, Lib.hid (fun i hi => ?_), NL, hB⟩
     by_cases hic : i < c
     ·exact hall.out i hic
     ·obtain rfl : i = c := by omega
      exact HNC.out
    case measure => simp only [intOf]; omega
   ·have h4 : ((nc : Int) == (n : Int)) = false := beq_eq_false_iff_ne.2 (by omega)
    have h5 : ((nc : Int) != (n : Int)) = true := bne_iff_ne.2 (by omega)
    have HV : Hid (¬ VS mb mb N) := fun h => hq (by rw [← HNC.out]; exact (hVS.out.1 h).2.2 c hlt)
    go_wp2_with fail
    go_ret
    exact ⟨Tells.no HV.out, bel⟩
  ·obtain rfl : c = mb := by omega
   have HV : Hid (VS c c N) := hVS.out.2 ⟨by omega, by omega, hall.out⟩
   go_wp2_with fail
   go_ret
   exact ⟨Tells.yes HV.out, hB⟩
end Go.Proofs.YtbdcjhoedhhabaaGreat

/- The least index rule ends: no basis comes again. -/
namespace Go.Proofs.YtbdcjhoedhhabaaGreat

/-- A tableau and its basis. -/
structure St where
 T : Nat → Nat → Rat
 b : Nat → Nat
/-- No basic value is below zero. -/
def Feas (m n : Nat) (S : St) : Prop := ∀ i, i < m → 0 ≤ S.T i (n + m)
/-- The row that leaves at the unknown j. -/
def Out (m n : Nat) (S : St) (j r : Nat) : Prop :=
 r < m ∧ 0 < S.T r j ∧ ∀ i, i < m → 0 < S.T i j → S.T r (n + m) / S.T r j ≤ S.T i (n + m) / S.T i j ∧ (S.T r (n + m) / S.T r j = S.T i (n + m) / S.T i j → S.b r ≤ S.b i)
/-- One pivot. -/
def St.at (S : St) (r j : Nat) : St := ⟨piv S.T r j, bup S.b r j⟩
section
variable {m n : Nat} {T0 : Nat → Nat → Rat} {d : Nat → Rat} {S S' : St}

theorem div_le_mul {a p x q : Rat} (hq : 0 < q) (h : a / p ≤ x / q) : q * (a / p) ≤ x := by
 have h1 : 0 ≤ q * (x / q - a / p) := Rat.mul_nonneg (Rat.le_of_lt hq) (by grind)
 have h2 : q * (x / q) = x := by grind
 grind
theorem div_nonneg {a p : Rat} (ha : 0 ≤ a) (hp : 0 < p) : 0 ≤ a / p := by
 rw [Rat.div_def]; exact Rat.mul_nonneg ha (Rat.le_of_lt (Rat.inv_pos.mpr hp))
theorem mul_neg_nonneg {a b : Rat} (ha : a ≤ 0) (hb : 0 ≤ b) : a * b ≤ 0 := by
 have := Rat.mul_nonneg (a := -a) (b := b) (by grind) hb
 grind
theorem Feas.at (hF : Feas m n S) {j r : Nat} (h : Out m n S j r) : Feas m n (S.at r j) := fun i hi => by
 obtain ⟨hr, hp, ho⟩ := h
 show 0 ≤ piv S.T r j i (n + m)
 have hq := div_nonneg (hF r hr) hp
 unfold piv
 by_cases hir : i = r
 ·rw [if_pos hir]; exact hq
 ·rw [if_neg hir]
  by_cases hij : 0 < S.T i j
  ·have := div_le_mul hij (ho i hi hij).1
   grind
  ·have := mul_neg_nonneg (a := S.T i j) (by grind) hq
   have := hF i hi
   grind

theorem Good.at (G : Good m n T0 S.T S.b) {j r : Nat} (hj : j < n) (h : Out m n S j r) : Good m n T0 (S.at r j).T (S.at r j).b :=
 G.pvt h.1 (by omega) (by have := h.2.1; grind)

theorem most (f : Nat → Nat) : ∀ k, 0 < k → ∃ t, t < k ∧ ∀ u, u < k → f u ≤ f t
 | 0, h => by omega
 | 1, _ => ⟨0, by omega, fun u hu => by rw [show u = 0 by omega]; exact Nat.le_refl _⟩
 | k + 2, _ => by
   obtain ⟨t, ht, h⟩ := most f (k + 1) (by omega)
   by_cases hk : f (k + 1) ≤ f t
   ·exact ⟨t, by omega, fun u hu => if e : u = k + 1 then by rw [e]; exact hk else h u (by omega)⟩
   ·exact ⟨k + 1, by omega, fun u hu => if e : u = k + 1 then by rw [e]; exact Nat.le_refl _ else by have := h u (by omega); omega⟩

/-- A basis as a number. -/
def enc (B : Nat) (b : Nat → Nat) : Nat → Nat
 | 0 => 0
 | m + 1 => enc B b m * B + b m
end
end Go.Proofs.YtbdcjhoedhhabaaGreat

/- The tableau in memory. -/
namespace Go.Proofs.YtbdcjhoedhhabaaGreat
open Go.RowKit

/-- The blocks of a tableau: itself, signs, rows, cost, basis, and each row's. -/
structure Lay where
 p : Nat
 gs : Nat
 gr : Nat
 gc : Nat
 gb : Nat
 G : Nat → Nat
def Lay.X (l : Lay) (m : Nat) : Nat → Prop := fun b => b = l.p ∨ b = l.gs ∨ b = l.gr ∨ b = l.gc ∨ b = l.gb ∨ ∃ i, i < m ∧ b = l.G i
/-- No two are one. -/
structure Lay.Dis (l : Lay) (m : Nat) : Prop where
 d1 : l.p ≠ l.gs ∧ l.p ≠ l.gr ∧ l.p ≠ l.gc ∧ l.p ≠ l.gb
 d2 : l.gs ≠ l.gr ∧ l.gs ≠ l.gc ∧ l.gs ≠ l.gb
 d3 : l.gr ≠ l.gc ∧ l.gr ≠ l.gb ∧ l.gc ≠ l.gb
 d4 : ∀ i, i < m → l.G i ≠ l.p ∧ l.G i ≠ l.gs ∧ l.G i ≠ l.gr ∧ l.G i ≠ l.gc ∧ l.G i ≠ l.gb
 d5 : ∀ i, i < m → ∀ k, k < m → i ≠ k → l.G i ≠ l.G k
/-- The parts of a tableau that a pivot does not write: itself, signs, rows' heads. -/
structure Fix (w : World) (l : Lay) (m n : Nat) (sg : Nat → Int) : Prop where
 box : ∃ cs cr cb, Loc w l.p 444 #[.int .i64 n, .slice (some ⟨l.gs, 0, none⟩) m cs, .slice (some ⟨l.gr, 0, none⟩) m cr, .slice (some ⟨l.gc, 0, none⟩) (n + m + 1) (n + m + 1), .slice (some ⟨l.gb, 0, none⟩) m cb] ∧ m ≤ cs ∧ m ≤ cr ∧ m ≤ cb
 sgn : ∃ ss : Array Value, Loc w l.gs 3 ss ∧ ∀ i, i < m → ss[i]? = some (.int .i64 (sg i))
 row : ∃ rr : Array Value, Loc w l.gr 71 rr ∧ ∀ i, i < m → rr[i]? = some (.slice (some ⟨l.G i, 0, none⟩) (n + m + 1) (n + m + 1))
/-- A row of the tableau, the cost or another. -/
def Rw (w : World) (X : Nat → Prop) (g N : Nat) (f : Nat → Rat) : Prop := ∃ rs, Line w g rs ∧ rs.length = N ∧ ValV w X rs f
/-- The cost: fractions that need not be canonical. -/
def Rc (w : World) (X : Nat → Prop) (g N : Nat) (f : Nat → Rat) : Prop := ∃ rs, Line w g rs ∧ rs.length = N ∧ ValL 100000 w X rs f
/-- The basis. -/
def Bas (w : World) (g m : Nat) (b : Nat → Nat) : Prop := ∃ bb : Array Value, Loc w g 3 bb ∧ ∀ i, i < m → bb[i]? = some (.int .i64 (b i))
/-- The tableau. -/
structure Tab (w : World) (l : Lay) (m n : Nat) (S : St) (k : Nat → Rat) (sg : Nat → Int) : Prop where
 fix : Fix w l m n sg
 rows : ∀ i, i < m → Rw w (l.X m) (l.G i) (n + m + 1) (S.T i)
 cost : Rc w (l.X m) l.gc (n + m + 1) k
 bas : Bas w l.gb m S.b
 dis : l.Dis m

section
variable {w w' : World} {l : Lay} {m n : Nat} {sg : Nat → Int} {X Y : Nat → Prop} {g N : Nat} {f f' : Nat → Rat} {b : Nat → Nat}
theorem Fix.keep (h : Fix w l m n sg) (hk : Keep X w w') (h1 : ¬ X l.p) (h2 : ¬ X l.gs) (h3 : ¬ X l.gr) : Fix w' l m n sg := by
 obtain ⟨⟨cs, cr, cb, a, hc⟩, ⟨ss, b, hs⟩, ⟨rr, c, hr⟩⟩ := h
 exact ⟨⟨cs, cr, cb, a.keep hk h1, hc⟩, ⟨ss, b.keep hk h2, hs⟩, ⟨rr, c.keep hk h3, hr⟩⟩
theorem Rw.keep (h : Rw w X g N f) (hk : Keep X w w') (hY : Keep Y w w') (h1 : ¬ Y g) : Rw w' X g N f := by
 obtain ⟨rs, a, b, c⟩ := h
 exact ⟨rs, Loc.keep a hY h1, b, c.keep hk⟩
theorem Rw.congr (h : Rw w X g N f) (hf : ∀ i, i < N → f' i = f i) : Rw w X g N f' := by
 obtain ⟨rs, a, b, c⟩ := h
 exact ⟨rs, a, b, c.congr (by rw [b]; exact hf)⟩
theorem Rw.lt (h : Rw w X g N f) : g < w.heap.size := let ⟨_, a, _⟩ := h; a.lt
theorem Rc.keep (h : Rc w X g N f) (hk : Keep X w w') (hY : Keep Y w w') (h1 : ¬ Y g) : Rc w' X g N f := by
 obtain ⟨rs, a, b, c⟩ := h
 exact ⟨rs, Loc.keep a hY h1, b, c.keep hk⟩
theorem Rc.congr (h : Rc w X g N f) (hf : ∀ i, i < N → f' i = f i) : Rc w X g N f' := by
 obtain ⟨rs, a, b, c⟩ := h
 exact ⟨rs, a, b, fun i r hr => by rw [hf i (by rw [← b]; exact (List.getElem?_eq_some_iff.1 hr).1)]; exact c i r hr⟩
theorem Rc.lt (h : Rc w X g N f) : g < w.heap.size := let ⟨_, a, _⟩ := h; a.lt
theorem Rc.at (h : Rc w X g N f) {c : Nat} (hc : c < N) : ∃ (b : Bool) (A : Option Addr) (p d : Nat) (b' : Bool) (A' : Option Addr) (p' d' : Nat), w.cell? ⟨g, c * 4, none⟩ = some (.bool b) ∧ w.cell? ⟨g, c * 4 + 1, none⟩ = some (.slice A p d) ∧ w.cell? ⟨g, c * 4 + 2, none⟩ = some (.bool b') ∧ w.cell? ⟨g, c * 4 + 3, none⟩ = some (.slice A' p' d') ∧
 RatL 100000 w X (.agg #[.bool b, .slice A p d, .bool b', .slice A' p' d']) (f c) ∧ ∀ i, w.frozen? ⟨g, i, none⟩ = false := by
 obtain ⟨rs, a, hn, hv⟩ := h
 have hr := List.getElem?_eq_getElem (l := rs) (i := c) (by omega)
 obtain ⟨c0, c1, c2, c3⟩ := a.cells hr
 exact ⟨_, _, _, _, _, _, _, _, c0, c1, c2, c3, hv c _ hr, a.frz⟩
theorem Bas.keep (h : Bas w g m b) (hk : Keep X w w') (h1 : ¬ X g) : Bas w' g m b := by
 obtain ⟨bb, a, c⟩ := h
 exact ⟨bb, a.keep hk h1, c⟩
/-- The cells of a row at one column. -/
theorem Rw.at (h : Rw w X g N f) {c : Nat} (hc : c < N) : ∃ (b : Bool) (A : Option Addr) (p d : Nat) (b' : Bool) (A' : Option Addr) (p' d' : Nat), w.cell? ⟨g, c * 4, none⟩ = some (.bool b) ∧ w.cell? ⟨g, c * 4 + 1, none⟩ = some (.slice A p d) ∧ w.cell? ⟨g, c * 4 + 2, none⟩ = some (.bool b') ∧ w.cell? ⟨g, c * 4 + 3, none⟩ = some (.slice A' p' d') ∧
 RatV w X (.agg #[.bool b, .slice A p d, .bool b', .slice A' p' d']) (f c) ∧ ∀ i, w.frozen? ⟨g, i, none⟩ = false := by
 obtain ⟨rs, a, hn, hv⟩ := h
 have hr := List.getElem?_eq_getElem (l := rs) (i := c) (by omega)
 obtain ⟨c0, c1, c2, c3⟩ := a.cells hr
 exact ⟨_, _, _, _, _, _, _, _, c0, c1, c2, c3, hv c _ hr, a.frz⟩
/-- A row with one column stored. -/
theorem Rw.put (hw : Rw w' X g N f) {c : Nat} (hc : c < N) (r : R4) (hr : RatV ((((w'.setCell ⟨g, c * 4, none⟩ (.bool r.b)).setCell ⟨g, c * 4 + 1, none⟩ (.slice r.A r.m r.c)).setCell ⟨g, c * 4 + 2, none⟩ (.bool r.b')).setCell ⟨g, c * 4 + 3, none⟩ (.slice r.A' r.m' r.c')) X r.v (f' c))
 (hf : ∀ i, i ≠ c → f' i = f i) (hX : X g) : Rw ((((w'.setCell ⟨g, c * 4, none⟩ (.bool r.b)).setCell ⟨g, c * 4 + 1, none⟩ (.slice r.A r.m r.c)).setCell ⟨g, c * 4 + 2, none⟩ (.bool r.b')).setCell ⟨g, c * 4 + 3, none⟩ (.slice r.A' r.m' r.c')) X g N f' := by
 obtain ⟨rs, a, hn, hv⟩ := hw
 refine ⟨rs.set c r, a.put (by omega) r, by simpa using hn, ValV.set (f := f) (hv.keep ?_) hr hf⟩
 exact ((((Keep.refl X w').set (.inl hX) _).set (.inl hX) _).set (.inl hX) _).set (.inl hX) _
end
end Go.Proofs.YtbdcjhoedhhabaaGreat

/- reduce: a line less a multiple of a row. -/
namespace Go.Proofs.YtbdcjhoedhhabaaGreat
open Go.RowKit
attribute [local go_sem ↓] Go.wp_at_zero Go.wp_at_succ

/- reduce at the cost: a line less a multiple of a row. -/

/- pivot. -/

/- right, and the unknown that enters. -/

/-- A world that only grew keeps the tableau. -/
theorem Tab.on {w w' : World} {l : Lay} {m n : Nat} {S : St} {k : Nat → Rat} {sg : Nat → Int} (h : Tab w l m n S k sg) (hb : Keep (fun _ => False) w w') : Tab w' l m n S k sg :=
 ⟨h.fix.keep hb id id id, fun i hi => (h.rows i hi).keep (hb.weak (fun _ _ h => h.elim)) hb id, h.cost.keep (hb.weak (fun _ _ h => h.elim)) hb id, h.bas.keep hb id, h.dis⟩

end Go.Proofs.YtbdcjhoedhhabaaGreat

/- What the tableau tells: points, Farkas vectors, optima, rays. -/
namespace Go.Proofs.YtbdcjhoedhhabaaGreat

/-- The cost of the first phase: the sum of the artificial unknowns. -/
def d1 (m n : Nat) : Nat → Rat := fun c => if n ≤ c ∧ c < n + m then 1 else 0
/-- The cost of the second phase. -/
def d2 (n : Nat) (k : Nat → Rat) : Nat → Rat := fun c => if c < n then k c else 0
/-- The dual vector of the tableau. -/
def du (m n : Nat) (d : Nat → Rat) (S : St) : Nat → Rat := fun l => d (n + l) - rho m d S.T S.b (n + l)
/-- Basic artificial unknowns are 0. -/
def Zer (m n : Nat) (S : St) : Prop := ∀ i, i < m → n ≤ S.b i → S.T i (n + m) = 0
/-- So are the first k rows' coefficients where an artificial unknown is basic. -/
def Non (m n k : Nat) (S : St) : Prop := ∀ i, i < k → i < m → n ≤ S.b i → ∀ j, j < n → S.T i j = 0

section
variable {m n k : Nat} {T0 : Nat → Nat → Rat} {d : Nat → Rat} {S : St}

theorem Good.dual (G : Good m n T0 S.T S.b) {c : Nat} (hc : c ≤ n + m) : rho m d S.T S.b c = d c - sm m (fun l => du m n d S l * T0 l c) := by
 have e : ∀ l, du m n d S l = sm m (fun i => d (S.b i) * S.T i (n + l)) := fun l => by unfold du rho; grind
 have e2 : sm m (fun l => du m n d S l * T0 l c) = sm m (fun i => d (S.b i) * S.T i c) := by
  rw [sm_congr (g := fun l => sm m (fun i => d (S.b i) * (S.T i (n + l) * T0 l c))) (fun l _ => by
   rw [e l, Rat.mul_comm, ← sm_mul]
   exact sm_congr (fun i _ => by grind)), sm_swap]
  exact sm_congr (fun i hi => by rw [sm_mul, ← G.fw i hi c hc])
 rw [e2]; rfl

/-- A sum over the columns below n that are basic. -/
theorem pick (b : Nat → Nat) (x v : Nat → Rat) (n m : Nat) : sm n (fun j => v j * sm m (fun i => if b i = j then x i else 0)) = sm m (fun i => if b i < n then v (b i) * x i else 0) := by
 rw [sm_congr (g := fun j => sm m (fun i => v j * (if b i = j then x i else 0))) (fun j _ => by rw [sm_mul]), sm_swap]
 refine sm_congr (fun i _ => ?_)
 by_cases h : b i < n
 ·rw [if_pos h, sm_one _ (b i) h (fun j _ hne => by rw [if_neg (fun e => hne e.symm)]; grind), if_pos rfl]
 ·rw [if_neg h]
  exact sm_zero (fun j hj => by rw [if_neg (by omega)]; grind)

/-! The first phase. -/
/-! Between the phases. -/
theorem Zer.at (hZ : Zer m n S) {r j : Nat} (hr : r < m) (h0 : S.T r (n + m) = 0) : Zer m n (S.at r j) ∧ ∀ i, (S.at r j).T i (n + m) = if i = r then 0 else S.T i (n + m) := by
 have e : ∀ i, (S.at r j).T i (n + m) = if i = r then 0 else S.T i (n + m) := fun i => by
  show piv S.T r j i (n + m) = _
  unfold piv
  rw [h0]
  by_cases h : i = r
  ·rw [if_pos h, if_pos h]; grind
  ·rw [if_neg h, if_neg h]; grind
 refine ⟨fun i hi hb => ?_, e⟩
 rw [e]
 by_cases h : i = r
 ·rw [if_pos h]
 ·rw [if_neg h]
  refine hZ i hi ?_
  have : (S.at r j).b i = S.b i := by show bup S.b r j i = _; unfold bup; rw [if_neg h]
  rw [this] at hb; exact hb
theorem Non.at (hN : Non m n k S) {r j : Nat} (hj : j < n) : Non m n k (S.at r j) := fun i hk hi hb c hc => by
 have hir : i ≠ r := fun h => by
  have : (S.at r j).b i = j := by show bup S.b r j i = _; unfold bup; rw [if_pos h]
  omega
 have hb' : (S.at r j).b i = S.b i := by show bup S.b r j i = _; unfold bup; rw [if_neg hir]
 rw [hb'] at hb
 show piv S.T r j i c = 0
 unfold piv
 rw [if_neg hir, hN i hk hi hb c hc, hN i hk hi hb j hj]; grind
theorem Non.succ (hN : Non m n k S) (h : n ≤ S.b k → ∀ j, j < n → S.T k j = 0) : Non m n (k + 1) S := fun i hk hi hb c hc => by
 by_cases he : i = k
 ·subst he; exact h hb c hc
 ·exact hN i (by omega) hi hb c hc
/-- The second phase keeps both. -/
theorem Zer.bl (hZ : Zer m n S) {r j : Nat} (hN : Non m n m S) (hj : j < n) : Zer m n (S.at r j) := fun i hi hb => by
 have hir : i ≠ r := fun h => by
  have : (S.at r j).b i = j := by show bup S.b r j i = _; unfold bup; rw [if_pos h]
  omega
 have hb' : (S.at r j).b i = S.b i := by show bup S.b r j i = _; unfold bup; rw [if_neg hir]
 rw [hb'] at hb
 show piv S.T r j i (n + m) = 0
 unfold piv
 rw [if_neg hir, hZ i hi hb, hN i hi hi hb j hj]; grind

/-! The ray. -/
end
end Go.Proofs.YtbdcjhoedhhabaaGreat

