/- Contracts of the functions that the statements reach, part 41. -/
import Derived.Test.YtpeglenapmkdfaaGreatRows
import Derived.Test.YtpeglenapmkdfaaGreatM40
set_option linter.unusedSimpArgs false
set_option linter.unusedVariables false

/- The reference: ray, dual. -/
namespace Go.Proofs.YtpeglenapmkdfaaGreat
open Go.RowKit
attribute [local go_sem ↓] Go.wp_at_zero Go.wp_at_succ

/-- The numbers y are a dual solution. -/
def DU (m n ny : Nat) (F : Nat → Nat → Rat) (kc y : Nat → Rat) : Prop := ny = m ∧ ∀ j, j < n → ¬ kc j < sm m (fun i => y i * F i j)

section
variable {m mb nr ny nc k : Nat} {N : Nat → Nat} {F : Nat → Nat → Rat} {r y kc Bv : Nat → Rat}

set_option maxRecDepth 100000 in
set_option maxHeartbeats 8000000 in
theorem rray_any (w : World) (A B : Option Addr) (cA dB : Nat) (vc vr : Value) (hA : Mat k w (fun _ => False) (.slice A m cA) m N F) (hB : Nums k w (fun _ => False) (.slice B mb dB) mb Bv) (hc : Nums k w (fun _ => False) vc nc kc) (hr : Nums k w (fun _ => False) vr nr r)
    (hm1 : 1 ≤ m) (hm2 : m ≤ 80) (hn : N 0 ≤ 80) (hN : ∀ i, i < m → N i = N 0) (hnc : nc = N 0) (hk1 : 1 ≤ k) (hk : k ≤ 2000) :
    Calls Tryz.prog 64 #[.agg #[.slice A m cA, .slice B mb dB], vc, vr] w fun e w' => Tells (SV m (N 0) nr F r (fun _ => 0) ∧ sm (N 0) (fun j => kc j * r j) < 0) e ∧ Below w.heap.size w w' := by
  have HR := Lib.hid hr
  obtain ⟨E, c4, rfl, hr, l5, l6⟩ := hr.op
  have HA := Lib.hid hA
  have HB := Lib.hid hB
  have HC := Lib.hid hc
  obtain ⟨C0, c0, rfl, hc, lc1, lc2⟩ := hc.op
  have L := made1 w #[.slice A m cA, .slice B mb dB] 25
  obtain ⟨a, D, dd, rfl, hab, -, hcell, hnum, l9, l10⟩ := Mat.at hA (show 0 < m by omega)
  have e0 : a.add 0 = a := by simp [Addr.add]
  rw [e0] at hcell
  have HCELL : Hid (∀ W, Below w.heap.size w W → W.cell? a = some (.slice D (N 0) dd)) := fun W hW => cell_keep (X := fun _ => False) hcell hab id (.of_below hW)
  have q0 : (0 : Int) < (m : Int) := by omega
  have HN := Lib.hid hN
  obtain ⟨n, hnn⟩ : ∃ n, N 0 = n := ⟨_, rfl⟩
  rw [hnn] at HCELL hnum l9 hn
  have HN0 := Lib.hid hnn
  rw [hnn]
  have hc2 : (w.alloc (.cells #[.slice (some a) m cA, .slice B mb dB] 25)).cell? a = some (.slice D n dd) := HCELL.out _ bel
  rw [hnn] at hnc
  subst hnc
  clear hA hB hc hr hN hnn hnum hcell
  by_cases h1 : nr ≠ nc
  · have hv : Hid (¬ (SV m nc nr F r (fun _ => 0) ∧ sm nc (fun j => kc j * r j) < 0)) := fun h => h1 h.1.1
    have h4 : ((nr : Int) == (nc : Int)) = false := beq_eq_false_iff_ne.2 (by omega)
    have h5 : ((nr : Int) != (nc : Int)) = true := bne_iff_ne.2 (by omega)
    go_enter Tryz.func64, Tryz.ntmps64
    go_wp2_with fail
    go_ret
    exact ⟨Tells.no hv.out, bel⟩
  obtain rfl : nr = nc := Classical.not_not.1 h1
  clear h1
  obtain ⟨dv, hdv⟩ : ∃ q, sm nr (fun i => kc i * r i) = q := ⟨_, rfl⟩
  have HDV := Lib.hid hdv
  obtain ⟨sv0, hsv0⟩ : ∃ s, dv.num.sign = s := ⟨_, rfl⟩
  have HSV0 := Lib.hid hsv0
  have HSN0 : Hid (sv0 < 0 ↔ dv < 0) := by show _ ↔ _; rw [← hsv0]; exact sign_neg_iff dv
  clear hsv0
  rw [hdv]
  clear hdv
  go_enter Tryz.func64, Tryz.ntmps64
  go_wp2_with fail
  refine (positive_any _ _ nr k r (Nums.keep HR.out kp) hk (by omega)).mono ?_
  rintro e w2 ⟨⟨b, rfl, hb⟩, hb2⟩
  have z1 := sz1 hb2
  clear hc2
  obtain ⟨e1, f1, -⟩ := L.all (w' := w2)
  cases b
  · have HV2 : Hid (¬ (SV m nr nr F r (fun _ => 0) ∧ dv < 0)) := fun h => by have := hb.out.2 h.1.2.1; cases this
    clear hb
    go_wp2_with fail
    go_ret
    exact ⟨Tells.no HV2.out, bel⟩
  have HP := Lib.hid (hb.out.1 rfl)
  clear hb
  go_wp2_with fail
  go_loopw [7] (fun i wr => ∃ (ci : Nat), ci ≤ m ∧ i = .int .i64 ci ∧ Hid (∀ i, i < ci → sm nr (fun j => F i j * r j) = 0) ∧ Below w.heap.size w wr ∧ Loc wr w.heap.size 25 #[.slice (some a) m cA, .slice B mb dB]) (fun i _ => m - (intOf i).toNat)
  case atStart => exact ⟨0, by omega, rfl, Lib.hid (fun i hi => absurd hi (by omega)), bel, L.to⟩
  case round =>
    clear L e1 f1
    obtain ⟨ci, hci, rfl, hall, hBB, N1⟩ := hrel
    obtain ⟨wo, rfl⟩ : ∃ wo : World, wo = wr := ⟨_, rfl⟩
    have y5 := hBB.size; (try simp only [World.size_alloc, size_set, size_drew, size_drewN] at y5)
    obtain ⟨e1, f1, l1⟩ := N1.all (w' := wo)
    by_cases hlt : ci < m
    · obtain ⟨a5, D5, d5, ea5, hab5, -, hcell5, hnum5, l19, l20⟩ := Mat.at (Mat.keep HA.out (.of_below hBB)) hlt
      injection ea5 with ea5
      subst ea5
      rw [HN.out ci hlt, HN0.out] at hcell5 hnum5 l19
      obtain ⟨dw, hdw⟩ : ∃ q, sm nr (fun j => F ci j * r j) = q := ⟨_, rfl⟩
      have HDW := Lib.hid hdw
      obtain ⟨sv, hsv⟩ : ∃ s, dw.num.sign = s := ⟨_, rfl⟩
      have HSV := Lib.hid hsv
      have HSZ : Hid (sv = 0 ↔ dw = 0) := by show _ ↔ _; rw [← hsv, Int.sign_eq_zero_iff_zero, Rat.num_eq_zero]
      clear hdw hsv
      go_wp2_with fail
      refine (rdot_any _ _ _ nr nr k (F ci) r (Nums.keep hnum5 kp) (Nums.keep HR.out kp) (Nat.le_refl _) (by omega) hk1 hk).mono ?_
      rintro e w5 ⟨u5, rfl, i5, hb5⟩
      rw [HDW.out] at i5
      have y6 := hb5.size; (try simp only [World.size_alloc, size_set, size_drew, size_drewN] at y6)
      obtain ⟨b5, A5, m5, c5, b5', A5', m5', c5', rfl, i5, -⟩ := i5.op
      go_wp2_with fail
      refine (rsign_rat _ (fun _ => False) _ dw (RatL.to (i5.mono (by omega)))).mono ?_
      rintro e w6 ⟨he, hb6⟩
      rw [HSV.out] at he
      subst he
      have y7 := hb6.size; (try simp only [World.size_alloc, size_set, size_drew, size_drewN] at y7)
      have N6 : Loc w6 _ _ _ := Loc.to N1
      by_cases hs0 : sv = 0
      · subst hs0
        have HZ := Lib.hid (HSZ.out.1 rfl)
        clear HSZ HSV
        go_wp2_with fail
        go_roundw
        case rel =>
          refine ⟨ci + 1, by omega, by go_num, Lib.hid (fun i hi => ?_), bel, N6⟩
          by_cases hic : i < ci
          · exact hall.out i hic
          · obtain rfl : i = ci := by omega
            rw [HDW.out]; exact HZ.out
        case measure => simp only [intOf]; omega
      · have HV2 : Hid (¬ (SV m nr nr F r (fun _ => 0) ∧ dv < 0)) := fun h => hs0 (HSZ.out.2 (by rw [← HDW.out]; exact h.1.2.2 ci hlt))
        have h4 : (sv == 0) = false := beq_eq_false_iff_ne.2 hs0
        have h5 : (sv != 0) = true := bne_iff_ne.2 hs0
        clear HSZ HSV
        go_wp2_with fail
        go_ret
        exact ⟨Tells.no HV2.out, bel⟩
    · obtain rfl : m = ci := by omega
      go_wp2_with fail
      refine (rdot_any _ _ _ nr nr k kc r (Nums.keep HC.out kp) (Nums.keep HR.out kp) (Nat.le_refl _) (by omega) hk1 hk).mono ?_
      rintro e w3 ⟨u3, rfl, i3, hb3⟩
      rw [HDV.out] at i3
      have y3 := hb3.size; (try simp only [World.size_alloc, size_set, size_drew, size_drewN] at y3)
      obtain ⟨b3, A3, m3, c3, b3', A3', m3', c3', rfl, i3, -⟩ := i3.op
      go_wp2_with fail
      refine (rsign_rat _ (fun _ => False) _ dv (RatL.to (i3.mono (by omega)))).mono ?_
      rintro e w4 ⟨he, hb4⟩
      rw [HSV0.out] at he
      subst he
      have y4 := hb4.size; (try simp only [World.size_alloc, size_set, size_drew, size_drewN] at y4)
      by_cases hneg : sv0 < 0
      · have HV2 : Hid (SV m nr nr F r (fun _ => 0) ∧ dv < 0) := ⟨⟨rfl, HP.out, hall.out⟩, HSN0.out.1 hneg⟩
        clear HSN0 HSV0
        go_wp2_with fail
        go_ret
        exact ⟨Tells.yes HV2.out, bel⟩
      · have HV2 : Hid (¬ (SV m nr nr F r (fun _ => 0) ∧ dv < 0)) := fun h => hneg (HSN0.out.2 h.2)
        clear HSN0 HSV0
        go_wp2_with fail
        go_ret
        refine ⟨?_, bel⟩
        first
          | exact Tells.no HV2.out
          | (simp; first | exact Tells.no HV2.out | (rw [decide_eq_false (by omega)]; exact Tells.no HV2.out))

set_option maxRecDepth 100000 in
set_option maxHeartbeats 8000000 in
theorem rdual_any (w : World) (A B : Option Addr) (cA dB : Nat) (vc vy : Value) (hA : Mat k w (fun _ => False) (.slice A m cA) m N F) (hB : Nums k w (fun _ => False) (.slice B mb dB) mb Bv) (hc : Nums k w (fun _ => False) vc nc kc) (hy : Nums k w (fun _ => False) vy ny y)
    (hm1 : 1 ≤ m) (hm2 : m ≤ 80) (hn : N 0 ≤ 80) (hN : ∀ i, i < m → N i = N 0) (hnc : nc = N 0) (hk1 : 1 ≤ k) (hk : k ≤ 2000) :
    Calls Tryz.prog 65 #[.agg #[.slice A m cA, .slice B mb dB], vc, vy] w fun e w' => Tells (DU m (N 0) ny F kc y) e ∧ Below w.heap.size w w' := by
  have HY := Lib.hid hy
  obtain ⟨E, c4, rfl, hy, l5, l6⟩ := hy.op
  have HA := Lib.hid hA
  have HB := Lib.hid hB
  have HC := Lib.hid hc
  obtain ⟨C0, c0, rfl, hc, lc1, lc2⟩ := hc.op
  have L := made1 w #[.slice A m cA, .slice B mb dB] 25
  obtain ⟨a, D, dd, rfl, hab, -, hcell, hnum, l9, l10⟩ := Mat.at hA (show 0 < m by omega)
  have e0 : a.add 0 = a := by simp [Addr.add]
  rw [e0] at hcell
  have HCELL : Hid (∀ W, Below w.heap.size w W → W.cell? a = some (.slice D (N 0) dd)) := fun W hW => cell_keep (X := fun _ => False) hcell hab id (.of_below hW)
  have q0 : (0 : Int) < (m : Int) := by omega
  have HN := Lib.hid hN
  obtain ⟨n, hnn⟩ : ∃ n, N 0 = n := ⟨_, rfl⟩
  rw [hnn] at HCELL hnum l9 hn
  have HN0 := Lib.hid hnn
  rw [hnn]
  have hc2 : (w.alloc (.cells #[.slice (some a) m cA, .slice B mb dB] 25)).cell? a = some (.slice D n dd) := HCELL.out _ bel
  rw [hnn] at hnc
  subst hnc
  clear hA hB hc hy hN hnn hnum hcell
  by_cases h1 : ny ≠ m
  · have hv : Hid (¬ DU m nc ny F kc y) := fun h => h1 h.1
    have h4 : ((ny : Int) == (m : Int)) = false := beq_eq_false_iff_ne.2 (by omega)
    have h5 : ((ny : Int) != (m : Int)) = true := bne_iff_ne.2 (by omega)
    go_enter Tryz.func65, Tryz.ntmps65
    go_wp2_with fail
    go_ret
    exact ⟨Tells.no hv.out, bel⟩
  obtain rfl : ny = m := Classical.not_not.1 h1
  clear h1
  go_enter Tryz.func65, Tryz.ntmps65
  go_wp2_with fail
  go_loopw [7] (fun i wr => ∃ (ci : Nat), ci ≤ nc ∧ i = .int .i64 ci ∧ Hid (∀ j, j < ci → ¬ kc j < sm ny (fun i => y i * F i j)) ∧ Below w.heap.size w wr ∧ Loc wr w.heap.size 25 #[.slice (some a) ny cA, .slice B mb dB]) (fun i _ => nc - (intOf i).toNat)
  case atStart => exact ⟨0, by omega, rfl, Lib.hid (fun i hi => absurd hi (by omega)), bel, L.to⟩
  case round =>
    clear L hc2
    obtain ⟨ci, hci, rfl, hall, hBB, N1⟩ := hrel
    obtain ⟨wo, rfl⟩ : ∃ wo : World, wo = wr := ⟨_, rfl⟩
    have y5 := hBB.size; (try simp only [World.size_alloc, size_set, size_drew, size_drewN] at y5)
    obtain ⟨e1, f1, l1⟩ := N1.all (w' := wo)
    have hc3 := HCELL.out wo hBB
    by_cases hlt : ci < nc
    · obtain ⟨a6, b6, A6, m6, c6, b6', A6', m6', c6', ea6, ha6, -, x0, x1, x2, x3, r6⟩ := Nums.at (Nums.keep HC.out (.of_below hBB)) hlt
      subst ea6
      have HL : Hid (∀ W, Below wo.heap.size wo W → ((W.cell? (a6.add (ci * 4)) = some (.bool b6) ∧ W.cell? ⟨(a6.add (ci * 4)).block, (a6.add (ci * 4)).off + 1, none⟩ = some (.slice A6 m6 c6)) ∧ W.cell? ⟨(a6.add (ci * 4)).block, (a6.add (ci * 4)).off + 2, none⟩ = some (.bool b6') ∧ W.cell? ⟨(a6.add (ci * 4)).block, (a6.add (ci * 4)).off + 3, none⟩ = some (.slice A6' m6' c6'))) := fun W hW => by
        refine ⟨⟨?_, ?_⟩, ?_, ?_⟩
        · exact cell_keep (X := fun _ => False) x0 (by rw [add_block]; exact ha6) id (.of_below hW)
        · exact cell_keep (X := fun _ => False) x1 (by simp only [add_block]; exact ha6) id (.of_below hW)
        · exact cell_keep (X := fun _ => False) x2 (by simp only [add_block]; exact ha6) id (.of_below hW)
        · exact cell_keep (X := fun _ => False) x3 (by simp only [add_block]; exact ha6) id (.of_below hW)
      obtain ⟨dv, hdv⟩ : ∃ q, sm ny (fun i => y i * F i ci) = q := ⟨_, rfl⟩
      have HDV := Lib.hid hdv
      obtain ⟨qq, hqq⟩ : ∃ q, rcmp dv (kc ci) = q := ⟨_, rfl⟩
      have HQ : Hid (0 < qq ↔ kc ci < dv) := by
        show _ ↔ _
        rw [← hqq]
        have := rcmp_le dv (kc ci)
        rw [← Rat.not_le, ← this]; omega
      have HQQ := Lib.hid hqq
      clear x0 x1 x2 x3 hdv hqq
      go_wp2_with fail
      clear e1 f1 hc3
      go_region_held3 (fun W => (W.cell? ⟨w.heap.size, 0, none⟩ = some (.slice (some a) ny cA) ∧ W.cell? ⟨w.heap.size, 1, none⟩ = some (.slice B mb dB)) ∧ (W.cell? (a6.add (ci * 4)) = some (.bool b6) ∧ W.cell? ⟨(a6.add (ci * 4)).block, (a6.add (ci * 4)).off + 1, none⟩ = some (.slice A6 m6 c6)) ∧ W.cell? ⟨(a6.add (ci * 4)).block, (a6.add (ci * 4)).off + 2, none⟩ = some (.bool b6') ∧ W.cell? ⟨(a6.add (ci * 4)).block, (a6.add (ci * 4)).off + 3, none⟩ = some (.slice A6' m6' c6'))
        (exact ⟨⟨Loc.c 0 N1, Loc.c 1 N1⟩, HL.out _ bel⟩)
        (first
          | (go_at_call 46; refine (rcolumn_any _ _ _ ny ci k N F (Mat.keep HA.out kp) ⟨_, _, _, rfl⟩ (fun i hi => by rw [HN.out i hi, HN0.out]; exact hlt) (by omega)).mono ?_; rintro e u4 ⟨v9, rfl, i4, hb4⟩; obtain ⟨C4, c10, rfl, i4, -, -⟩ := i4.op; have y4 := hb4.size; (try simp only [World.size_alloc, size_set, size_drew, size_drewN] at y4))
          | (go_at_call 35; refine (rdot_any _ _ _ ny ny k y (fun i => F i ci) (Nums.keep HY.out kp) (Nums.keep i4 kp) (Nat.le_refl _) (by omega) hk1 hk).mono ?_; rintro e u5 ⟨v10, rfl, i7, hb7⟩; rw [HDV.out] at i7; obtain ⟨b7, A7, m7, c7, b7', A7', m7', c7', rfl, i7, -⟩ := i7.op; have y7 := hb7.size; (try simp only [World.size_alloc, size_set, size_drew, size_drewN] at y7))
          | (go_at_call 28; refine (rcompare_rat _ (fun _ => False) _ _ dv (kc ci) (RatL.to (i7.mono (by omega))) (RatL.to (r6.mono (by omega)))).mono ?_; rintro e u6 ⟨he, hb8⟩; rw [HQQ.out] at he; subst he; have y8 := hb8.size; (try simp only [World.size_alloc, size_set, size_drew, size_drewN] at y8)))
      all_goals
        have N6 : Loc u6 _ _ _ := Loc.to N1
        by_cases hq0 : 0 < qq
        · have HV2 : Hid (¬ DU ny nc ny F kc y) := fun hh => hh.2 ci hlt (by rw [HDV.out]; exact HQ.out.1 hq0)
          clear HQ HQQ
          go_wp2_with fail
          go_ret
          exact ⟨Tells.no HV2.out, bel⟩
        · have HE : Hid (¬ kc ci < dv) := fun h => hq0 (HQ.out.2 h)
          clear HQ HQQ
          go_wp2_with fail
          go_roundw
          case rel =>
            refine ⟨ci + 1, by omega, by go_num, Lib.hid (fun i hi => ?_), bel, N6⟩
            by_cases hic : i < ci
            · exact hall.out i hic
            · obtain rfl : i = ci := by omega
              rw [HDV.out]; exact HE.out
          case measure => simp only [intOf]; omega
    · obtain rfl : nc = ci := by omega
      go_wp2_with fail
      go_ret
      exact ⟨Tells.yes ⟨rfl, hall.out⟩, hBB⟩
end
end Go.Proofs.YtpeglenapmkdfaaGreat

