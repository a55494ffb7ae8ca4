/- Contracts of the functions that the statements reach, part 40. -/
import Derived.Test.YtpeglenapmkdfaaGreatRows
import Derived.Test.YtpeglenapmkdfaaGreatM33
import Derived.Test.YtpeglenapmkdfaaGreatM39
set_option linter.unusedSimpArgs false
set_option linter.unusedVariables false

/- The reference: Valid, CheckPoint. -/
namespace Go.Proofs.YtpeglenapmkdfaaGreat
open Go.RowKit
attribute [local go_sem ↓] Go.wp_at_zero Go.wp_at_succ

set_option maxHeartbeats 4000000 in
theorem rvalid_any (w : World) (va vb : Value) (m mb k : Nat) (N : Nat → Nat) (F : Nat → Nat → Rat) (Bv : Nat → Rat) (h : Mat k w (fun _ => False) va m N F) (hb : Nums k w (fun _ => False) vb mb Bv) :
    Calls Tryz.prog 15 #[.agg #[va, vb]] w fun e w' => Tells (VS m mb N) e ∧ Below w.heap.size w w' := by
  have H := Lib.hid h
  obtain ⟨A, c1, rfl, h, l1, l2⟩ := h.op
  obtain ⟨B, c2, rfl, hb, l3, l4⟩ := hb.op
  by_cases h1 : m < 1
  · have hv : Hid (¬ VS m mb N) := fun h => by have := h.1; omega
    clear h
    go_enter Tryz.func15, Tryz.ntmps15
    go_wp2_with fail
    go_ret
    exact ⟨Tells.no hv.out, bel⟩
  by_cases h2 : 80 < m
  · have hv : Hid (¬ VS m mb N) := fun h => by have := h.2.1; omega
    clear h
    go_enter Tryz.func15, Tryz.ntmps15
    go_wp2_with fail
    go_ret
    exact ⟨Tells.no hv.out, bel⟩
  by_cases h3 : mb ≠ m
  · have hv : Hid (¬ VS m mb N) := fun h => by have := h.2.2.1; omega
    have h4 : ((mb : Int) == (m : Int)) = false := beq_eq_false_iff_ne.2 (by omega)
    have h5 : ((mb : Int) != (m : Int)) = true := bne_iff_ne.2 (by omega)
    clear h
    go_enter Tryz.func15, Tryz.ntmps15
    go_wp2_with fail
    go_ret
    exact ⟨Tells.no hv.out, bel⟩
  obtain rfl : mb = m := Classical.not_not.1 h3
  clear h3
  obtain ⟨a, D, d, rfl, hab, -, hcell, hnum, l5, l6⟩ := Mat.at h (show 0 < mb by omega)
  have e0 : a.add 0 = a := by simp [Addr.add]
  rw [e0] at hcell
  have hc2 : (w.alloc (.cells #[.slice (some a) mb c1, .slice B mb c2] 25)).cell? a = _ := cell_keep (X := fun _ => False) hcell hab id kp
  have q0 : (0 : Int) < (mb : Int) := by omega
  obtain ⟨n, hn⟩ : ∃ n, N 0 = n := ⟨_, rfl⟩
  have HN := Lib.hid hn
  rw [hn] at hcell hnum hc2 l5
  clear hn hnum h hb
  have hVS : Hid (VS mb mb N ↔ (1 ≤ n ∧ n ≤ 80 ∧ ∀ i, i < mb → N i = n)) := by
    show _ ↔ _
    unfold VS
    rw [HN.out]
    constructor
    · rintro ⟨_, _, _, h⟩; exact h
    · intro h; exact ⟨by omega, by omega, rfl, h⟩
  by_cases h6 : n < 1
  · have hv : Hid (¬ VS mb mb N) := fun h => by have := (hVS.out.1 h).1; omega
    go_enter Tryz.func15, Tryz.ntmps15
    go_wp2_with fail
    go_ret
    exact ⟨Tells.no hv.out, bel⟩
  by_cases h7 : 80 < n
  · have hv : Hid (¬ VS mb mb N) := fun h => by have := (hVS.out.1 h).2.1; omega
    go_enter Tryz.func15, Tryz.ntmps15
    go_wp2_with fail
    go_ret
    exact ⟨Tells.no hv.out, bel⟩
  have L := made1 w #[.slice (some a) mb c1, .slice B mb c2] 25
  go_enter Tryz.func15, Tryz.ntmps15
  go_wp2_with fail
  go_loopw [5] (fun i wr => ∃ (c : Nat), c ≤ mb ∧ i = .int .i64 c ∧ Hid (∀ i, i < c → N i = n) ∧ wr = w.alloc (.cells #[.slice (some a) mb c1, .slice B mb c2] 25)) (fun i _ => mb - (intOf i).toNat)
  case atStart => exact ⟨0, by omega, rfl, Lib.hid (fun i hi => absurd hi (by omega)), rfl⟩
  case round =>
    obtain ⟨c, hc, rfl, hall, rfl⟩ := hrel
    by_cases hlt : c < mb
    · obtain ⟨a5, D5, d5, ea5, hab5, -, hcell5, hnum5, l9, l10⟩ := Mat.at (Mat.keep H.out (w' := w.alloc (.cells #[.slice (some a) mb c1, .slice B mb c2] 25)) kp) hlt
      injection ea5 with ea5
      subst ea5
      obtain ⟨nc, hnc⟩ : ∃ q, N c = q := ⟨_, rfl⟩
      rw [hnc] at hcell5 hnum5 l9
      have HNC := Lib.hid hnc
      clear hnc hnum5
      by_cases hq : nc = n
      · subst hq
        go_wp2_with fail
        go_roundw
        case rel =>
          refine ⟨c + 1, by omega, by go_num, Lib.hid (fun i hi => ?_), by first | rfl | trivial⟩
          by_cases hic : i < c
          · exact hall.out i hic
          · obtain rfl : i = c := by omega
            exact HNC.out
        case measure => simp only [intOf]; omega
      · have HV : Hid (¬ VS mb mb N) := fun h => hq (by rw [← HNC.out]; exact (hVS.out.1 h).2.2 c hlt)
        have h4 : ((nc : Int) == (n : Int)) = false := beq_eq_false_iff_ne.2 (by omega)
        have h5 : ((nc : Int) != (n : Int)) = true := bne_iff_ne.2 (by omega)
        clear hVS
        go_wp2_with fail
        go_ret
        exact ⟨Tells.no HV.out, bel⟩
    · obtain rfl : c = mb := by omega
      have HV : Hid (VS c c N) := hVS.out.2 ⟨by omega, by omega, hall.out⟩
      clear hVS
      go_wp2_with fail
      go_ret
      exact ⟨Tells.yes HV.out, bel⟩

section
variable {m mb nx ny k : Nat} {N : Nat → Nat} {F : Nat → Nat → Rat} {f y Bv : Nat → Rat}
set_option maxHeartbeats 8000000 in
theorem rcheckPoint_any (w : World) (vs vx : Value) (hS : Sys k w vs m mb N F Bv) (hx : Nums k w (fun _ => False) vx nx f) (hk1 : 1 ≤ k) (hk : k ≤ 2000) :
    Calls Tryz.prog 17 #[vs, vx] w fun e w' => Tells (PT m mb N F Bv nx f) e ∧ Below w.heap.size w w' := by
  obtain ⟨A, c, B, d, rfl, hA, hB⟩ := hS
  have HA := Lib.hid hA
  have HB := Lib.hid hB
  have HX := Lib.hid hx
  obtain ⟨C, c3, rfl, hx, l3, l4⟩ := hx.op
  have L := made1 w #[.slice A m c, .slice B mb d] 25
  clear hB hx
  go_enter Tryz.func17, Tryz.ntmps17
  go_wp2_with fail
  refine (rvalid_any _ _ _ m mb k N F Bv (Mat.keep HA.out kp) (Nums.keep HB.out kp)).mono ?_
  rintro e w1 ⟨⟨b, rfl, hb⟩, hb1⟩
  have z1 := sz1 hb1
  obtain ⟨e1, f1, -⟩ := L.all (w' := w1)
  cases b
  · have HV : Hid (¬ PT m mb N F Bv nx f) := fun h => by have := hb.out.2 h.1; cases this
    clear hb hA
    go_wp2_with fail
    go_ret
    exact ⟨Tells.no HV.out, bel⟩
  have HV : Hid (VS m mb N) := hb.out.1 rfl
  clear hb
  obtain ⟨v1, v2, rfl, v4, v5, v6⟩ := HV.out
  obtain ⟨a, D, dd, rfl, hab, -, hcell, hnum, l7, l8⟩ := Mat.at hA (show 0 < mb by omega)
  have e0 : a.add 0 = a := by simp [Addr.add]
  rw [e0] at hcell
  obtain ⟨n, hnn⟩ : ∃ n, N 0 = n := ⟨_, rfl⟩
  rw [hnn] at hcell hnum l7 v4 v5 v6
  have HN := Lib.hid v6
  have HN0 := Lib.hid hnn
  have hcw : w1.cell? a = some (.slice D n dd) := cell_keep (X := fun _ => False) hcell hab id (.of_below (bel : Below w.heap.size w w1))
  have q0 : (0 : Int) < (mb : Int) := by omega
  clear hA v6 hnn hnum hcell
  by_cases hnx : nx ≠ n
  · have HV2 : Hid (¬ PT mb mb N F Bv nx f) := fun h => hnx (by rw [← HN0.out]; exact h.2.1)
    have h4 : ((nx : Int) == (n : Int)) = false := beq_eq_false_iff_ne.2 (by omega)
    have h5 : ((nx : Int) != (n : Int)) = true := bne_iff_ne.2 (by omega)
    go_wp2_with fail
    go_ret
    exact ⟨Tells.no HV2.out, bel⟩
  obtain rfl : nx = n := Classical.not_not.1 hnx
  clear hnx
  go_wp2_with fail
  refine (positive_any _ _ nx k f (Nums.keep HX.out kp) hk (by omega)).mono ?_
  rintro e w2 ⟨⟨b, rfl, hb⟩, hb2⟩
  have y2 := hb2.size; (try simp only [World.size_alloc, size_set, size_drew, size_drewN] at y2)
  clear e1 f1 hcw
  obtain ⟨e1, f1, -⟩ := L.all (w' := w2)
  cases b
  · have HV2 : Hid (¬ PT mb mb N F Bv nx f) := fun h => by have := hb.out.2 h.2.2.1; cases this
    clear hb
    go_wp2_with fail
    go_ret
    exact ⟨Tells.no HV2.out, bel⟩
  have HP := Lib.hid (hb.out.1 rfl)
  clear hb
  go_wp2_with fail
  go_loopw [5] (fun i wr => ∃ (ci : Nat), ci ≤ mb ∧ i = .int .i64 ci ∧ Hid (∀ i, i < ci → sm nx (fun j => F i j * f j) = Bv i) ∧ Below w.heap.size w wr ∧ Loc wr w.heap.size 25 #[.slice (some a) mb c, .slice B mb d]) (fun i _ => mb - (intOf i).toNat)
  case atStart => exact ⟨0, by omega, rfl, Lib.hid (fun i hi => absurd hi (by omega)), bel, L.to⟩
  case round =>
    clear L e1 f1
    obtain ⟨ci, hci, rfl, hall, hBB, N1⟩ := hrel
    obtain ⟨wo, rfl⟩ : ∃ wo : World, wo = wr := ⟨_, rfl⟩
    have y5 := hBB.size; (try simp only [World.size_alloc, size_set, size_drew, size_drewN] at y5)
    have q1 := Loc.lt N1
    obtain ⟨e1, f1, -⟩ := N1.all (w' := wo)
    by_cases hlt : ci < mb
    · obtain ⟨a5, D5, d5, ea5, hab5, -, hcell5, hnum5, l9, l10⟩ := Mat.at (Mat.keep HA.out (.of_below hBB)) hlt
      injection ea5 with ea5
      subst ea5
      rw [HN.out ci hlt] at hcell5 hnum5 l9
      obtain ⟨a6, b6, A6, m6, c6, b6', A6', m6', c6', rfl, ha6, -, x0, x1, x2, x3, r6⟩ := Nums.at (Nums.keep HB.out (.of_below hBB)) hlt
      have HL : Hid (∀ W, Below wo.heap.size wo W → (W.cell? (a.add ci) = some (.slice D5 nx d5)) ∧ (W.cell? (a6.add (ci * 4)) = some (.bool b6) ∧ W.cell? ⟨(a6.add (ci * 4)).block, (a6.add (ci * 4)).off + 1, none⟩ = some (.slice A6 m6 c6)) ∧ W.cell? ⟨(a6.add (ci * 4)).block, (a6.add (ci * 4)).off + 2, none⟩ = some (.bool b6') ∧ W.cell? ⟨(a6.add (ci * 4)).block, (a6.add (ci * 4)).off + 3, none⟩ = some (.slice A6' m6' c6')) := fun W hW => by
        refine ⟨?_, ⟨?_, ?_⟩, ?_, ?_⟩
        · exact cell_keep (X := fun _ => False) hcell5 (by rw [add_block]; exact hab5) id (.of_below hW)
        · exact cell_keep (X := fun _ => False) x0 (by rw [add_block]; exact ha6) id (.of_below hW)
        · exact cell_keep (X := fun _ => False) x1 (by simp only [add_block]; exact ha6) id (.of_below hW)
        · exact cell_keep (X := fun _ => False) x2 (by simp only [add_block]; exact ha6) id (.of_below hW)
        · exact cell_keep (X := fun _ => False) x3 (by simp only [add_block]; exact ha6) id (.of_below hW)
      obtain ⟨dv, hdv⟩ : ∃ q, sm nx (fun j => F ci j * f j) = q := ⟨_, rfl⟩
      have HDV := Lib.hid hdv
      clear x0 x1 x2 x3 hdv hcell5
      obtain ⟨bb, hbb⟩ : ∃ bb : Bool, bb = true ↔ dv = Bv ci := ⟨decide (dv = Bv ci), decide_eq_true_iff⟩
      have HBB := Lib.hid hbb
      clear hbb
      go_wp2_with fail
      clear e1 f1
      go_region_held3 (fun W => (W.cell? ⟨w.heap.size, 0, none⟩ = some (.slice (some a) mb c) ∧ W.cell? ⟨w.heap.size, 1, none⟩ = some (.slice (some a6) mb d)) ∧ W.cell? (a.add ci) = some (.slice D5 nx d5) ∧ (W.cell? (a6.add (ci * 4)) = some (.bool b6) ∧ W.cell? ⟨(a6.add (ci * 4)).block, (a6.add (ci * 4)).off + 1, none⟩ = some (.slice A6 m6 c6)) ∧ W.cell? ⟨(a6.add (ci * 4)).block, (a6.add (ci * 4)).off + 2, none⟩ = some (.bool b6') ∧ W.cell? ⟨(a6.add (ci * 4)).block, (a6.add (ci * 4)).off + 3, none⟩ = some (.slice A6' m6' c6'))
        (exact ⟨⟨Loc.c 0 N1, Loc.c 1 N1⟩, HL.out _ bel⟩)
        (first
          | (go_at_call 35; refine (rdot_any _ _ _ nx nx k (F ci) f (Nums.keep hnum5 kp) (Nums.keep HX.out kp) (Nat.le_refl _) (by omega) hk1 (by omega)).mono ?_; rintro e u1 ⟨v7, rfl, i7, hb7⟩; rw [HDV.out] at i7; obtain ⟨b7, A7, m7, c7, b7', A7', m7', c7', rfl, i7, -⟩ := i7.op; have y7 := hb7.size; (try simp only [World.size_alloc, size_set, size_drew, size_drewN] at y7))
          | (go_at_call 27; refine (equal_any _ (fun _ => False) _ _ dv (Bv ci) (RatL.to (i7.mono (by omega))) (RatL.to (r6.mono (by omega)))).mono ?_; rintro e u2 ⟨⟨b8, he, hb8b⟩, hb8⟩; obtain rfl : b8 = bb := (Bool.eq_iff_iff.2 (hb8b.out.trans HBB.out.symm)); subst he; clear hb8b; have y8 := hb8.size; (try simp only [World.size_alloc, size_set, size_drew, size_drewN] at y8)))
      all_goals
        have N2 : Loc u2 _ _ _ := Loc.to N1 (w' := u2)
        obtain ⟨e1, f1, -⟩ := N2.all (w' := u2)
        cases b8
        · have HV2 : Hid (¬ PT mb mb N F Bv nx f) := fun hh => by have h2 := hh.2.2.2 ci hlt; rw [HN0.out, HDV.out] at h2; have := HBB.out.2 h2; cases this
          clear HBB
          go_wp2_with fail
          go_ret
          exact ⟨Tells.no HV2.out, bel⟩
        · have HE := Lib.hid (HBB.out.1 rfl)
          clear HBB
          go_wp2_with fail
          go_roundw
          case rel =>
            refine ⟨ci + 1, by omega, by go_num, Lib.hid (fun i hi => ?_), bel, Loc.to N1⟩
            by_cases hic : i < ci
            · exact hall.out i hic
            · obtain rfl : i = ci := by omega
              rw [HDV.out]; exact HE.out
          case measure => simp only [intOf]; omega
    · obtain rfl : ci = mb := by omega
      go_wp2_with fail
      go_ret
      exact ⟨Tells.yes ⟨HV.out, by rw [HN0.out], HP.out, by rw [HN0.out]; exact hall.out⟩, hBB⟩
end
end Go.Proofs.YtpeglenapmkdfaaGreat

/- The reference: CheckFarkas, CheckResult. -/
namespace Go.Proofs.YtpeglenapmkdfaaGreat
open Go.RowKit
attribute [local go_sem ↓] Go.wp_at_zero Go.wp_at_succ

section
variable {m mb nx ny k : Nat} {N : Nat → Nat} {F : Nat → Nat → Rat} {f y Bv : Nat → Rat}

set_option maxHeartbeats 8000000 in
theorem rcheckFarkas_any (w : World) (vs vy : Value) (hS : Sys k w vs m mb N F Bv) (hy : Nums k w (fun _ => False) vy ny y) (hk1 : 1 ≤ k) (hk : k ≤ 2000) :
    Calls Tryz.prog 19 #[vs, vy] w fun e w' => Tells (FK m mb N F Bv ny y) e ∧ Below w.heap.size w w' := by
  obtain ⟨A, cA, B, d, rfl, hA, hB⟩ := hS
  have HA := Lib.hid hA
  have HB := Lib.hid hB
  have HY := Lib.hid hy
  obtain ⟨C, c3, rfl, hy, l3, l4⟩ := hy.op
  have L := made1 w #[.slice A m cA, .slice B mb d] 25
  go_enter Tryz.func19, Tryz.ntmps19
  go_wp2_with fail
  refine (rvalid_any _ _ _ m mb k N F Bv (Mat.keep HA.out kp) (Nums.keep HB.out kp)).mono ?_
  rintro e w1 ⟨⟨b, rfl, hb⟩, hb1⟩
  have z1 := sz1 hb1
  obtain ⟨e1, f1, -⟩ := L.all (w' := w1)
  cases b
  · have HV : Hid (¬ FK m mb N F Bv ny y) := fun h => by have := hb.out.2 h.1; cases this
    clear hb hA hB hy
    go_wp2_with fail
    go_ret
    exact ⟨Tells.no HV.out, bel⟩
  have HV : Hid (VS m mb N) := hb.out.1 rfl
  clear hb
  obtain ⟨v1, v2, rfl, v4, v5, v6⟩ := HV.out
  by_cases hny : ny ≠ mb
  · have HV2 : Hid (¬ FK mb mb N F Bv ny y) := fun h => hny h.2.1
    have h4 : ((ny : Int) == (mb : Int)) = false := beq_eq_false_iff_ne.2 (by omega)
    have h5 : ((ny : Int) != (mb : Int)) = true := bne_iff_ne.2 (by omega)
    clear hA hB hy v6
    go_wp2_with fail
    go_ret
    exact ⟨Tells.no HV2.out, bel⟩
  obtain rfl : ny = mb := Classical.not_not.1 hny
  obtain ⟨a, D, dd, rfl, hab, -, hcell, hnum, l7, l8⟩ := Mat.at hA (show 0 < ny by omega)
  have e0 : a.add 0 = a := by simp [Addr.add]
  rw [e0] at hcell
  have HCELL : Hid (∀ W, Below w.heap.size w W → W.cell? a = some (.slice D (N 0) dd)) := fun W hW => cell_keep (X := fun _ => False) hcell hab id (.of_below hW)
  have q0 : (0 : Int) < (ny : Int) := by omega
  have HN := Lib.hid v6
  obtain ⟨n, hnn⟩ : ∃ n, N 0 = n := ⟨_, rfl⟩
  rw [hnn] at HCELL hnum l7 v4 v5
  have HN0 := Lib.hid hnn
  have HD : Hid (∀ q : Nat → Rat, (∀ i, i < ny → Rsz k (q i)) → Rsz 900000 (sm ny (fun i => y i * q i))) := fun q hq => dot_rsz (HY.out.rsz hk1) hq (by omega) hk
  have HR : Hid (∀ i, i < ny → Rsz k (Bv i)) := HB.out.rsz hk1
  clear hA hB hy v6 hny hcell hnn
  obtain ⟨dv, hdv⟩ : ∃ q, sm ny (fun i => y i * Bv i) = q := ⟨_, rfl⟩
  have HDV := Lib.hid hdv
  have HDS : Hid (Rsz 900000 dv) := by show Rsz _ _; rw [← hdv]; exact HD.out Bv HR.out
  obtain ⟨sv0, hsv0⟩ : ∃ s, dv.num.sign = s := ⟨_, rfl⟩
  have HSV0 := Lib.hid hsv0
  have HSN0 : Hid (sv0 < 0 ↔ dv < 0) := by show _ ↔ _; rw [← hsv0]; exact sign_neg_iff dv
  clear hdv hsv0
  have hc3 := HCELL.out w1 bel
  go_wp2_with fail
  go_loopw [5] (fun i wr => ∃ (c : Nat), c ≤ n ∧ i = .int .i64 c ∧ Hid (∀ j, j < c → ¬ sm ny (fun i => y i * F i j) < 0) ∧ Below w.heap.size w wr ∧ Loc wr w.heap.size 25 #[.slice (some a) ny cA, .slice B ny d]) (fun i _ => n - (intOf i).toNat)
  case atStart => exact ⟨0, by omega, rfl, Lib.hid (fun i hi => absurd hi (by omega)), bel, L.to⟩
  case round =>
    obtain ⟨c6, hc, rfl, hall, hB, NL⟩ := hrel
    obtain ⟨wo, rfl⟩ : ∃ wo : World, wo = wr := ⟨_, rfl⟩
    have y5 := hB.size; (try simp only [World.size_alloc, size_set, size_drew, size_drewN] at y5)
    clear e1 f1 hc3
    obtain ⟨e1, f1, l1⟩ := NL.all (w' := wo)
    have hc3 := HCELL.out wo hB
    by_cases hlt : c6 < n
    · obtain ⟨dw, hdw⟩ : ∃ q, sm ny (fun i => y i * F i c6) = q := ⟨_, rfl⟩
      have HDW := Lib.hid hdw
      obtain ⟨sv, hsv⟩ : ∃ s, dw.num.sign = s := ⟨_, rfl⟩
      have HSV := Lib.hid hsv
      have HSN : Hid (sv < 0 ↔ dw < 0) := by show _ ↔ _; rw [← hsv]; exact sign_neg_iff dw
      clear hdw hsv
      go_wp2_with fail
      refine (rcolumn_any _ _ _ ny c6 k N F (Mat.keep HA.out kp) ⟨_, _, _, rfl⟩ (fun i hi => by rw [HN.out i hi, HN0.out]; exact hlt) (by omega)).mono ?_
      rintro e w4 ⟨u4, rfl, i4, hb4⟩
      have y4 := hb4.size; (try simp only [World.size_alloc, size_set, size_drew, size_drewN] at y4)
      obtain ⟨C4, c4, rfl, i4, l9, l10⟩ := i4.op
      go_wp2_with fail
      refine (rdot_any _ _ _ ny ny k y (fun i => F i c6) (Nums.keep HY.out kp) i4 (Nat.le_refl _) (by omega) hk1 hk).mono ?_
      rintro e w5 ⟨u5, rfl, i5, hb5⟩
      rw [HDW.out] at i5
      have y6 := hb5.size; (try simp only [World.size_alloc, size_set, size_drew, size_drewN] at y6)
      obtain ⟨b5, A5, m5, c5, b5', A5', m5', c5', rfl, i5, -⟩ := i5.op
      go_wp2_with fail
      refine (rsign_rat _ (fun _ => False) _ dw (RatL.to (i5.mono (by omega)))).mono ?_
      rintro e w6 ⟨he, hb6⟩
      rw [HSV.out] at he
      subst he
      have y7 := hb6.size; (try simp only [World.size_alloc, size_set, size_drew, size_drewN] at y7)
      have N6 : Loc w6 _ _ _ := Loc.to NL
      by_cases hneg2 : sv < 0
      · have HV2 : Hid (¬ FK ny ny N F Bv ny y) := fun h => h.2.2.2 c6 (by rw [HN0.out]; exact hlt) (by rw [HDW.out]; exact HSN.out.1 hneg2)
        clear HSN HSV
        go_wp2_with fail
        go_ret
        exact ⟨Tells.no HV2.out, bel⟩
      · have HNN : Hid (¬ dw < 0) := fun h => hneg2 (HSN.out.2 h)
        clear HSN HSV
        go_wp2_with fail
        go_roundw
        case rel =>
          refine ⟨c6 + 1, by omega, by go_num, Lib.hid (fun i hi => ?_), bel, N6⟩
          by_cases hic : i < c6
          · exact hall.out i hic
          · obtain rfl : i = c6 := by omega
            rw [HDW.out]; exact HNN.out
        case measure => simp only [intOf]; omega
    · obtain rfl : n = c6 := by omega
      go_wp2_with fail
      refine (rdot_any _ _ _ ny ny k y Bv (Nums.keep HY.out kp) (Nums.keep HB.out kp) (Nat.le_refl _) (by omega) hk1 hk).mono ?_
      rintro e w2 ⟨u2, rfl, i2, hb2⟩
      rw [HDV.out] at i2
      have y2 := hb2.size; (try simp only [World.size_alloc, size_set, size_drew, size_drewN] at y2)
      obtain ⟨b2, A2, m2, c2, b2', A2', m2', c2', rfl, i2, -⟩ := i2.op
      go_wp2_with fail
      refine (rsign_rat _ (fun _ => False) _ dv (RatL.to (i2.mono (by omega)))).mono ?_
      rintro e w3 ⟨he, hb3⟩
      rw [HSV0.out] at he
      subst he
      have y3 := hb3.size; (try simp only [World.size_alloc, size_set, size_drew, size_drewN] at y3)
      by_cases hneg : sv0 < 0
      · have HV2 : Hid (FK ny ny N F Bv ny y) := ⟨HV.out, rfl, by rw [HDV.out]; exact HSN0.out.1 hneg, by rw [HN0.out]; exact hall.out⟩
        clear HSN0 HSV0
        go_wp2_with fail
        go_ret
        exact ⟨Tells.yes HV2.out, bel⟩
      · have HV2 : Hid (¬ FK ny ny N F Bv ny y) := fun h => hneg (HSN0.out.2 (by rw [← HDV.out]; exact h.2.2.1))
        clear HSN0 HSV0
        go_wp2_with fail
        go_ret
        refine ⟨?_, bel⟩
        first
          | exact Tells.no HV2.out
          | (simp; first | exact Tells.no HV2.out | (rw [decide_eq_false (by omega)]; exact Tells.no HV2.out))

set_option maxHeartbeats 4000000 in
theorem rcheckResult_any (w : World) (vs vx vy : Value) (feas : Bool) (hS : Sys k w vs m mb N F Bv) (hx : Nums k w (fun _ => False) vx nx f) (hy : Nums k w (fun _ => False) vy ny y) (hk1 : 1 ≤ k) (hk : k ≤ 2000) :
    Calls Tryz.prog 29 #[vs, .agg #[.bool feas, vx, vy]] w fun e w' => Tells (RS feas m mb N F Bv nx f ny y) e ∧ Below w.heap.size w w' := by
  have HS := Lib.hid hS
  obtain ⟨A, c, B, d, rfl, hA, hB⟩ := hS
  have HX := Lib.hid hx
  have HY := Lib.hid hy
  obtain ⟨C, c3, rfl, hx, l3, l4⟩ := hx.op
  obtain ⟨E, c4, rfl, hy, l5, l6⟩ := hy.op
  have L := made1 w #[.slice A m c, .slice B mb d] 25
  clear hA hB hx hy
  cases feas
  · by_cases h0 : nx ≠ 0
    · have HV : Hid (¬ RS false m mb N F Bv nx f ny y) := fun h => by
        rcases h with ⟨h, _⟩ | ⟨_, h, _⟩
        · cases h
        · exact h0 h
      have h4 : ((nx : Int) == 0) = false := beq_eq_false_iff_ne.2 (by omega)
      go_enter Tryz.func29, Tryz.ntmps29
      go_wp2_with fail
      go_ret
      exact ⟨Tells.no HV.out, bel⟩
    · obtain rfl : nx = 0 := Classical.not_not.1 h0
      go_enter Tryz.func29, Tryz.ntmps29
      go_wp2_with fail
      refine (rcheckFarkas_any (y := y) (ny := ny) _ _ _ (Sys.keep HS.out kp) (Nums.keep HY.out kp) hk1 hk).mono ?_
      rintro e w1 ⟨⟨b, rfl, hb⟩, hb1⟩
      obtain ⟨z1, z2⟩ := sz2 hb1
      cases b
      · have HV : Hid (¬ RS false m mb N F Bv 0 f ny y) := fun h => by
          rcases h with ⟨h, _⟩ | ⟨_, _, h⟩
          · cases h
          · have := hb.out.2 h; cases this
        clear hb
        go_wp2_with fail
        go_ret
        exact ⟨Tells.no HV.out, bel⟩
      · have HV : Hid (RS false m mb N F Bv 0 f ny y) := .inr ⟨rfl, rfl, hb.out.1 rfl⟩
        clear hb
        go_wp2_with fail
        go_ret
        exact ⟨Tells.yes HV.out, bel⟩
  · by_cases h0 : ny ≠ 0
    · have HV : Hid (¬ RS true m mb N F Bv nx f ny y) := fun h => by
        rcases h with ⟨_, h, _⟩ | ⟨h, _⟩
        · exact h0 h
        · cases h
      have h4 : ((ny : Int) == 0) = false := beq_eq_false_iff_ne.2 (by omega)
      go_enter Tryz.func29, Tryz.ntmps29
      go_wp2_with fail
      go_ret
      exact ⟨Tells.no HV.out, bel⟩
    · obtain rfl : ny = 0 := Classical.not_not.1 h0
      go_enter Tryz.func29, Tryz.ntmps29
      go_wp2_with fail
      refine (rcheckPoint_any (f := f) (nx := nx) _ _ _ (Sys.keep HS.out kp) (Nums.keep HX.out kp) hk1 hk).mono ?_
      rintro e w1 ⟨⟨b, rfl, hb⟩, hb1⟩
      obtain ⟨z1, z2⟩ := sz2 hb1
      cases b
      · have HV : Hid (¬ RS true m mb N F Bv nx f 0 y) := fun h => by
          rcases h with ⟨_, _, h⟩ | ⟨h, _⟩
          · have := hb.out.2 h; cases this
          · cases h
        clear hb
        go_wp2_with fail
        go_ret
        exact ⟨Tells.no HV.out, bel⟩
      · have HV : Hid (RS true m mb N F Bv nx f 0 y) := .inl ⟨rfl, rfl, hb.out.1 rfl⟩
        clear hb
        go_wp2_with fail
        go_ret
        exact ⟨Tells.yes HV.out, bel⟩
end
end Go.Proofs.YtpeglenapmkdfaaGreat

