/- Contracts of the functions that the statements reach, part 37. -/
import Derived.Test.YtpeglenapmkdfaaGreatRows
import Derived.Test.YtpeglenapmkdfaaGreatM21
import Derived.Test.YtpeglenapmkdfaaGreatM33
set_option linter.unusedSimpArgs false
set_option linter.unusedVariables false

/- CheckOptimum of the program. -/
namespace Go.Proofs.YtpeglenapmkdfaaGreat
open Go.RowKit
attribute [local go_sem ↓] Go.wp_at_zero Go.wp_at_succ

section
variable {m mb nx ny nr nc k : Nat} {N : Nat → Nat} {F : Nat → Nat → Rat} {f y r Bv kc : Nat → Rat} {val : Rat}
theorem op_0 (hV : VS m mb N) (hc : nc = N 0) : OP 0 m mb N F Bv nc kc nx f ny y nr r val ↔ OP0 m mb N F Bv nx ny y nr val := by
  unfold OP
  constructor
  · rintro ⟨_, _, ⟨_, h⟩ | ⟨h, _⟩ | ⟨h, _⟩⟩
    · exact h
    · exact absurd h (by decide)
    · exact absurd h (by decide)
  · exact fun h => ⟨hV, hc, .inl ⟨rfl, h⟩⟩
theorem op_1 (hV : VS m mb N) (hc : nc = N 0) : OP 1 m mb N F Bv nc kc nx f ny y nr r val ↔ OP1 m mb N F Bv kc nx f ny nr r val := by
  unfold OP
  constructor
  · rintro ⟨_, _, ⟨h, _⟩ | ⟨_, h⟩ | ⟨h, _⟩⟩
    · exact absurd h (by decide)
    · exact h
    · exact absurd h (by decide)
  · exact fun h => ⟨hV, hc, .inr (.inl ⟨rfl, h⟩)⟩
theorem op_2 (hV : VS m mb N) (hc : nc = N 0) : OP 2 m mb N F Bv nc kc nx f ny y nr r val ↔ OP2 m mb N F Bv kc nx f ny y nr val := by
  unfold OP
  constructor
  · rintro ⟨_, _, ⟨h, _⟩ | ⟨h, _⟩ | ⟨_, h⟩⟩
    · exact absurd h (by decide)
    · exact absurd h (by decide)
    · exact h
  · exact fun h => ⟨hV, hc, .inr (.inr ⟨rfl, h⟩)⟩
theorem zR4_R (w : World) (X : Nat → Prop) : RatR w X zR4.v false [] false [] := ⟨none, 0, none, 0, rfl, ⟨_, rfl, Words.nil _ _⟩, ⟨_, rfl, Words.nil _ _⟩⟩
theorem op_no {kind : Int} (h0 : kind ≠ 0) (h1 : kind ≠ 1) (h2 : kind ≠ 2) : ¬ OP kind m mb N F Bv nc kc nx f ny y nr r val := by
  rintro ⟨_, _, ⟨h, _⟩ | ⟨h, _⟩ | ⟨h, _⟩⟩
  · exact h0 h
  · exact h1 h
  · exact h2 h
end

section
variable {m mb nx ny nr nc k : Nat} {N : Nat → Nat} {F : Nat → Nat → Rat} {f y r Bv kc : Nat → Rat} {val : Rat}
set_option maxRecDepth 100000 in
set_option maxHeartbeats 16000000 in
theorem checkOptimum_any (w : World) (vs vc vx vy vr : Value) (kind : Int) (b1 b1' : Bool) (A1 A1' : Option Addr) (m1 c1 m1' c1' : Nat) (hS : Sys k w vs m mb N F Bv) (hc : Nums k w (fun _ => False) vc nc kc)
    (hx : Nums k w (fun _ => False) vx nx f) (hy : Nums k w (fun _ => False) vy ny y) (hr : Nums k w (fun _ => False) vr nr r) (hv : RatL k w (fun _ => False) (.agg #[.bool b1, .slice A1 m1 c1, .bool b1', .slice A1' m1' c1']) val) (hk1 : 2 ≤ k) (hk : k ≤ 2000) :
    Calls Tryz.prog 33 #[vs, vc, .agg #[.int .i64 kind, vx, vy, vr, .bool b1, .slice A1 m1 c1, .bool b1', .slice A1' m1' c1']] w fun e w' => Tells (OP kind m mb N F Bv nc kc nx f ny y nr r val) e ∧ Below w.heap.size w w' := by
  have HS := Lib.hid hS
  obtain ⟨A, c, B, d, rfl, hA, hB⟩ := hS
  have HA := Lib.hid hA
  have HBv := Lib.hid hB
  have HC := Lib.hid hc
  have HX := Lib.hid hx
  have HY := Lib.hid hy
  have HR := Lib.hid hr
  obtain ⟨C0, c0, rfl, hc, l1, l2⟩ := hc.op
  obtain ⟨C, c3, rfl, hx, l3, l4⟩ := hx.op
  obtain ⟨E, c4, rfl, hy, l5, l6⟩ := hy.op
  obtain ⟨G, c5, rfl, hr, l7, l8⟩ := hr.op
  have L1 := made1 w #[.slice A m c, .slice B mb d] 25
  have L2 := made2 w (.cells #[.slice A m c, .slice B mb d] 25) #[.int .i64 kind, .slice C nx c3, .slice E ny c4, .slice G nr c5, .bool b1, .slice A1 m1 c1, .bool b1', .slice A1' m1' c1'] 51
  obtain ⟨sg, hsg⟩ : ∃ s, val.num.sign = s := ⟨_, rfl⟩
  have HSG := Lib.hid hsg
  have HSV : Hid (sg = 0 ↔ val = 0) := by show _ ↔ _; rw [← hsg]; exact (by rw [Int.sign_eq_zero_iff_zero, Rat.num_eq_zero])
  clear hx hy hr hB hc hsg
  go_enter Tryz.func33, Tryz.ntmps33
  go_wp2_with fail
  refine (valid_any _ _ _ m mb k N F Bv (Mat.keep HA.out kp) (Nums.keep HBv.out kp)).mono ?_
  rintro e w1 ⟨⟨b, rfl, hb⟩, hb1⟩
  obtain ⟨z1, z2⟩ := sz2 hb1
  obtain ⟨e1, f1, -⟩ := L1.all (w' := w1)
  obtain ⟨e2, f2, -⟩ := L2.all (w' := w1)
  cases b
  · have HV : Hid (¬ OP kind m mb N F Bv nc kc nx f ny y nr r val) := fun h => by have := hb.out.2 h.1; cases this
    clear hb hA
    go_wp2_with fail
    go_ret
    exact ⟨Tells.no HV.out, bel⟩
  have HV : Hid (VS m mb N) := hb.out.1 rfl
  clear hb
  obtain ⟨v1, v2, rfl, v4, v5, v6⟩ := HV.out
  obtain ⟨a, D, dd, rfl, hab, -, hcell, hnum, l9, l10⟩ := Mat.at hA (show 0 < mb by omega)
  have e0 : a.add 0 = a := by simp [Addr.add]
  rw [e0] at hcell
  have q0 : (0 : Int) < (mb : Int) := by omega
  obtain ⟨n, hnn⟩ : ∃ n, N 0 = n := ⟨_, rfl⟩
  rw [hnn] at hcell hnum l9 v4 v5 v6
  have HN := Lib.hid v6
  have HN0 := Lib.hid hnn
  clear hA v6 hnn hnum
  have hcw : w1.cell? a = some (.slice D n dd) := cell_keep (X := fun _ => False) hcell hab id (.of_below (bel : Below w.heap.size w w1))
  by_cases hnc : nc ≠ n
  · have HV2 : Hid (¬ OP kind mb mb N F Bv nc kc nx f ny y nr r val) := fun h => hnc (by rw [← HN0.out]; exact h.2.1)
    have h4 : ((nc : Int) == (n : Int)) = false := beq_eq_false_iff_ne.2 (by omega)
    have h5 : ((nc : Int) != (n : Int)) = true := bne_iff_ne.2 (by omega)
    go_wp2_with fail
    go_ret
    exact ⟨Tells.no HV2.out, bel⟩
  obtain rfl : nc = n := Classical.not_not.1 hnc
  clear hnc hcell
  by_cases k0 : kind = 0
  · subst k0
    have HOP : Hid (OP 0 mb mb N F Bv nc kc nx f ny y nr r val ↔ OP0 mb mb N F Bv nx ny y nr val) := op_0 HV.out HN0.out.symm
    by_cases hnx : nx ≠ 0
    · have HV2 : Hid (¬ OP 0 mb mb N F Bv nc kc nx f ny y nr r val) := fun h => hnx (HOP.out.1 h).2.1
      have h4 : ((nx : Int) == 0) = false := beq_eq_false_iff_ne.2 (by omega)
      clear HOP
      go_wp2_with fail
      go_ret
      exact ⟨Tells.no HV2.out, bel⟩
    obtain rfl : nx = 0 := Classical.not_not.1 hnx
    by_cases hnr : nr ≠ 0
    · have HV2 : Hid (¬ OP 0 mb mb N F Bv nc kc 0 f ny y nr r val) := fun h => hnr (HOP.out.1 h).2.2.1
      have h4 : ((nr : Int) == 0) = false := beq_eq_false_iff_ne.2 (by omega)
      clear HOP
      go_wp2_with fail
      go_ret
      exact ⟨Tells.no HV2.out, bel⟩
    obtain rfl : nr = 0 := Classical.not_not.1 hnr
    clear hnx hnr
    go_wp2_with fail
    refine (sign_rat _ (fun _ => False) k _ val (RatL.to hv)).mono ?_
    rintro e w2 ⟨he, hb2⟩
    rw [HSG.out] at he
    subst he
    have y2 := hb2.size; (try simp only [World.size_alloc, size_set, size_drew, size_drewN] at y2)
    clear e1 f1 e2 f2 hcw
    obtain ⟨e1, f1, -⟩ := L1.all (w' := w2)
    obtain ⟨e2, f2, -⟩ := L2.all (w' := w2)
    by_cases hs0 : sg ≠ 0
    · have HV2 : Hid (¬ OP 0 mb mb N F Bv nc kc 0 f ny y 0 r val) := fun h => hs0 (HSV.out.2 (HOP.out.1 h).2.2.2)
      have h4 : (sg == 0) = false := beq_eq_false_iff_ne.2 hs0
      clear HOP HSV HSG
      go_wp2_with fail
      go_ret
      exact ⟨Tells.no HV2.out, bel⟩
    obtain rfl : sg = 0 := Classical.not_not.1 hs0
    have HV0 := Lib.hid (HSV.out.1 rfl)
    clear hs0 HSV HSG
    go_wp2_with fail
    refine (checkFarkas_any (y := y) (ny := ny) _ _ _ (Sys.keep HS.out kp) (Nums.keep HY.out kp) (by omega) hk).mono ?_
    rintro e w3 ⟨⟨b, rfl, hb⟩, hb3⟩
    have y3 := hb3.size; (try simp only [World.size_alloc, size_set, size_drew, size_drewN] at y3)
    cases b
    · have HV2 : Hid (¬ OP 0 mb mb N F Bv nc kc 0 f ny y 0 r val) := fun h => by have := hb.out.2 (HOP.out.1 h).1; cases this
      clear hb HOP
      go_wp2_with fail
      go_ret
      exact ⟨Tells.no HV2.out, bel⟩
    · have HV2 : Hid (OP 0 mb mb N F Bv nc kc 0 f ny y 0 r val) := HOP.out.2 ⟨hb.out.1 rfl, rfl, rfl, HV0.out⟩
      clear hb HOP
      go_wp2_with fail
      go_ret
      exact ⟨Tells.yes HV2.out, bel⟩
  by_cases k1 : kind = 1
  · subst k1
    have HOP : Hid (OP 1 mb mb N F Bv nc kc nx f ny y nr r val ↔ OP1 mb mb N F Bv kc nx f ny nr r val) := op_1 HV.out HN0.out.symm
    go_wp2_with (at_make; refine wpList_makeR _ rfl _ _ rfl w.heap.size mb rfl rfl rfl rfl (by omega) (by omega) ?_)
    intro w7 K7 hg7
    have hb7 : Below w1.heap.size w1 w7 := (Below.refl _ _).grown hg7 (Nat.le_refl _) (fun k hk => by cases hk)
    have y7 := hb7.size; (try simp only [World.size_alloc, size_set, size_drew, size_drewN] at y7)
    have N1 : Loc w7 _ _ _ := L1.to
    have N2 : Loc w7 _ _ _ := L2.to
    have hbw7 : Below w.heap.size w w7 := bel
    have y8 := K7.lt
    clear e1 f1 e2 f2 hcw
    go_wp2_with fail
    go_loopw [57] (fun i wr => ∃ (ci : Nat) (rs : List R4), ci ≤ mb ∧ i = .int .i64 ci ∧ Line wr w1.heap.size rs ∧ rs.length = mb ∧ ValL k wr (fun b => b = w1.heap.size) rs (fun _ => 0) ∧ Below w.heap.size w wr ∧
        Loc wr w.heap.size 25 #[.slice (some a) mb c, .slice B mb d] ∧ Loc wr (w.heap.size + 1) 51 #[.int .i64 1, .slice C nx c3, .slice E ny c4, .slice G nr c5, .bool b1, .slice A1 m1 c1, .bool b1', .slice A1' m1' c1']) (fun i _ => mb - (intOf i).toNat)
    case atStart =>
      refine ⟨0, _, by omega, rfl, K7, by simp, fun i q hq => ?_, hbw7, N1, N2⟩
      have hq' := List.getElem?_eq_some_iff.1 hq
      obtain ⟨h1, h2⟩ := hq'
      rw [List.getElem_replicate] at h2
      subst h2
      exact ⟨_, _, _, _, zR4_R _ _, Nat.zero_le _, Nat.zero_le _, rfl⟩
    case round =>
      clear N1 N2 L1 L2 hbw7
      obtain ⟨c6, rs, hc6, rfl, K8, hrl, hvz, hB8, N1, N2⟩ := hrel
      obtain ⟨wo, rfl⟩ : ∃ wo : World, wo = wr := ⟨_, rfl⟩
      clear K7
      have y9 := hB8.size; (try simp only [World.size_alloc, size_set, size_drew, size_drewN] at y9)
      have q1 := Loc.lt N1
      have q2 := Loc.lt N2
      have q3 := K8.lt
      by_cases hlt : c6 < mb
      · go_wp2_with fail
        refine (zero_lin _).mono ?_
        rintro e u1 ⟨v9, rfl, i9, hb9⟩
        obtain ⟨b9, A9, m9, c9, b9', A9', m9', c9', rfl, i9, -, -⟩ := i9.op
        have y10 := hb9.size; (try simp only [World.size_alloc, size_set, size_drew, size_drewN] at y10)
        obtain ⟨qr, hqr⟩ : ∃ q, rs[c6]? = some q := ⟨_, List.getElem?_eq_getElem (by omega)⟩
        have K9 : Line u1 w1.heap.size rs := Loc.to K8
        obtain ⟨g0, g1, g2, g3⟩ := K9.cells hqr
        have f9 := K9.frz
        go_wp2_with fail
        go_roundw
        case rel =>
          refine ⟨c6 + 1, rs.set c6 ⟨b9, A9, m9, c9, b9', A9', m9', c9'⟩, by omega, by go_num, K9.put (by omega) ⟨b9, A9, m9, c9, b9', A9', m9', c9'⟩, by simpa using hrl, ?_, bel, Loc.to N1, Loc.to N2⟩
          refine ValL.set0 (hvz.keep kp) ?_
          have h1 := i9.weak (Y := fun b => b = w1.heap.size) (fun b _ hx => by have : b = w1.heap.size := hx; show b < wo.heap.size; omega)
          exact (RatV.len h1 ((rsz_int (z := 0) (by decide) (by decide)).mono hk1)).keep kp
        case measure => simp only [intOf]; omega
      · obtain rfl : c6 = mb := by omega
        obtain ⟨e1, f1, -⟩ := N1.all (w' := wo)
        obtain ⟨e2, f2, -⟩ := N2.all (w' := wo)
        have HNO : Hid (Nums k wo (fun _ => False) (.slice (some ⟨w1.heap.size, 0, none⟩) c6 c6) c6 (fun _ => 0)) := Line.nums K8 hvz hrl (fun _ _ h => h.elim) id (by unfold maxLen; omega)
        by_cases hny : ny ≠ 0
        · have HV2 : Hid (¬ OP 1 c6 c6 N F Bv nc kc nx f ny y nr r val) := fun h => hny (HOP.out.1 h).2.2.2.1
          have h4 : ((ny : Int) == 0) = false := beq_eq_false_iff_ne.2 (by omega)
          clear HOP
          go_wp2_with fail
          go_ret
          exact ⟨Tells.no HV2.out, bel⟩
        obtain rfl : ny = 0 := Classical.not_not.1 hny
        clear hny
        go_wp2_with fail
        refine (sign_rat _ (fun _ => False) k _ val (RatL.to hv)).mono ?_
        rintro e w2 ⟨he, hb2⟩
        rw [HSG.out] at he
        subst he
        have y2 := hb2.size; (try simp only [World.size_alloc, size_set, size_drew, size_drewN] at y2)
        clear e1 f1 e2 f2
        obtain ⟨e1, f1, -⟩ := N1.all (w' := w2)
        obtain ⟨e2, f2, -⟩ := N2.all (w' := w2)
        by_cases hs0 : sg ≠ 0
        · have HV2 : Hid (¬ OP 1 c6 c6 N F Bv nc kc nx f 0 y nr r val) := fun h => hs0 (HSV.out.2 (HOP.out.1 h).2.2.2.2)
          have h4 : (sg == 0) = false := beq_eq_false_iff_ne.2 hs0
          clear HOP HSV HSG
          go_wp2_with fail
          go_ret
          exact ⟨Tells.no HV2.out, bel⟩
        obtain rfl : sg = 0 := Classical.not_not.1 hs0
        have HV0 := Lib.hid (HSV.out.1 rfl)
        clear hs0 HSV HSG
        go_wp2_with fail
        refine (checkPoint_any (f := f) (nx := nx) _ _ _ (Sys.keep HS.out kp) (Nums.keep HX.out kp) (by omega) hk).mono ?_
        rintro e w3 ⟨⟨b, rfl, hb⟩, hb3⟩
        have y3 := hb3.size; (try simp only [World.size_alloc, size_set, size_drew, size_drewN] at y3)
        clear e1 f1 e2 f2
        obtain ⟨e1, f1, -⟩ := N1.all (w' := w3)
        obtain ⟨e2, f2, -⟩ := N2.all (w' := w3)
        cases b
        · have HV2 : Hid (¬ OP 1 c6 c6 N F Bv nc kc nx f 0 y nr r val) := fun h => by have := hb.out.2 (HOP.out.1 h).1; cases this
          clear hb HOP
          go_wp2_with fail
          go_ret
          exact ⟨Tells.no HV2.out, bel⟩
        have HPT := Lib.hid (hb.out.1 rfl)
        clear hb
        go_wp2_with fail
        refine (solves_any _ _ _ _ _ c6 nr c6 k N F r (fun _ => 0) (Mat.keep HA.out kp) ⟨_, _, _, rfl⟩ (Nums.keep HR.out kp) (Nums.keep HNO.out kp) v1 v2 (by rw [HN0.out]; exact v5) (by intro i hi; rw [HN.out i hi, HN0.out]) (Nat.le_refl _) (by omega) hk).mono ?_
        rintro e w4 ⟨⟨b, rfl, hb⟩, hb4⟩
        have y4 := hb4.size; (try simp only [World.size_alloc, size_set, size_drew, size_drewN] at y4)
        clear e1 f1 e2 f2
        obtain ⟨e1, f1, -⟩ := N1.all (w' := w4)
        obtain ⟨e2, f2, -⟩ := N2.all (w' := w4)
        cases b
        · have HV2 : Hid (¬ OP 1 c6 c6 N F Bv nc kc nx f 0 y nr r val) := fun h => by have := hb.out.2 (HOP.out.1 h).2.1; cases this
          clear hb HOP
          go_wp2_with fail
          go_ret
          exact ⟨Tells.no HV2.out, bel⟩
        have HSVr := Lib.hid (hb.out.1 rfl)
        have hnr : nr = nc := by rw [HSVr.out.1, HN0.out]
        subst hnr
        clear hb
        obtain ⟨dv, hdv⟩ : ∃ q, sm nr (fun i => kc i * r i) = q := ⟨_, rfl⟩
        have HDV := Lib.hid hdv
        have HDS : Hid (Rsz 900000 dv) := by show Rsz _ _; rw [← hdv]; exact dot_rsz (HC.out.rsz (by omega)) (HR.out.rsz (by omega)) (by omega) hk
        clear hdv
        go_wp2_with fail
        refine (dot_any _ _ _ nr nr k kc r (Nums.keep HC.out kp) (Nums.keep HR.out kp) (Nat.le_refl _) (by omega) (by omega) (by omega)).mono ?_
        rintro e w5 ⟨u5, rfl, i5, hb5⟩
        rw [HDV.out] at i5
        have y6 := hb5.size; (try simp only [World.size_alloc, size_set, size_drew, size_drewN] at y6)
        obtain ⟨b5, A5, m5, c5, b5', A5', m5', c5', rfl, i5, -, -⟩ := i5.op
        go_wp2_with fail
        refine (negative_any _ 900000 _ dv (RatL.to (i5.len HDS.out))).mono ?_
        rintro e w6 ⟨he, hb6⟩
        have y11 := hb6.size; (try simp only [World.size_alloc, size_set, size_drew, size_drewN] at y11)
        by_cases hneg : dv < 0
        · rw [decide_eq_true hneg] at he
          subst he
          have HV2 : Hid (OP 1 c6 c6 N F Bv nr kc nx f 0 y nr r val) := HOP.out.2 ⟨HPT.out, HSVr.out, by rw [HN0.out, HDV.out]; exact hneg, rfl, HV0.out⟩
          clear hneg HOP
          go_wp2_with fail
          go_ret
          exact ⟨Tells.yes HV2.out, bel⟩
        · rw [decide_eq_false hneg] at he
          subst he
          have HV2 : Hid (¬ OP 1 c6 c6 N F Bv nr kc nx f 0 y nr r val) := fun h => hneg (by have := (HOP.out.1 h).2.2.1; rw [HN0.out, HDV.out] at this; exact this)
          clear hneg HOP
          go_wp2_with fail
          go_ret
          exact ⟨Tells.no HV2.out, bel⟩
  by_cases k2 : kind = 2
  · subst k2
    have HOP : Hid (OP 2 mb mb N F Bv nc kc nx f ny y nr r val ↔ OP2 mb mb N F Bv kc nx f ny y nr val) := op_2 HV.out HN0.out.symm
    by_cases hnr : nr ≠ 0
    · have HV2 : Hid (¬ OP 2 mb mb N F Bv nc kc nx f ny y nr r val) := fun h => hnr (HOP.out.1 h).2.2.1
      have h4 : ((nr : Int) == 0) = false := beq_eq_false_iff_ne.2 (by omega)
      have h5 : ((nr : Int) != 0) = true := bne_iff_ne.2 (by omega)
      clear HOP
      go_wp2_with fail
      go_ret
      exact ⟨Tells.no HV2.out, bel⟩
    obtain rfl : nr = 0 := Classical.not_not.1 hnr
    clear hnr
    go_wp2_with fail
    refine (checkPoint_any (f := f) (nx := nx) _ _ _ (Sys.keep HS.out kp) (Nums.keep HX.out kp) (by omega) hk).mono ?_
    rintro e w3 ⟨⟨b, rfl, hb⟩, hb3⟩
    have y3 := hb3.size; (try simp only [World.size_alloc, size_set, size_drew, size_drewN] at y3)
    clear e1 f1 e2 f2 hcw
    obtain ⟨e1, f1, -⟩ := L1.all (w' := w3)
    obtain ⟨e2, f2, -⟩ := L2.all (w' := w3)
    cases b
    · have HV2 : Hid (¬ OP 2 mb mb N F Bv nc kc nx f ny y 0 r val) := fun h => by have := hb.out.2 (HOP.out.1 h).1; cases this
      clear hb HOP
      go_wp2_with fail
      go_ret
      exact ⟨Tells.no HV2.out, bel⟩
    have HPT := Lib.hid (hb.out.1 rfl)
    clear hb
    by_cases hny : ny ≠ mb
    · have HV2 : Hid (¬ OP 2 mb mb N F Bv nc kc nx f ny y 0 r val) := fun h => hny (HOP.out.1 h).2.1.1
      have h4 : ((ny : Int) == (mb : Int)) = false := beq_eq_false_iff_ne.2 (by omega)
      have h5 : ((ny : Int) != (mb : Int)) = true := bne_iff_ne.2 (by omega)
      clear HOP
      go_wp2_with fail
      go_ret
      exact ⟨Tells.no HV2.out, bel⟩
    obtain rfl : ny = mb := Classical.not_not.1 hny
    clear hny
    have HD : Hid (∀ q : Nat → Rat, (∀ i, i < ny → Rsz k (q i)) → Rsz 900000 (sm ny (fun i => y i * q i))) := fun q hq => dot_rsz (HY.out.rsz (by omega)) hq (by omega) hk
    go_wp2_with fail
    go_loopw [119] (fun i wr => ∃ (ci : Nat), ci ≤ nc ∧ i = .int .i64 ci ∧ Hid (∀ j, j < ci → ¬ kc j < sm ny (fun i => y i * F i j)) ∧ Below w.heap.size w wr ∧
        Loc wr w.heap.size 25 #[.slice (some a) ny c, .slice B ny d] ∧ Loc wr (w.heap.size + 1) 51 #[.int .i64 2, .slice C nx c3, .slice E ny c4, .slice G 0 c5, .bool b1, .slice A1 m1 c1, .bool b1', .slice A1' m1' c1']) (fun i _ => nc - (intOf i).toNat)
    case atStart => exact ⟨0, by omega, rfl, Lib.hid (fun i hi => absurd hi (by omega)), bel, L1.to, L2.to⟩
    case round =>
      clear L1 L2 e1 f1 e2 f2
      obtain ⟨ci, hci, rfl, hall, hB8, N1, N2⟩ := hrel
      obtain ⟨wo, rfl⟩ : ∃ wo : World, wo = wr := ⟨_, rfl⟩
      have y9 := hB8.size; (try simp only [World.size_alloc, size_set, size_drew, size_drewN] at y9)
      have q1 := Loc.lt N1
      have q2 := Loc.lt N2
      by_cases hlt : ci < nc
      · obtain ⟨a6, b6, A6, m6, c6, b6', A6', m6', c6', ea6, ha6, -, x0, x1, x2, x3, r6⟩ := Nums.at (Nums.keep HC.out (.of_below hB8)) hlt
        subst ea6
        have HL : Hid (∀ W, Below wo.heap.size wo W → ((W.cell? (a6.add (ci * 4)) = some (.bool b6) ∧ W.cell? ⟨(a6.add (ci * 4)).block, (a6.add (ci * 4)).off + 1, none⟩ = some (.slice A6 m6 c6)) ∧ W.cell? ⟨(a6.add (ci * 4)).block, (a6.add (ci * 4)).off + 2, none⟩ = some (.bool b6') ∧ W.cell? ⟨(a6.add (ci * 4)).block, (a6.add (ci * 4)).off + 3, none⟩ = some (.slice A6' m6' c6'))) := fun W hW => by
          refine ⟨⟨?_, ?_⟩, ?_, ?_⟩
          · exact cell_keep (X := fun _ => False) x0 (by rw [add_block]; exact ha6) id (.of_below hW)
          · exact cell_keep (X := fun _ => False) x1 (by simp only [add_block]; exact ha6) id (.of_below hW)
          · exact cell_keep (X := fun _ => False) x2 (by simp only [add_block]; exact ha6) id (.of_below hW)
          · exact cell_keep (X := fun _ => False) x3 (by simp only [add_block]; exact ha6) id (.of_below hW)
        obtain ⟨dv, hdv⟩ : ∃ q, sm ny (fun i => y i * F i ci) = q := ⟨_, rfl⟩
        have HDV := Lib.hid hdv
        obtain ⟨qq, hqq⟩ : ∃ q, rcmp dv (kc ci) = q := ⟨_, rfl⟩
        have HQ : Hid (0 < qq ↔ kc ci < dv) := by
          show _ ↔ _
          rw [← hqq]
          have := rcmp_le dv (kc ci)
          rw [← Rat.not_le, ← this]; omega
        have HQQ := Lib.hid hqq
        clear x0 x1 x2 x3 hdv hqq
        go_wp2_with fail
        go_region_held3 (fun W => ((W.cell? ⟨w.heap.size, 0, none⟩ = some (.slice (some a) ny c) ∧ W.cell? ⟨w.heap.size, 1, none⟩ = some (.slice B ny d)) ∧ W.cell? ⟨w.heap.size + 1, 2, none⟩ = some (.slice E ny c4)) ∧ ((W.cell? (a6.add (ci * 4)) = some (.bool b6) ∧ W.cell? ⟨(a6.add (ci * 4)).block, (a6.add (ci * 4)).off + 1, none⟩ = some (.slice A6 m6 c6)) ∧ W.cell? ⟨(a6.add (ci * 4)).block, (a6.add (ci * 4)).off + 2, none⟩ = some (.bool b6') ∧ W.cell? ⟨(a6.add (ci * 4)).block, (a6.add (ci * 4)).off + 3, none⟩ = some (.slice A6' m6' c6')))
          (exact ⟨⟨⟨Loc.c 0 N1, Loc.c 1 N1⟩, Loc.c 2 N2⟩, HL.out _ bel⟩)
          (first
            | (go_at_call 44; refine (column_any _ _ _ ny ci k N F (Mat.keep HA.out kp) ⟨_, _, _, rfl⟩ (fun i hi => by rw [HN.out i hi]; exact hlt) (by omega)).mono ?_; rintro e u4 ⟨v9, rfl, i4, hb4⟩; have HDS4 : Hid (Rsz 900000 dv) := (by show Rsz _ _; rw [← HDV.out]; exact HD.out _ (i4.rsz (by omega))); obtain ⟨C4, c10, rfl, i4, -, -⟩ := i4.op; have y4 := hb4.size; (try simp only [World.size_alloc, size_set, size_drew, size_drewN] at y4))
            | (go_at_call 43; refine (dot_any _ _ _ ny ny k y (fun i => F i ci) (Nums.keep HY.out kp) (Nums.keep i4 kp) (Nat.le_refl _) (by omega) (by omega) (by omega)).mono ?_; rintro e u5 ⟨v10, rfl, i7, hb7⟩; rw [HDV.out] at i7; obtain ⟨b7, A7, m7, c7, b7', A7', m7', c7', rfl, i7, -, -⟩ := i7.op; have y7 := hb7.size; (try simp only [World.size_alloc, size_set, size_drew, size_drewN] at y7))
            | (go_at_call 67; refine (ratcompare_any _ (fun _ => False) _ _ dv (kc ci) (RatL.to ((i7.len HDS4.out).mono (by omega))) (RatL.to (r6.mono (by omega)))).mono ?_; rintro e u6 ⟨he, hb8⟩; rw [HQQ.out] at he; subst he; have y8 := hb8.size; (try simp only [World.size_alloc, size_set, size_drew, size_drewN] at y8)))
        all_goals
          by_cases hq0 : 0 < qq
          · have HV2 : Hid (¬ OP 2 ny ny N F Bv nc kc nx f ny y 0 r val) := fun hh => (HOP.out.1 hh).2.1.2 ci (by rw [HN0.out]; exact hlt) (by rw [HDV.out]; exact HQ.out.1 hq0)
            clear HQ HQQ HOP
            go_wp2_with fail
            go_ret
            exact ⟨Tells.no HV2.out, bel⟩
          · have HE := Lib.hid (fun h => hq0 (HQ.out.2 h))
            clear HQ HQQ
            go_wp2_with fail
            go_roundw
            case rel =>
              refine ⟨ci + 1, by omega, by go_num, Lib.hid (fun i hi => ?_), bel, Loc.to N1, Loc.to N2⟩
              by_cases hic : i < ci
              · exact hall.out i hic
              · obtain rfl : i = ci := by omega
                rw [HDV.out]; exact HE.out
            case measure => simp only [intOf]; omega
      · obtain rfl : ci = nc := by omega
        have hnx : nx = ci := by rw [HPT.out.2.1, HN0.out]
        subst hnx
        obtain ⟨dv, hdv⟩ : ∃ q, sm nx (fun i => kc i * f i) = q := ⟨_, rfl⟩
        have HDV := Lib.hid hdv
        have HDS : Hid (Rsz 900000 dv) := by show Rsz _ _; rw [← hdv]; exact dot_rsz (HC.out.rsz (by omega)) (HX.out.rsz (by omega)) (by omega) hk
        obtain ⟨dw, hdw⟩ : ∃ q, sm ny (fun i => y i * Bv i) = q := ⟨_, rfl⟩
        have HDW := Lib.hid hdw
        have HDSW : Hid (Rsz 900000 dw) := by show Rsz _ _; rw [← hdw]; exact HD.out _ (HBv.out.rsz (by omega))
        obtain ⟨q1v, hq1v⟩ : ∃ q, rcmp dv val = q := ⟨_, rfl⟩
        have HQ1 : Hid (q1v = 0 ↔ dv = val) := by show _ ↔ _; rw [← hq1v]; exact rcmp_zero dv val
        have HQQ1 := Lib.hid hq1v
        obtain ⟨q2v, hq2v⟩ : ∃ q, rcmp dw val = q := ⟨_, rfl⟩
        have HQ2 : Hid (q2v = 0 ↔ dw = val) := by show _ ↔ _; rw [← hq2v]; exact rcmp_zero dw val
        have HQQ2 := Lib.hid hq2v
        clear hdv hdw hq1v hq2v
        by_cases hz1 : q1v ≠ 0
        · have HV2 : Hid (¬ OP 2 ny ny N F Bv nx kc nx f ny y 0 r val) := fun hh => hz1 (HQ1.out.2 (by have := (HOP.out.1 hh).2.2.2.1; rw [HN0.out, HDV.out] at this; exact this))
          have hqf : (q1v == 0) = false := beq_eq_false_iff_ne.2 hz1
          clear HQ1 HOP HQ2
          go_wp2_with fail
          refine wp_region_noPanic ?_
          refine wp_region_held_drew (S := (fun W => ((W.cell? ⟨w.heap.size, 1, none⟩ = some (.slice B ny d) ∧ W.cell? ⟨w.heap.size + 1, 1, none⟩ = some (.slice C nx c3) ∧ W.cell? ⟨w.heap.size + 1, 2, none⟩ = some (.slice E ny c4)) ∧ (W.cell? ⟨w.heap.size + 1, 4, none⟩ = some (.bool b1) ∧ W.cell? ⟨w.heap.size + 1, 5, none⟩ = some (.slice A1 m1 c1)) ∧ W.cell? ⟨w.heap.size + 1, 6, none⟩ = some (.bool b1') ∧ W.cell? ⟨w.heap.size + 1, 7, none⟩ = some (.slice A1' m1' c1')))) (by kernel_rfl) ?_ (fun hHeld => ?_)
          · exact ⟨⟨Loc.c 1 N1, Loc.c 1 N2, Loc.c 2 N2⟩, ⟨Loc.c 4 N2, Loc.c 5 N2⟩, Loc.c 6 N2, Loc.c 7 N2⟩
          refine wpAnyH_take (i := 0) (v := ?_) rfl (by kernel_rfl) (by kernel_rfl) (by kernel_rfl) (fun _ _ _ h => h) (Or.inl ⟨by kernel_rfl, ?_⟩) (by assumption) ?_
          rotate_left 1
          · (intro w hSw; (try dsimp only at hSw); first | (go_simp; done) | (go_simp; with_reducible rfl))
          (try simp only [Act.put, List.getElem_toArray, List.getElem_cons_succ, List.getElem_cons_zero, List.setIfInBounds_toArray, List.set_cons_zero, List.set_cons_succ])
          refine wpAnyH_take (i := 1) (v := ?_) rfl (by kernel_rfl) (by kernel_rfl) (by kernel_rfl) (fun _ _ _ h => h) (Or.inl ⟨by kernel_rfl, ?_⟩) (by assumption) ?_
          rotate_left 1
          · (intro w hSw; (try dsimp only at hSw); first | (go_simp; done) | (go_simp; with_reducible rfl))
          (try simp only [Act.put, List.getElem_toArray, List.getElem_cons_succ, List.getElem_cons_zero, List.setIfInBounds_toArray, List.set_cons_zero, List.set_cons_succ])
          refine wpAnyH_take (i := 2) (v := ?_) rfl (by kernel_rfl) (by kernel_rfl) (by kernel_rfl) (fun _ _ _ h => h) (Or.inl ⟨by kernel_rfl, ?_⟩) (by assumption) ?_
          rotate_left 1
          · (intro w hSw; (try dsimp only at hSw); first | (go_simp; done) | (go_simp; with_reducible rfl))
          (try simp only [Act.put, List.getElem_toArray, List.getElem_cons_succ, List.getElem_cons_zero, List.setIfInBounds_toArray, List.set_cons_zero, List.set_cons_succ])
          refine wpAnyH_take (i := 4) (v := ?_) rfl (by kernel_rfl) (by kernel_rfl) (by kernel_rfl) (fun _ _ _ h => h) (Or.inl ⟨by kernel_rfl, ?_⟩) (by assumption) ?_
          rotate_left 1
          · (intro w hSw; (try dsimp only at hSw); first | (go_simp; done) | (go_simp; with_reducible rfl))
          (try simp only [Act.put, List.getElem_toArray, List.getElem_cons_succ, List.getElem_cons_zero, List.setIfInBounds_toArray, List.set_cons_zero, List.set_cons_succ])
          refine wpAnyH_take (i := 5) (v := ?_) rfl (by kernel_rfl) (by kernel_rfl) (by kernel_rfl) (fun _ _ _ h => h) (Or.inl ⟨by kernel_rfl, ?_⟩) (by assumption) ?_
          rotate_left 1
          · (intro w hSw; (try dsimp only at hSw); first | (go_simp; done) | (go_simp; with_reducible rfl))
          (try simp only [Act.put, List.getElem_toArray, List.getElem_cons_succ, List.getElem_cons_zero, List.setIfInBounds_toArray, List.set_cons_zero, List.set_cons_succ])
          refine wpAnyH_ready (rs := [3]) (by kernel_rfl) (by simp) ?_
          refine AllReadyH.cons rfl (fun K hK => ?_) AllReadyH.nil
          go_simp
          refine (dot_any _ _ _ nx nx k kc f (Nums.keep HC.out kp) (Nums.keep HX.out kp) (Nat.le_refl _) (by omega) (by omega) (by omega)).mono ?_
          rintro e u5 ⟨v10, rfl, i7, hb7⟩
          rw [HDV.out] at i7
          obtain ⟨b7, A7, m7, c7, b7', A7', m7', c7', rfl, i7, -, -⟩ := i7.op
          have y7 := hb7.size; (try simp only [World.size_alloc, size_set, size_drew, size_drewN] at y7)
          (try go_wp2_with fail)
          refine hK.out _ _ ?_ (fun hHeld => ?_)
          · (try dsimp only)
            exact ⟨⟨Loc.c 1 N1, Loc.c 1 N2, Loc.c 2 N2⟩, ⟨Loc.c 4 N2, Loc.c 5 N2⟩, Loc.c 6 N2, Loc.c 7 N2⟩
          clear hK K
          (try simp only [Act.put, List.getElem_toArray, List.getElem_cons_succ, List.getElem_cons_zero, List.setIfInBounds_toArray, List.set_cons_zero, List.set_cons_succ])
          refine wpAnyH_ready (rs := [6]) (by kernel_rfl) (by simp) ?_
          refine AllReadyH.cons rfl (fun K hK => ?_) AllReadyH.nil
          go_simp
          refine (ratcompare_any _ (fun _ => False) _ _ dv val (RatL.to ((i7.len HDS.out).mono (by omega))) (RatL.to (hv.mono (by omega)))).mono ?_
          rintro e u6 ⟨he, hb8⟩
          rw [HQQ1.out] at he
          subst he
          have y8 := hb8.size; (try simp only [World.size_alloc, size_set, size_drew, size_drewN] at y8)
          (try go_wp2_with fail)
          refine hK.out _ _ ?_ (fun hHeld => ?_)
          · (try dsimp only)
            exact ⟨⟨Loc.c 1 N1, Loc.c 1 N2, Loc.c 2 N2⟩, ⟨Loc.c 4 N2, Loc.c 5 N2⟩, Loc.c 6 N2, Loc.c 7 N2⟩
          clear hK K
          (try simp only [Act.put, List.getElem_toArray, List.getElem_cons_succ, List.getElem_cons_zero, List.setIfInBounds_toArray, List.set_cons_zero, List.set_cons_succ])
          refine wpAnyH_take (i := 7) (v := ?_) rfl (by kernel_rfl) (by kernel_rfl) (by kernel_rfl) (fun _ _ _ h => h) (Or.inl ⟨by kernel_rfl, ?_⟩) (by assumption) ?_
          rotate_left 1
          · (intro w hSw; (try dsimp only at hSw); first | (go_simp; done) | (go_simp; with_reducible rfl))
          (try simp only [Act.put, List.getElem_toArray, List.getElem_cons_succ, List.getElem_cons_zero, List.setIfInBounds_toArray, List.set_cons_zero, List.set_cons_succ])
          refine wpAnyH_take (i := 8) (v := ?_) rfl (by kernel_rfl) (by kernel_rfl) (by kernel_rfl) (fun _ _ _ h => h) (Or.inl ⟨by kernel_rfl, ?_⟩) (by assumption) ?_
          rotate_left 1
          · (intro w hSw; (try dsimp only at hSw); first | (go_simp; done) | (go_simp; with_reducible rfl))
          (try simp only [Act.put, List.getElem_toArray, List.getElem_cons_succ, List.getElem_cons_zero, List.setIfInBounds_toArray, List.set_cons_zero, List.set_cons_succ])
          refine wpAnyH_take (i := 9) (v := undef) rfl (by kernel_rfl) (by kernel_rfl) (by kernel_rfl) (fun _ _ _ h => h) (Or.inr ⟨by kernel_rfl, rfl⟩) (by assumption) ?_
          (try simp only [Act.put, List.getElem_toArray, List.getElem_cons_succ, List.getElem_cons_zero, List.setIfInBounds_toArray, List.set_cons_zero, List.set_cons_succ])
          refine wpAnyH_take (i := 10) (v := undef) rfl (by kernel_rfl) (by kernel_rfl) (by kernel_rfl) (fun _ _ _ h => h) (Or.inr ⟨by kernel_rfl, rfl⟩) (by assumption) ?_
          (try simp only [Act.put, List.getElem_toArray, List.getElem_cons_succ, List.getElem_cons_zero, List.setIfInBounds_toArray, List.set_cons_zero, List.set_cons_succ])
          refine wpAnyH_take (i := 11) (v := undef) rfl (by kernel_rfl) (by kernel_rfl) (by kernel_rfl) (fun _ _ _ h => h) (Or.inr ⟨by kernel_rfl, rfl⟩) (by assumption) ?_
          (try simp only [Act.put, List.getElem_toArray, List.getElem_cons_succ, List.getElem_cons_zero, List.setIfInBounds_toArray, List.set_cons_zero, List.set_cons_succ])
          refine wpAnyH_take (i := 12) (v := undef) rfl (by kernel_rfl) (by kernel_rfl) (by kernel_rfl) (fun _ _ _ h => h) (Or.inr ⟨by kernel_rfl, rfl⟩) (by assumption) ?_
          (try simp only [Act.put, List.getElem_toArray, List.getElem_cons_succ, List.getElem_cons_zero, List.setIfInBounds_toArray, List.set_cons_zero, List.set_cons_succ])
          refine wpAnyH_take (i := 13) (v := undef) rfl (by kernel_rfl) (by kernel_rfl) (by kernel_rfl) (fun _ _ _ h => h) (Or.inr ⟨by kernel_rfl, rfl⟩) (by assumption) ?_
          (try simp only [Act.put, List.getElem_toArray, List.getElem_cons_succ, List.getElem_cons_zero, List.setIfInBounds_toArray, List.set_cons_zero, List.set_cons_succ])
          refine wpAnyH_take (i := 14) (v := undef) rfl (by kernel_rfl) (by kernel_rfl) (by kernel_rfl) (fun _ _ _ h => h) (Or.inr ⟨by kernel_rfl, rfl⟩) (by assumption) ?_
          (try simp only [Act.put, List.getElem_toArray, List.getElem_cons_succ, List.getElem_cons_zero, List.setIfInBounds_toArray, List.set_cons_zero, List.set_cons_succ])
          refine wpAnyH_take (i := 15) (v := undef) rfl (by kernel_rfl) (by kernel_rfl) (by kernel_rfl) (fun _ _ _ h => h) (Or.inr ⟨by kernel_rfl, rfl⟩) (by assumption) ?_
          (try simp only [Act.put, List.getElem_toArray, List.getElem_cons_succ, List.getElem_cons_zero, List.setIfInBounds_toArray, List.set_cons_zero, List.set_cons_succ])
          refine wpAnyH_take (i := 16) (v := undef) rfl (by kernel_rfl) (by kernel_rfl) (by kernel_rfl) (fun _ _ _ h => h) (Or.inr ⟨by kernel_rfl, rfl⟩) (by assumption) ?_
          (try simp only [Act.put, List.getElem_toArray, List.getElem_cons_succ, List.getElem_cons_zero, List.setIfInBounds_toArray, List.set_cons_zero, List.set_cons_succ])
          refine wpAnyH_take (i := 17) (v := undef) rfl (by kernel_rfl) (by kernel_rfl) (by kernel_rfl) (fun _ _ _ h => h) (Or.inr ⟨by kernel_rfl, rfl⟩) (by assumption) ?_
          (try simp only [Act.put, List.getElem_toArray, List.getElem_cons_succ, List.getElem_cons_zero, List.setIfInBounds_toArray, List.set_cons_zero, List.set_cons_succ])
          refine wpAnyH_take (i := 18) (v := ?_) rfl (by kernel_rfl) (by kernel_rfl) (by kernel_rfl) (fun _ _ _ h => h) (Or.inl ⟨by kernel_rfl, ?_⟩) (by assumption) ?_
          rotate_left 1
          · (intro w hSw; (try dsimp only at hSw); first | (go_simp; done) | (go_simp; with_reducible rfl))
          (try simp only [Act.put, List.getElem_toArray, List.getElem_cons_succ, List.getElem_cons_zero, List.setIfInBounds_toArray, List.set_cons_zero, List.set_cons_succ])
          refine wpAnyH_take (i := 19) (v := ?_) rfl (by kernel_rfl) (by kernel_rfl) (by kernel_rfl) (fun _ _ _ h => h) (Or.inl ⟨by kernel_rfl, ?_⟩) (by assumption) ?_
          rotate_left 1
          · (intro w hSw; (try dsimp only at hSw); first | (go_simp; done) | (go_simp; with_reducible rfl))
          (try simp only [Act.put, List.getElem_toArray, List.getElem_cons_succ, List.getElem_cons_zero, List.setIfInBounds_toArray, List.set_cons_zero, List.set_cons_succ])
          refine wpAnyH_done (by kernel_rfl) ?_ _
          refine NoPanic.normal ?_
          go_wp2_with fail
          go_ret
          exact ⟨Tells.no HV2.out, bel⟩
        · obtain rfl : q1v = 0 := Classical.not_not.1 hz1
          have HE1 := Lib.hid (HQ1.out.1 rfl)
          clear HQ1 hz1
          go_wp2_with fail
          go_region_held3 (fun W => ((W.cell? ⟨w.heap.size, 1, none⟩ = some (.slice B ny d) ∧ W.cell? ⟨w.heap.size + 1, 1, none⟩ = some (.slice C nx c3) ∧ W.cell? ⟨w.heap.size + 1, 2, none⟩ = some (.slice E ny c4)) ∧ (W.cell? ⟨w.heap.size + 1, 4, none⟩ = some (.bool b1) ∧ W.cell? ⟨w.heap.size + 1, 5, none⟩ = some (.slice A1 m1 c1)) ∧ W.cell? ⟨w.heap.size + 1, 6, none⟩ = some (.bool b1') ∧ W.cell? ⟨w.heap.size + 1, 7, none⟩ = some (.slice A1' m1' c1')))
            (exact ⟨⟨Loc.c 1 N1, Loc.c 1 N2, Loc.c 2 N2⟩, ⟨Loc.c 4 N2, Loc.c 5 N2⟩, Loc.c 6 N2, Loc.c 7 N2⟩)
            (first
              | (go_at_call_of 43 (#[Value.slice C0 nx c0, Value.slice C nx c3]); refine (dot_any _ _ _ nx nx k kc f (Nums.keep HC.out kp) (Nums.keep HX.out kp) (Nat.le_refl _) (by omega) (by omega) (by omega)).mono ?_; rintro e u5 ⟨v10, rfl, i7, hb7⟩; rw [HDV.out] at i7; obtain ⟨b7, A7, m7, c7, b7', A7', m7', c7', rfl, i7, -, -⟩ := i7.op; have y7 := hb7.size; (try simp only [World.size_alloc, size_set, size_drew, size_drewN] at y7))
              | (go_at_call_of 67 (Value.slice A7 m7 c7); refine (ratcompare_any _ (fun _ => False) _ _ dv val (RatL.to ((i7.len HDS.out).mono (by omega))) (RatL.to (hv.mono (by omega)))).mono ?_; rintro e u6 ⟨he, hb8⟩; rw [HQQ1.out] at he; subst he; have y8 := hb8.size; (try simp only [World.size_alloc, size_set, size_drew, size_drewN] at y8))
              | (go_at_call_of 43 (#[Value.slice E ny c4, Value.slice B ny d]); refine (dot_any _ _ _ ny ny k y Bv (Nums.keep HY.out kp) (Nums.keep HBv.out kp) (Nat.le_refl _) (by omega) (by omega) (by omega)).mono ?_; rintro e u7 ⟨v11, rfl, i11, hb11⟩; rw [HDW.out] at i11; obtain ⟨b11, A11, m11, c11, b11', A11', m11', c11', rfl, i11, -, -⟩ := i11.op; have y11 := hb11.size; (try simp only [World.size_alloc, size_set, size_drew, size_drewN] at y11))
              | (go_at_call_of 67 (Value.slice A11 m11 c11); refine (ratcompare_any _ (fun _ => False) _ _ dw val (RatL.to ((i11.len HDSW.out).mono (by omega))) (RatL.to (hv.mono (by omega)))).mono ?_; rintro e u8 ⟨he, hb12⟩; rw [HQQ2.out] at he; subst he; have y12 := hb12.size; (try simp only [World.size_alloc, size_set, size_drew, size_drewN] at y12)))
          all_goals
            by_cases hz2 : q2v = 0
            · subst hz2
              have HV2 : Hid (OP 2 ny ny N F Bv nx kc nx f ny y 0 r val) := HOP.out.2 ⟨HPT.out, ⟨rfl, by rw [HN0.out]; exact hall.out⟩, rfl, by rw [HN0.out, HDV.out]; exact HE1.out, by rw [HDW.out]; exact HQ2.out.1 rfl⟩
              clear HOP HQ2
              go_wp2_with fail
              go_ret
              exact ⟨Tells.yes HV2.out, bel⟩
            · have HV2 : Hid (¬ OP 2 ny ny N F Bv nx kc nx f ny y 0 r val) := fun hh => hz2 (HQ2.out.2 (by have := (HOP.out.1 hh).2.2.2.2; rw [HDW.out] at this; exact this))
              have hqf : (q2v == 0) = false := beq_eq_false_iff_ne.2 hz2
              clear HOP HQ2
              go_wp2_with fail
              go_ret
              refine ⟨?_, bel⟩
              simp [hqf]
              exact Tells.no HV2.out
  · have HV2 : Hid (¬ OP kind mb mb N F Bv nc kc nx f ny y nr r val) := op_no k0 k1 k2
    have g0 : (kind == 0) = false := beq_eq_false_iff_ne.2 k0
    have g1 : (kind == 1) = false := beq_eq_false_iff_ne.2 k1
    have g2 : (kind == 2) = false := beq_eq_false_iff_ne.2 k2
    go_wp2_with fail
    go_ret
    exact ⟨Tells.no HV2.out, bel⟩
end
end Go.Proofs.YtpeglenapmkdfaaGreat

