/- Contracts of the functions that the statements reach, part 22. -/
import Derived.Test.YtdambnieminnfaaGreatRows
import Derived.Test.YtdambnieminnfaaGreatY21
set_option linter.unusedSimpArgs false
set_option linter.unusedVariables false

/- Of the reference: Sub, Divide, Compare; printed by gen_rat11.py. -/
namespace Go.Proofs.YtdambnieminnfaaGreat
open Go.RowKit
attribute [local go_sem ↓] Go.wp_at_zero Go.wp_at_succ

set_option maxHeartbeats 4000000 in
theorem rsub_rat (w : World) (X : Nat → Prop) (v1 v2 : Value) (x y : Rat) (h1 : RatL 1000000 w X v1 x) (h2 : RatL 1000000 w X v2 y) :
 Calls Tryz.prog 95 #[v1, v2] w fun e w' => ∃ v', e = .returned v' ∧ RatV w' (Old w) v' (x - y) ∧ Below w.heap.size w w' := by
 have HX := Lib.hid (h1.rsz (by omega))
 have HY := Lib.hid (h2.rsz (by omega))
 have HE : Hid (x + -y = x - y) := (Rat.sub_eq_add_neg x y).symm
 obtain ⟨n1, A, m, c, n2, B, m', d, rfl, h1, -⟩ := h1.op
 obtain ⟨o1, C, p, e, o2, D, p', f, rfl, h2, -⟩ := h2.op
 have L1 := made1 w #[.bool n1, .slice A m c, .bool n2, .slice B m' d] 60
 have L2 := made2 w (.cells #[.bool n1, .slice A m c, .bool n2, .slice B m' d] 60) #[.bool o1, .slice C p e, .bool o2, .slice D p' f] 60
 have L3 := made3 w (.cells #[.bool n1, .slice A m c, .bool n2, .slice B m' d] 60) (.cells #[.bool o1, .slice C p e, .bool o2, .slice D p' f] 60) #[.bool false, .slice none 0 0, .bool false, .slice none 0 0] 60
 go_enter Tryz.func95, Tryz.ntmps95
 go_wp2_with fail
 go_region_held3 (fun W => ((W.cell? ⟨w.heap.size, 0, none⟩ = some (.bool n1) ∧ W.cell? ⟨w.heap.size, 1, none⟩ = some (.slice A m c)) ∧ W.cell? ⟨w.heap.size, 2, none⟩ = some (.bool n2) ∧ W.cell? ⟨w.heap.size, 3, none⟩ = some (.slice B m' d)) ∧ (W.cell? ⟨w.heap.size + 1, 0, none⟩ = some (.bool o1) ∧ W.cell? ⟨w.heap.size + 1, 1, none⟩ = some (.slice C p e)) ∧ W.cell? ⟨w.heap.size + 1, 2, none⟩ = some (.bool o2) ∧ W.cell? ⟨w.heap.size + 1, 3, none⟩ = some (.slice D p' f))
  (exact ⟨⟨⟨Loc.c 0 L1, Loc.c 1 L1⟩, Loc.c 2 L1, Loc.c 3 L1⟩, ⟨Loc.c 0 L2, Loc.c 1 L2⟩, Loc.c 2 L2, Loc.c 3 L2⟩)
  (first
   | (go_at_call 136; refine (rneg_rat _ (fun _ => False) _ y (h2.mono (by omega)).to).mono ?_; rintro e u1 ⟨v5, rfl, h5, hb5⟩; obtain ⟨b5, A5, m5, k5, b5', A5', m5', k5', rfl, h5, -, -⟩ := h5.op; have y5 := hb5.size; (try simp only [zs] at y5))
   | (go_at_call 33; refine (radd_rat _ (fun _ => False) _ _ x (-y) h1.to (h5.len HY.out.neg).to).mono ?_; rintro e u2 ⟨v6, rfl, h6, hb6⟩; rw [HE.out] at h6; obtain ⟨b6, A6, m6, k6, b6', A6', m6', k6', rfl, h6, -, -⟩ := h6.op; have y6 := hb6.size; (try simp only [zs] at y6); obtain ⟨e5, g5, -⟩ := Loc.all L3 (w' := u2)))
 all_goals
  go_wp2_with fail
  refine bodyPost_ret (by simp [results, Tryz.results95, go_sem, e5, g5] <;> rfl) rfl ⟨_, rfl, h6.out, bel⟩

set_option maxHeartbeats 4000000 in
theorem rcompare_rat (w : World) (X : Nat → Prop) (v1 v2 : Value) (x y : Rat) (h1 : RatL 1000000 w X v1 x) (h2 : RatL 1000000 w X v2 y) :
 Calls Tryz.prog 56 #[v1, v2] w fun e w' => e = .returned (.int .i64 (rcmp x y)) ∧ Below w.heap.size w w' := by
 have HX := Lib.hid (h1.rsz (by omega))
 have HY := Lib.hid (h2.rsz (by omega))
 obtain ⟨n1, A, m, c, n2, B, m', d, rfl, h1, -⟩ := h1.op
 obtain ⟨o1, C, p, e, o2, D, p', f, rfl, h2, -⟩ := h2.op
 have L1 := made1 w #[.bool n1, .slice A m c, .bool n2, .slice B m' d] 60
 have L2 := made2 w (.cells #[.bool n1, .slice A m c, .bool n2, .slice B m' d] 60) #[.bool o1, .slice C p e, .bool o2, .slice D p' f] 60
 go_enter Tryz.func56, Tryz.ntmps56
 go_wp2_with fail
 refine (rsub_rat _ (fun _ => False) _ _ x y h1.to h2.to).mono ?_
 rintro e w1 ⟨v3, rfl, h3, hb1⟩
 obtain ⟨b3, A3, m3, c3, b3', A3', m3', c3', rfl, h3, -, -⟩ := h3.op
 obtain ⟨z1, z2⟩ := sz2 hb1
 have HR : Rsz 10000000 (x - y) := by
  rw [Rat.sub_eq_add_neg]
  exact (HX.out.add HY.out.neg).mono (by omega)
 go_wp2_with fail
 refine (rsign_rat _ (fun _ => False) _ (x - y) (h3.len HR).to).mono ?_
 rintro e w2 ⟨rfl, hb2⟩
 have y2 := hb2.size; (try simp only [zs] at y2)
 go_wp2_with fail
 go_ret
 exact ⟨rfl, bel⟩

/- The law's side of layer 40: whole, part. -/

set_option maxRecDepth 100000 in
set_option maxHeartbeats 4000000 in
theorem lwhole_any (w : World) (z : Int) (h0 : -9223372036854775808 ≤ z) (h1 : z ≤ 9223372036854775807) :
 Calls Tryz.prog 55 #[.int .i64 z] w fun e w' => ∃ v', e = .returned v' ∧ RatV w' (Old w) v' (z : Rat) ∧ Below w.heap.size w w' := by
 have L := made1 w #[.bool false, .slice none 0 0, .bool false, .slice none 0 0] 60
 go_enter Tryz.func55, Tryz.ntmps55
 go_wp2_with fail
 refine (rratof_any _ z 1 (by decide) h0 h1 (by decide) (by decide)).mono ?_
 rintro e w1 ⟨v1, rfl, i1, hb1⟩
 rw [divInt_int] at i1
 obtain ⟨b1, A1, m1, c1, b1', A1', m1', c1', rfl, i1, -, -⟩ := i1.op
 have z1 := sz1 hb1
 have M := made1 w1 #[.bool b1, .slice A1 m1 c1, .bool b1', .slice A1' m1' c1'] 60
 obtain ⟨e4, g4, -⟩ := L.all (w' := w1.alloc (.cells #[.bool b1, .slice A1 m1 c1, .bool b1', .slice A1' m1' c1'] 60))
 obtain ⟨e6, g6, l6⟩ := L.all (w' := w1)
 obtain ⟨e5, g5, -⟩ := M.all (w' := w1.alloc (.cells #[.bool b1, .slice A1 m1 c1, .bool b1', .slice A1' m1' c1'] 60))
 have LF := Loc.fill4 (u := .bool b1) (v := .slice A1 m1 c1) (x := .bool b1') (y := .slice A1' m1' c1') (L.to (w' := w1))
 obtain ⟨e8, g8, -⟩ := LF.all (w' := ((((w1.setCell ⟨w.heap.size, 0, none⟩ (.bool b1)).setCell ⟨w.heap.size, 1, none⟩ (.slice A1 m1 c1)).setCell ⟨w.heap.size, 2, none⟩ (.bool b1')).setCell ⟨w.heap.size, 3, none⟩ (.slice A1' m1' c1')).alloc (.cells #[.bool b1, .slice A1 m1 c1, .bool b1', .slice A1' m1' c1'] 60))
 go_wp2_with fail
 refine bodyPost_ret (by simp [results, Tryz.results55, go_sem, e8, g8] <;> rfl) rfl ⟨_, rfl, RatV.out i1, bel⟩

set_option maxRecDepth 100000 in
set_option maxHeartbeats 4000000 in
theorem lpart_any (w : World) (z y : Int) (hy : y ≠ 0) (h0 : -9223372036854775808 ≤ z) (h1 : z ≤ 9223372036854775807) (h2 : -9223372036854775808 ≤ y) (h3 : y ≤ 9223372036854775807) :
 Calls Tryz.prog 44 #[.int .i64 z, .int .i64 y] w fun e w' => ∃ v', e = .returned v' ∧ RatV w' (Old w) v' (Rat.divInt z y) ∧ Below w.heap.size w w' := by
 have L := made1 w #[.bool false, .slice none 0 0, .bool false, .slice none 0 0] 60
 go_enter Tryz.func44, Tryz.ntmps44
 go_wp2_with fail
 refine (rratof_any _ z y hy h0 h1 h2 h3).mono ?_
 rintro e w1 ⟨v1, rfl, i1, hb1⟩
 obtain ⟨b1, A1, m1, c1, b1', A1', m1', c1', rfl, i1, -, -⟩ := i1.op
 have z1 := sz1 hb1
 have M := made1 w1 #[.bool b1, .slice A1 m1 c1, .bool b1', .slice A1' m1' c1'] 60
 obtain ⟨e4, g4, -⟩ := L.all (w' := w1.alloc (.cells #[.bool b1, .slice A1 m1 c1, .bool b1', .slice A1' m1' c1'] 60))
 obtain ⟨e6, g6, l6⟩ := L.all (w' := w1)
 obtain ⟨e5, g5, -⟩ := M.all (w' := w1.alloc (.cells #[.bool b1, .slice A1 m1 c1, .bool b1', .slice A1' m1' c1'] 60))
 have LF := Loc.fill4 (u := .bool b1) (v := .slice A1 m1 c1) (x := .bool b1') (y := .slice A1' m1' c1') (L.to (w' := w1))
 obtain ⟨e8, g8, -⟩ := LF.all (w' := ((((w1.setCell ⟨w.heap.size, 0, none⟩ (.bool b1)).setCell ⟨w.heap.size, 1, none⟩ (.slice A1 m1 c1)).setCell ⟨w.heap.size, 2, none⟩ (.bool b1')).setCell ⟨w.heap.size, 3, none⟩ (.slice A1' m1' c1')).alloc (.cells #[.bool b1, .slice A1 m1 c1, .bool b1', .slice A1' m1' c1'] 60))
 go_wp2_with fail
 refine bodyPost_ret (by simp [results, Tryz.results44, go_sem, e8, g8] <;> rfl) rfl ⟨_, rfl, RatV.out i1, bel⟩

/- The law's side of layer 40: valid. -/

set_option maxRecDepth 100000 in
set_option maxHeartbeats 8000000 in
theorem lvalid_any (w : World) (v0 : Value) (L : List (List Int)) (h : IMat w v0 L) :
 Calls Tryz.prog 65 #[.agg #[v0]] w fun e w' => Tells (VC L) e ∧ Below w.heap.size w w' := by
 have H := Lib.hid h
 obtain ⟨A, cA, rfl, h, l1, l2⟩ := h.op
 clear h
 obtain ⟨m, hm⟩ : ∃ m, L.length = m := ⟨_, rfl⟩
 have HM := Lib.hid hm
 rw [hm] at l1 H
 rw [hm]
 clear hm
 by_cases h1 : m < 1
 ·have HV : Hid (¬ VC L) := fun h => by have := h.1; rw [HM.out] at this; omega
  go_enter Tryz.func65, Tryz.ntmps65
  go_wp2_with fail
  go_ret
  exact ⟨Tells.no HV.out, bel⟩
 by_cases h2 : 256 < m
 ·have HV : Hid (¬ VC L) := fun h => by have := h.2.1; rw [HM.out] at this; omega
  go_enter Tryz.func65, Tryz.ntmps65
  go_wp2_with fail
  go_ret
  exact ⟨Tells.no HV.out, bel⟩
 have q0 : (0 : Int) < (m : Int) := by omega
 obtain ⟨l0, he⟩ : ∃ l, L[0]? = some l := ⟨_, List.getElem?_eq_getElem (by have := HM.out; omega)⟩
 obtain ⟨a0, D, d, rfl, hab, hcell, hints, l3, l4⟩ := H.out.at he
 rw [addr_zero] at hcell
 have H0 : Hid (L.getD 0 [] = l0) := by show _ = _; rw [List.getD_eq_getElem?_getD, he]; rfl
 obtain ⟨n, hn⟩ : ∃ n, l0.length = n := ⟨_, rfl⟩
 have HN := Lib.hid hn
 rw [hn] at hcell hints l3
 obtain ⟨R, hR⟩ : ∃ R, rsumA 0 l0 = R := ⟨_, rfl⟩
 have HR := Lib.hid hR
 have hrr := rsumA_range l0 0 (by decide) (by decide)
 rw [hR] at hrr
 have HVC : Hid (VC L ↔ 1 ≤ n ∧ n ≤ 256 ∧ 1 ≤ R ∧ ∀ l ∈ L, l.length = n ∧ rsumA 0 l = R) := by
  show _ ↔ _
  unfold VC
  rw [H0.out, HN.out, HR.out, HM.out]
  constructor
  ·rintro ⟨_, _, a, b, c, d⟩
   exact ⟨a, b, c, d⟩
  ·rintro ⟨a, b, c, d⟩
   exact ⟨by omega, by omega, a, b, c, d⟩
 have HI := Lib.hid hints
 have L1 := made1 w #[.slice (some a0) m cA] 24
 have hkb : Keep (fun _ => False) w (w.alloc (.cells #[.slice (some a0) m cA] 24)) := kp
 have hc1 : (w.alloc (.cells #[.slice (some a0) m cA] 24)).cell? a0 = _ := cell_keep hcell hab id hkb
 clear he hn hR hints
 by_cases h3 : n < 1
 ·have HV : Hid (¬ VC L) := fun h => by have := (HVC.out.1 h).1; omega
  go_enter Tryz.func65, Tryz.ntmps65
  go_wp2_with fail
  go_ret
  exact ⟨Tells.no HV.out, bel⟩
 by_cases h4 : 256 < n
 ·have HV : Hid (¬ VC L) := fun h => by have := (HVC.out.1 h).2.1; omega
  go_enter Tryz.func65, Tryz.ntmps65
  go_wp2_with fail
  go_ret
  exact ⟨Tells.no HV.out, bel⟩
 have HS : Hid (∀ W, Below w.heap.size w W → Loc W w.heap.size 24 #[.slice (some a0) m cA] → W.cell? ⟨w.heap.size, 0, none⟩ = some (.slice (some a0) m cA) ∧ W.cell? a0 = some (.slice D n d)) := fun W hW hL => ⟨Loc.cell hL 0, cell_keep (X := fun _ => False) hcell hab id (.of_below hW)⟩
 go_enter Tryz.func65, Tryz.ntmps65
 go_wp2_with fail
 clear hc1 hkb
 go_loopw [35] (fun i wr => ∃ (c : Nat), c ≤ m ∧ i = .int .i64 c ∧ Hid (∀ i l, i < c → L[i]? = some l → l.length = n ∧ rsumA 0 l = R) ∧ Below w.heap.size w wr ∧ Loc wr w.heap.size 24 #[.slice (some a0) m cA]) (fun i _ => m - (intOf i).toNat)
 case atStart => exact ⟨0, by omega, rfl, Lib.hid (fun i l hi => absurd hi (by omega)), bel, L1⟩
 case round =>
  obtain ⟨c, hc, rfl, hall, hB, LL⟩ := hrel
  obtain ⟨wo, rfl⟩ : ∃ wo : World, wo = wr := ⟨_, rfl⟩
  have y5 := hB.size
  have q5 := LL.lt
  have HBo := Lib.hid hB
  clear L1
  by_cases hlt : c < m
  ·obtain ⟨l, he⟩ : ∃ l, L[c]? = some l := ⟨_, List.getElem?_eq_getElem (by rw [HM.out]; exact hlt)⟩
   obtain ⟨a1, D1, d1, ea, hab1, hcell1, hints1, l5, l6⟩ := (H.out.keep (.of_below hB)).at he
   injection ea with ea
   subst ea
   have HE := Lib.hid he
   have HI1 := Lib.hid hints1
   obtain ⟨n1, hn1⟩ : ∃ n1, l.length = n1 := ⟨_, rfl⟩
   have HN1 := Lib.hid hn1
   rw [hn1] at hcell1 HI1 l5
   have k0 : (0 : Int) ≤ (c : Int) := by omega
   have k1 : (c : Int) < (m : Int) := by omega
   have HLW : Hid (∀ W, Below wo.heap.size wo W → W.cell? ⟨w.heap.size, 0, none⟩ = some (.slice (some a0) m cA) ∧ W.cell? a0 = some (.slice D n d)) := fun W hW => HS.out W (HBo.out.trans (hW.mono y5)) (LL.below hW)
   have HIW : Hid (∀ W, Below wo.heap.size wo W → IntsV W (.slice D n d) l0) := fun W hW => HI.out.keep (.of_below (HBo.out.trans (hW.mono y5)))
   obtain ⟨e1, f1, t1⟩ := LL.all (w' := wo)
   clear he hn1 hints1 hB
   by_cases hne : n1 = n
   ·subst hne
    obtain ⟨R1, hR1⟩ : ∃ R1, rsumA 0 l = R1 := ⟨_, rfl⟩
    have HR1 := Lib.hid hR1
    clear hR1
    by_cases hrr1 : R1 = R
    ·subst hrr1
     have b1 : (R1 != R1) = false := by simp
     go_wp2_with fail
     go_region_held3 (fun W => W.cell? ⟨w.heap.size, 0, none⟩ = some (.slice (some a0) m cA) ∧ W.cell? a0 = some (.slice D n1 d))
      (exact HLW.out _ bel)
      (first
       | (go_at_call_of 29 (Value.slice D1 n1 d1); refine (rowSum_any _ _ l (HI1.out.keep kp)).mono ?_; rintro e u1 ⟨he, hb1⟩; rw [HR1.out] at he; subst he; have y1 := hb1.size; (try simp only [zs] at y1))
       | (go_at_call_of 29 (Value.slice D n1 d); refine (rowSum_any _ _ l0 (HIW.out _ bel)).mono ?_; rintro e u2 ⟨he, hb2⟩; rw [HR.out] at he; subst he; have y2 := hb2.size; (try simp only [zs] at y2)))
     all_goals
      have LZ : Loc u2 w.heap.size _ _ := LL.to
      go_wp2_with fail
      go_roundw
      case rel =>
       refine ⟨c + 1, by omega, by go_num, Lib.hid (fun i l' hi hl' => ?_), HBo.out.trans ((bel : Below wo.heap.size wo _).mono y5), LL.to⟩
       by_cases hic : i < c
       ·exact hall.out i l' hic hl'
       ·obtain rfl : i = c := by omega
        rw [HE.out] at hl'
        injection hl' with hl'
        subst hl'
        exact ⟨HN1.out, HR1.out⟩
      case measure => simp only [intOf]; omega
    ·have HV : Hid (¬ VC L) := fun h => hrr1 (by rw [← HR1.out]; exact ((HVC.out.1 h).2.2.2 l (List.mem_of_getElem? HE.out)).2)
     have b1 : (R1 == R) = false := beq_eq_false_iff_ne.2 hrr1
     have b2 : (R1 != R) = true := bne_iff_ne.2 hrr1
     go_wp2_with fail
     go_region_held3 (fun W => W.cell? ⟨w.heap.size, 0, none⟩ = some (.slice (some a0) m cA) ∧ W.cell? a0 = some (.slice D n1 d))
      (exact HLW.out _ bel)
      (first
       | (go_at_call_of 29 (Value.slice D1 n1 d1); refine (rowSum_any _ _ l (HI1.out.keep kp)).mono ?_; rintro e u1 ⟨he, hb1⟩; rw [HR1.out] at he; subst he; have y1 := hb1.size; (try simp only [zs] at y1))
       | (go_at_call_of 29 (Value.slice D n1 d); refine (rowSum_any _ _ l0 (HIW.out _ bel)).mono ?_; rintro e u2 ⟨he, hb2⟩; rw [HR.out] at he; subst he; have y2 := hb2.size; (try simp only [zs] at y2)))
     all_goals
      go_wp2_with fail
      go_ret
      exact ⟨Tells.no HV.out, HBo.out.trans ((bel : Below wo.heap.size wo _).mono y5)⟩
   ·have HV : Hid (¬ VC L) := fun h => hne (by rw [← HN1.out]; exact ((HVC.out.1 h).2.2.2 l (List.mem_of_getElem? HE.out)).1)
    have b1 : ((n1 : Int) == (n : Int)) = false := beq_eq_false_iff_ne.2 (by omega)
    have b2 : ((n1 : Int) != (n : Int)) = true := bne_iff_ne.2 (by omega)
    go_wp2_with fail
    refine wp_region_noPanic ?_
    refine wp_region_held_drew (S := (fun W => W.cell? ⟨w.heap.size, 0, none⟩ = some (.slice (some a0) m cA) ∧ W.cell? a0 = some (.slice D n d))) (by kernel_rfl) ?_ (fun hHeld => ?_)
    ·exact HLW.out _ bel
    refine takeT 0 hHeld ?_
    (try simp only [Act.put, ly])
    refine takeT 1 hHeld ?_
    (try simp only [Act.put, ly])
    refine takeT 2 hHeld ?_
    (try simp only [Act.put, ly])
    refine takeT 3 hHeld ?_
    (try simp only [Act.put, ly])
    refine takeT 4 hHeld ?_
    (try simp only [Act.put, ly])
    refine takeT 5 hHeld ?_
    (try simp only [Act.put, ly])
    refine takeT 6 hHeld ?_
    (try simp only [Act.put, ly])
    refine takeT 7 hHeld ?_
    (try simp only [Act.put, ly])
    refine takeT 8 hHeld ?_
    (try simp only [Act.put, ly])
    refine offT 9 hHeld ?_
    refine offT 10 hHeld ?_
    refine offT 11 hHeld ?_
    refine offT 12 hHeld ?_
    refine offT 13 hHeld ?_
    refine offT 14 hHeld ?_
    refine offT 15 hHeld ?_
    refine offT 16 hHeld ?_
    (try simp only [Act.put, ly])
    refine takeT 17 hHeld ?_
    (try simp only [Act.put, ly])
    refine wpAnyH_done (by kernel_rfl) ?_ _
    refine NoPanic.normal ?_
    go_wp2_with fail
    go_ret
    exact ⟨Tells.no HV.out, HBo.out.trans ((bel : Below wo.heap.size wo _).mono y5)⟩
  ·obtain rfl : c = m := by omega
   obtain ⟨e1, f1, t1⟩ := LL.all (w' := wo)
   have hc2 : wo.cell? a0 = some (.slice D n d) := (HS.out wo hB LL).2
   clear hB
   go_wp2_with fail
   refine (rowSum_any _ _ l0 (HI.out.keep (.of_below HBo.out))).mono ?_
   rintro e w2 ⟨he, hb2⟩
   rw [HR.out] at he
   subst he
   have hle : R ≤ 1048576 := hrr.2
   by_cases h5 : 1 ≤ R
   ·have HV : Hid (VC L) := HVC.out.2 ⟨by omega, by omega, h5, fun l hl => by
     obtain ⟨i, hi, rfl⟩ := List.mem_iff_getElem.1 hl
     exact hall.out i _ (by rw [← HM.out]; exact hi) (List.getElem?_eq_getElem hi)⟩
    have b1 : decide (1 ≤ R) = true := decide_eq_true h5
    have b2 : decide (R ≤ 1048576) = true := decide_eq_true hle
    go_wp2_with fail
    go_ret
    exact ⟨Tells.yes HV.out, HBo.out.trans (hb2.mono y5)⟩
   ·have HV : Hid (¬ VC L) := fun h => h5 (HVC.out.1 h).2.2.1
    have b1 : decide (1 ≤ R) = false := decide_eq_false h5
    go_wp2_with fail
    go_ret
    exact ⟨Tells.no HV.out, HBo.out.trans (hb2.mono y5)⟩

/- The law's side of layer 40: pair. -/

set_option maxRecDepth 100000 in
set_option maxHeartbeats 4000000 in
theorem lpair_any (w : World) (v1 v2 : Value) (L1 L2 : List (List Int)) (h1 : IMat w v1 L1) (h2 : IMat w v2 L2) :
 Calls Tryz.prog 54 #[.agg #[v1], .agg #[v2]] w fun e w' => Tells (VC L1 ∧ VC L2 ∧ L1.length = L2.length) e ∧ Below w.heap.size w w' := by
 have H1 := Lib.hid h1
 have H2 := Lib.hid h2
 obtain ⟨A, cA, rfl, h1, la1, la2⟩ := h1.op
 obtain ⟨B, cB, rfl, h2, lb1, lb2⟩ := h2.op
 clear h1 h2
 have M1 := made1 w #[.slice A L1.length cA] 24
 have M2 := made2 w (.cells #[.slice A L1.length cA] 24) #[.slice B L2.length cB] 24
 go_enter Tryz.func54, Tryz.ntmps54
 go_wp2_with fail
 refine (lvalid_any _ _ L1 (H1.out.keep kp)).mono ?_
 rintro e w1 ⟨⟨b, rfl, hb⟩, hb1⟩
 obtain ⟨z1, z2⟩ := sz2 hb1
 obtain ⟨e1, f1, t1⟩ := M1.all (w' := w1)
 obtain ⟨e2, f2, t2⟩ := M2.all (w' := w1)
 cases b
 ·have HV : Hid (¬ (VC L1 ∧ VC L2 ∧ L1.length = L2.length)) := fun h => by have := hb.out.2 h.1; cases this
  clear hb
  go_wp2_with fail
  go_ret
  exact ⟨Tells.no HV.out, bel⟩
 have HV1 : Hid (VC L1) := hb.out.1 rfl
 clear hb
 go_wp2_with fail
 refine (lvalid_any _ _ L2 (H2.out.keep kp)).mono ?_
 rintro e w2 ⟨⟨b, rfl, hb⟩, hb2⟩
 have y2 := hb2.size; (try simp only [zs] at y2)
 clear e1 f1 t1 e2 f2 t2
 obtain ⟨e1, f1, t1⟩ := M1.all (w' := w2)
 obtain ⟨e2, f2, t2⟩ := M2.all (w' := w2)
 cases b
 ·have HV : Hid (¬ (VC L1 ∧ VC L2 ∧ L1.length = L2.length)) := fun h => by have := hb.out.2 h.2.1; cases this
  clear hb
  go_wp2_with fail
  go_ret
  exact ⟨Tells.no HV.out, bel⟩
 have HV2 : Hid (VC L2) := hb.out.1 rfl
 clear hb
 by_cases hmk : L1.length = L2.length
 ·have d1 : ((L1.length : Int) == (L2.length : Int)) = true := beq_iff_eq.2 (by omega)
  have HMK := Lib.hid hmk
  clear hmk
  go_wp2_with fail
  go_ret
  exact ⟨Tells.yes ⟨HV1.out, HV2.out, HMK.out⟩, bel⟩
 ·have d1 : ((L1.length : Int) == (L2.length : Int)) = false := beq_eq_false_iff_ne.2 (by omega)
  have HMK : Hid (¬ L1.length = L2.length) := hmk
  clear hmk
  go_wp2_with fail
  go_ret
  exact ⟨Tells.no (fun h => HMK.out h.2.2), bel⟩

/- The law's side of layer 40: few. -/

/-- At most 5 rows of at most 5 numbers. -/
def Few40 (L : List (List Int)) : Prop := L.length ≤ 5 ∧ ∀ l ∈ L, l.length ≤ 5

/- The law's side of layer 40: equal's inner closure. -/

end Go.Proofs.YtdambnieminnfaaGreat

