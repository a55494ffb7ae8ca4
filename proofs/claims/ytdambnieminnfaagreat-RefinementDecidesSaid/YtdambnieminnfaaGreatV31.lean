/- Contracts of the functions that the statements reach, part 31. -/
import Derived.Test.YtdambnieminnfaaGreatRows
import Derived.Test.YtdambnieminnfaaGreatV13
import Derived.Test.YtdambnieminnfaaGreatV14
import Derived.Test.YtdambnieminnfaaGreatV29
import Derived.Test.YtdambnieminnfaaGreatV30
set_option linter.unusedSimpArgs false
set_option linter.unusedVariables false

/- The law's side of layer 40: separates, proves. -/
namespace Go.Proofs.YtdambnieminnfaaGreat
open Go.RowKit
attribute [local go_sem ↓] Go.wp_at_zero Go.wp_at_succ

set_option maxHeartbeats 2000000 in
theorem lbelow0_any (w : World) (k : Nat) (v : Value) (q : Rat) (hk : k ≤ 10000000) (h : RatL k w (fun _ => False) v q) :
 Calls Tryz.prog 59 #[v] w fun e w' => Tells (q < 0) e ∧ Below w.heap.size w w' := by
 have hq := sign_neg_iff q
 obtain ⟨b, hb⟩ : ∃ b, decide (q < 0) = b := ⟨_, rfl⟩
 have HT : Hid (b = true ↔ q < 0) := by show _ ↔ _; rw [← hb]; exact decide_eq_true_iff
 obtain ⟨n1, A, m, c, n2, B, m', d, rfl, h, -⟩ := h.op
 have HB : Hid (decide (q.num.sign < 0) = b) := by show _ = _; rw [← hb]; exact decide_eq_decide.2 hq
 clear hq hb
 go_enter Tryz.func59, Tryz.ntmps59
 go_wp2_with fail
 refine (rsign_rat _ (fun _ => False) _ q (RatL.to (h.mono hk))).mono ?_
 rintro e w1 ⟨he, hb1⟩
 have z1 := sz1 hb1
 obtain ⟨s, hs⟩ : ∃ s, q.num.sign = s := ⟨_, rfl⟩
 rw [hs] at he
 have HB2 : Hid (decide (s < 0) = b) := by show _ = _; rw [← hs]; exact HB.out
 subst he
 clear HB hs
 cases b
 ·have h2 : decide (s < 0) = false := HB2.out
  go_wp2_with fail
  go_ret
  exact ⟨Tells.no (fun h => by have := HT.out.2 h; cases this), bel⟩
 ·have h2 : decide (s < 0) = true := HB2.out
  go_wp2_with fail
  go_ret
  exact ⟨Tells.yes (by first | exact HT.out.1 rfl | exact HT.out.1 trivial), bel⟩

set_option maxRecDepth 100000 in
set_option maxHeartbeats 16000000 in
theorem separates_any (w : World) (v1 v2 vg : Value) (L1 L2 : List (List Int)) (Kn k B : Nat) (N : Nat → Nat) (F : Nat → Nat → Rat) (h1 : IMat w v1 L1) (h2 : IMat w v2 L2) (h : Mat k w (fun _ => False) vg Kn N F)
 (hKn : Kn ≤ 200) (hw1 : wid L1 ≤ 200) (hw2 : wid L2 ≤ 200) (hk1 : 1 ≤ k) (hk2 : k ≤ 900000) (hB : (2 + k + 1) * L1.length + 2 ≤ B) (hB1 : (B + 1) * wid L1 + 2 ≤ 900000) (hB2 : (B + 1) * wid L2 + 2 ≤ 900000) :
 Calls Tryz.prog 19 #[.agg #[v1], .agg #[v2], vg] w fun e w' => Tells (GN L1 L2 Kn N F) e ∧ Below w.heap.size w w' := by
 have H1 := Lib.hid h1
 have H2 := Lib.hid h2
 have H := Lib.hid h
 have HFZ := Lib.hid (h.rsz hk1)
 obtain ⟨A1, c1, rfl, -, la1, la2⟩ := h1.op
 obtain ⟨A2, c2, rfl, -, lb1, lb2⟩ := h2.op
 obtain ⟨A, cA, rfl, -, l1, l2⟩ := h.op
 have HBB := Lib.hid (And.intro hB (And.intro hB1 hB2))
 obtain ⟨r, hr⟩ : ∃ r, L1.length = r := ⟨_, rfl⟩
 obtain ⟨s, hs⟩ : ∃ s, L2.length = s := ⟨_, rfl⟩
 have HR := Lib.hid hr
 have HS := Lib.hid hs
 rw [hr] at la1 H1
 rw [hs] at lb1 H2
 rw [hr, hs]
 have L := made1 w #[.slice A1 r c1] 24
 have M := made2 w (.cells #[.slice A1 r c1] 24) #[.slice A2 s c2] 24
 clear h1 h2 hr hs hB hB1 hB2 h
 by_cases hp : VC L1 ∧ VC L2 ∧ L1.length = L2.length
 case neg =>
  have HV : Hid (¬ GN L1 L2 Kn N F) := fun h => hp ⟨h.1, h.2.1, h.2.2.1⟩
  have HPN : Hid (¬ (VC L1 ∧ VC L2 ∧ L1.length = L2.length)) := hp
  clear hp
  go_enter Tryz.func19, Tryz.ntmps19
  go_wp2_with fail
  refine (lpair_any _ _ _ L1 L2 (H1.out.keep kp) (H2.out.keep kp)).mono ?_
  rintro e w1 ⟨he, hb1⟩
  have he := he.eq (b := false) ⟨fun h => (by cases h), fun h => absurd h HPN.out⟩
  subst he
  go_wp2_with fail
  go_ret
  exact ⟨Tells.no HV.out, bel⟩
 have HP1 := Lib.hid hp
 clear hp
 by_cases hK0 : Kn = 0
 case pos =>
  have HV : Hid (¬ GN L1 L2 Kn N F) := fun h => by have := h.2.2.2.1.1; omega
  have d1 : ((Kn : Int) == 0) = true := beq_iff_eq.2 (by omega)
  clear hK0
  go_enter Tryz.func19, Tryz.ntmps19
  go_wp2_with fail
  refine (lpair_any _ _ _ L1 L2 (H1.out.keep kp) (H2.out.keep kp)).mono ?_
  rintro e w1 ⟨he, hb1⟩
  have he := he.eq (b := true) ⟨fun _ => HP1.out, fun _ => rfl⟩
  subst he
  go_wp2_with fail
  go_ret
  exact ⟨Tells.no HV.out, bel⟩
 have hm1 : 0 < Kn := by omega
 have d1 : ((Kn : Int) == 0) = false := beq_eq_false_iff_ne.2 (by omega)
 have hr2 : r ≤ 256 := by have := HP1.out.1.2.1; have := HR.out; omega
 have hr1 : 0 < r := by have := HP1.out.1.1; have := HR.out; omega
 have hs1 : 0 < s := by have := HP1.out.2.1.1; have := HS.out; omega
 obtain ⟨p1, hp1⟩ : ∃ p, tot L1 = p := ⟨_, rfl⟩
 obtain ⟨p2, hp2⟩ : ∃ p, tot L2 = p := ⟨_, rfl⟩
 have ht1 := HP1.out.1.tot
 have ht2 := HP1.out.2.1.tot
 rw [hp1] at ht1
 rw [hp2] at ht2
 have HT1 := Lib.hid hp1
 have HT2 := Lib.hid hp2
 have HGN : Hid (GN L1 L2 Kn N F ↔ (∀ i, i < Kn → N i = r ∧ ¬ ∃ j, j < N i ∧ F i j < 0) ∧ (p2 : Rat) * worthV (wid L1) Kn L1.length (ce L1) F < (p1 : Rat) * worthV (wid L2) Kn L2.length (ce L2) F) := by
  show _ ↔ _
  unfold GN MX
  rw [HT1.out, HT2.out, ← HP1.out.2.2, HR.out]
  constructor
  ·rintro ⟨_, _, _, ⟨_, _, a⟩, b, c⟩
   exact ⟨fun i hi => ⟨by rw [(a i hi).1]; exact b, fun ⟨j, hj, hn⟩ => (a i hi).2 j hj hn⟩, c⟩
  ·rintro ⟨a, b⟩
   have h0 := (a 0 hm1).1
   exact ⟨HP1.out.1, HP1.out.2.1, rfl, ⟨hm1, by omega, fun i hi => ⟨by rw [(a i hi).1, h0], fun j hj hn => (a i hi).2 ⟨j, hj, hn⟩⟩⟩, h0, b⟩
 clear hp1 hp2 hK0
 go_enter Tryz.func19, Tryz.ntmps19
 go_wp2_with fail
 refine (lpair_any _ _ _ L1 L2 (H1.out.keep kp) (H2.out.keep kp)).mono ?_
 rintro e w1 ⟨he, hb1⟩
 have he := he.eq (b := true) ⟨fun _ => HP1.out, fun _ => rfl⟩
 subst he
 obtain ⟨z1, z2⟩ := sz2 hb1
 have NL : Loc w1 w.heap.size _ _ := L.to
 have NM : Loc w1 (w.heap.size + 1) _ _ := M.to
 have HB1 : Hid (Below w.heap.size w w1) := bel
 clear hb1 L M
 go_wp2_with fail
 go_loopw [22] (fun i wr => ∃ (c : Nat), c ≤ Kn ∧ i = .int .i64 c ∧ Hid (∀ i, i < c → N i = r ∧ ¬ ∃ j, j < N i ∧ F i j < 0) ∧ Below w1.heap.size w1 wr) (fun i _ => Kn - (intOf i).toNat)
 case atStart => exact ⟨0, by omega, rfl, Lib.hid (fun i hi => absurd hi (by omega)), Below.refl _ _⟩
 case round =>
  obtain ⟨c, hc, rfl, hall, hB⟩ := hrel
  obtain ⟨wo, rfl⟩ : ∃ wo : World, wo = wr := ⟨_, rfl⟩
  have yo := hB.size; (try simp only [zs] at yo)
  have HBO := Lib.hid (HB1.out.trans (hB.mono (by omega)))
  by_cases hlt : c < Kn
  ·obtain ⟨a9, D9, d9, rfl, hab9, -, hcell9, hnum9, lc9, -⟩ := Mat.at (Mat.keep H.out (.of_below HBO.out)) hlt
   obtain ⟨n9, hn9⟩ : ∃ n, N c = n := ⟨_, rfl⟩
   rw [hn9] at hcell9 hnum9 lc9
   have HN9 := Lib.hid hn9
   have HNUM := Lib.hid hnum9
   have k0 : (0 : Int) ≤ (c : Int) := by omega
   have k1 : (c : Int) < (Kn : Int) := by omega
   have NLo : Loc wo w.heap.size _ _ := NL.to
   obtain ⟨e1, f1, -⟩ := NLo.all (w' := wo)
   clear hn9 hnum9
   by_cases hne : n9 = r
   ·have d2 : ((n9 : Int) == (r : Int)) = true := beq_iff_eq.2 (by omega)
    have d3 : ((n9 : Int) != (r : Int)) = false := by simp only [bne, d2]; rfl
    have HE := Lib.hid hne
    clear hne
    go_wp2_with fail
    refine (containsR_any _ 59 #[] (fun q => q < 0) _ n9 k (F c) HNUM.out (enters Tryz.func59 (by kernel_rfl) (by kernel_rfl)) (show TellsR k _ 59 #[] (fun q => q < 0) from fun W v q _ hq => lbelow0_any W k v q (by omega) hq)).mono ?_
    rintro e w2 ⟨⟨b, rfl, hb⟩, hb2⟩
    have y2 := hb2.size; (try simp only [zs] at y2)
    cases b
    ·have HV : Hid (¬ ∃ j, j < n9 ∧ F c j < 0) := fun h => by have := hb.out.2 h; cases this
     clear hb e1 f1
     go_wp2_with fail
     go_roundw
     case rel =>
      refine ⟨c + 1, by omega, by go_num, Lib.hid (fun i hi => ?_), hB.trans (hb2.mono yo)⟩
      by_cases hic : i < c
      ·exact hall.out i hic
      ·obtain rfl : i = c := by omega
       rw [HN9.out]
       exact ⟨HE.out, HV.out⟩
     case measure => simp only [intOf]; omega
    ·have HV : Hid (¬ GN L1 L2 Kn N F) := fun h => ((HGN.out.1 h).1 c hlt).2 (by rw [HN9.out]; exact hb.out.1 rfl)
     have HBF := Lib.hid (HBO.out.trans (hb2.mono (by omega)))
     clear hb e1 f1
     go_wp2_with fail
     go_ret
     exact ⟨Tells.no HV.out, HBF.out⟩
   ·have d2 : ((n9 : Int) == (r : Int)) = false := beq_eq_false_iff_ne.2 (by omega)
    have d3 : ((n9 : Int) != (r : Int)) = true := bne_iff_ne.2 (by omega)
    have HV : Hid (¬ GN L1 L2 Kn N F) := fun h => hne (by rw [← HN9.out]; exact ((HGN.out.1 h).1 c hlt).1)
    clear hne
    go_wp2_with fail
    go_ret
    exact ⟨Tells.no HV.out, HBO.out⟩
  ·obtain rfl : c = Kn := by omega
   have HNR : Hid (∀ i, i < c → N i = L1.length) := fun i hi => by rw [HR.out]; exact (hall.out i hi).1
   have HF0 : Hid (∀ i, i < c → ∀ x, x < L1.length → 0 ≤ F i x) := fun i hi x hx => by
    have h1 := hall.out i hi
    have : ¬ F i x < 0 := fun hn => h1.2 ⟨x, by rw [HNR.out i hi]; exact hx, hn⟩
    grind
   obtain ⟨l1', he1⟩ : ∃ l, L1[0]? = some l := ⟨_, List.getElem?_eq_getElem (by have := HR.out; omega)⟩
   obtain ⟨l2', he2⟩ : ∃ l, L2[0]? = some l := ⟨_, List.getElem?_eq_getElem (by have := HS.out; omega)⟩
   obtain ⟨a1, D1, d1', rfl, hab1, hcell1, hint1, lc1, -⟩ := (H1.out.keep (.of_below HBO.out)).at he1
   obtain ⟨a2, D2, d2', rfl, hab2, hcell2, hint2, lc2, -⟩ := (H2.out.keep (.of_below HBO.out)).at he2
   rw [addr_zero] at hcell1 hcell2
   have HR1 : Hid (rsumA 0 l1' = p1) := by show _ = _; rw [← HT1.out]; unfold tot; rw [List.getD_eq_getElem?_getD, he1]; rfl
   have HR2 : Hid (rsumA 0 l2' = p2) := by show _ = _; rw [← HT2.out]; unfold tot; rw [List.getD_eq_getElem?_getD, he2]; rfl
   have NLo : Loc wo w.heap.size _ _ := NL.to
   have NMo : Loc wo (w.heap.size + 1) _ _ := NM.to
   obtain ⟨n1, hn1⟩ : ∃ n, l1'.length = n := ⟨_, rfl⟩
   obtain ⟨n2, hn2⟩ : ∃ n, l2'.length = n := ⟨_, rfl⟩
   rw [hn1] at hcell1 hint1
   rw [hn2] at hcell2 hint2
   have HC : Hid (∀ W, Below wo.heap.size wo W → Reg40s.SXT w.heap.size (w.heap.size + 1) r c1 s c2 n1 d1' n2 d2' a1 a2 D1 D2 W) := fun W hW =>
    ⟨⟨Loc.cell (NLo.below hW) 0, Loc.cell (NMo.below hW) 0⟩, cell_keep (X := fun _ => False) hcell1 hab1 id (.of_below hW), cell_keep (X := fun _ => False) hcell2 hab2 id (.of_below hW)⟩
   have HI1 := Lib.hid hint1
   have HI2 := Lib.hid hint2
   have ht1' := Lib.hid ht1
   have ht2' := Lib.hid ht2
   obtain ⟨x1, hx1⟩ : ∃ q, worthV (wid L1) c L1.length (ce L1) F = q := ⟨_, rfl⟩
   obtain ⟨x2, hx2⟩ : ∃ q, worthV (wid L2) c L2.length (ce L2) F = q := ⟨_, rfl⟩
   have HX1 := Lib.hid hx1
   have HX2 := Lib.hid hx2
   have HG : Hid (GN L1 L2 c N F ↔ (p2 : Rat) * x1 < (p1 : Rat) * x2) := by
    show _ ↔ _
    rw [HGN.out, HX1.out, HX2.out]
    exact ⟨fun h => h.2, fun h => ⟨hall.out, h⟩⟩
   have HNS : Hid (∀ i, i < c → N i = L2.length) := fun i hi => by rw [← HP1.out.2.2]; exact HNR.out i hi
   have HF1 : Hid (∀ i, i < c → ∀ x, x < L2.length → 0 ≤ F i x) := fun i hi x hx => HF0.out i hi x (by rw [HP1.out.2.2]; exact hx)
   clear he1 he2 hn1 hn2 hcell1 hcell2 hint1 hint2 hx1 hx2 HGN
   go_upto_region 9 with fail
   refine Reg40s.reg hr1 hs1 HC (Lib.hid (fun W hW => HI1.out.keep (.of_below hW))) (Lib.hid (fun W hW => HI2.out.keep (.of_below hW))) HR1 HR2 ht1' ht2' ?_
   intro W4 ga gb bp dp bq dq Ep Gp Eq Gq mp kp' np lp mq kq nq lq v37 v38 v39 v40 v41 v42 v43 v44 v45 v46 v47 v48 hab hga hgb La Lb VP VQ hB4
   obtain ⟨w4, rfl⟩ : ∃ w4 : World, w4 = W4 := ⟨_, rfl⟩
   have y4 := hB4.size; (try simp only [zs] at y4)
   have hla := La.lt
   have hlb := Lb.lt
   have HBW : Hid (∀ W, Below w4.heap.size w4 W → Below w.heap.size w W) := fun W hW => HBO.out.trans ((hB4.trans (hW.mono y4)).mono (by omega))
   have NL4 : Loc w4 w.heap.size _ _ := NLo.to
   have NM4 : Loc w4 (w.heap.size + 1) _ _ := NMo.to
   have HLS : Hid (∀ W, Below w4.heap.size w4 W → (((W.cell? ⟨ga, 0, none⟩ = some (.bool bp) ∧ W.cell? ⟨ga, 1, none⟩ = some (.slice Ep mp kp')) ∧ W.cell? ⟨ga, 2, none⟩ = some (.bool dp) ∧ W.cell? ⟨ga, 3, none⟩ = some (.slice Gp np lp)) ∧ ((W.cell? ⟨gb, 0, none⟩ = some (.bool bq) ∧ W.cell? ⟨gb, 1, none⟩ = some (.slice Eq mq kq)) ∧ W.cell? ⟨gb, 2, none⟩ = some (.bool dq) ∧ W.cell? ⟨gb, 3, none⟩ = some (.slice Gq nq lq)) ∧ W.cell? ⟨w.heap.size, 0, none⟩ = some (.slice (some a1) r c1) ∧ W.cell? ⟨w.heap.size + 1, 0, none⟩ = some (.slice (some a2) s c2))) := fun W hW =>
    ⟨⟨⟨Loc.cell (La.below hW) 0, Loc.cell (La.below hW) 1⟩, Loc.cell (La.below hW) 2, Loc.cell (La.below hW) 3⟩, ⟨⟨Loc.cell (Lb.below hW) 0, Loc.cell (Lb.below hW) 1⟩, Loc.cell (Lb.below hW) 2, Loc.cell (Lb.below hW) 3⟩, Loc.cell (NL4.below hW) 0, Loc.cell (NM4.below hW) 0⟩
   obtain ⟨q, hq⟩ : ∃ q, rcmp ((p1 : Rat) * x2) ((p2 : Rat) * x1) = q := ⟨_, rfl⟩
   have HQ := Lib.hid hq
   have HZ : Hid (0 < q ↔ GN L1 L2 c N F) := by show _ ↔ _; rw [← hq, HG.out]; exact rcmp_pos _ _
   clear hq HC HG
   go_upto_region 10 with fail
   go_wp2_with fail
   refine wp_region_noPanic ?_
   refine wp_region_held_drew (S := (fun W => (((W.cell? ⟨ga, 0, none⟩ = some (.bool bp) ∧ W.cell? ⟨ga, 1, none⟩ = some (.slice Ep mp kp')) ∧ W.cell? ⟨ga, 2, none⟩ = some (.bool dp) ∧ W.cell? ⟨ga, 3, none⟩ = some (.slice Gp np lp)) ∧ ((W.cell? ⟨gb, 0, none⟩ = some (.bool bq) ∧ W.cell? ⟨gb, 1, none⟩ = some (.slice Eq mq kq)) ∧ W.cell? ⟨gb, 2, none⟩ = some (.bool dq) ∧ W.cell? ⟨gb, 3, none⟩ = some (.slice Gq nq lq)) ∧ W.cell? ⟨w.heap.size, 0, none⟩ = some (.slice (some a1) r c1) ∧ W.cell? ⟨w.heap.size + 1, 0, none⟩ = some (.slice (some a2) s c2)))) (by kernel_rfl) ?_ (fun hHeld => ?_)
   ·exact HLS.out _ bel
   refine takeT 0 hHeld ?_
   (try simp only [Act.put, ly])
   refine takeT 1 hHeld ?_
   (try simp only [Act.put, ly])
   refine takeT 2 hHeld ?_
   (try simp only [Act.put, ly])
   refine takeT 5 hHeld ?_
   (try simp only [Act.put, ly])
   refine takeT 6 hHeld ?_
   (try simp only [Act.put, ly])
   refine takeT 7 hHeld ?_
   (try simp only [Act.put, ly])
   refine wpAnyH_ready (rs := [3]) (by kernel_rfl) (by simp) ?_
   refine AllReadyH.cons rfl (fun K hK => ?_) AllReadyH.nil
   go_simp
   refine (lworth_any _ _ _ L2 c k B N F (H2.out.keep (.of_below (HBW.out _ bel))) HP1.out.2.1 (H.out.keep (.of_below (HBW.out _ bel))) HNS.out HF1.out hKn hw2 hk1 (by rw [← HP1.out.2.2]; exact HBB.out.1) HBB.out.2.2).mono ?_
   rintro e u1 ⟨v1, rfl, j1, hb1⟩
   rw [HX2.out] at j1
   have HJ1 := Lib.hid (j1.rsz (by omega))
   obtain ⟨b11, A11, m11, c11, b11', A11', m11', c11', rfl, j1, -⟩ := j1.op
   have y11 := hb1.size; (try simp only [zs] at y11)
   (try go_wp2_with fail)
   refine hK.out _ _ ?_ (fun hHeld => ?_)
   ·(try dsimp only)
    exact HLS.out _ bel
   clear hK K
   (try simp only [Act.put, ly])
   refine wpAnyH_ready (rs := [4]) (by kernel_rfl) (by simp) ?_
   refine AllReadyH.cons rfl (fun K hK => ?_) AllReadyH.nil
   go_simp
   refine (rmul_rat _ (fun _ => False) _ _ (p1 : Rat) x2 (RatL.to (VP.mono (by omega))) (RatL.to (j1.mono (by omega)))).mono ?_
   rintro e u2 ⟨v2, rfl, j2, hb2⟩
   obtain ⟨b12, A12, m12, c12, b12', A12', m12', c12', rfl, j2, -, -⟩ := j2.op
   have y12 := hb2.size; (try simp only [zs] at y12)
   (try go_wp2_with fail)
   refine hK.out _ _ ?_ (fun hHeld => ?_)
   ·(try dsimp only)
    exact HLS.out _ bel
   clear hK K
   (try simp only [Act.put, ly])
   refine wpAnyH_ready (rs := [8]) (by kernel_rfl) (by simp) ?_
   refine AllReadyH.cons rfl (fun K hK => ?_) AllReadyH.nil
   go_simp
   refine (lworth_any _ _ _ L1 c k B N F (H1.out.keep (.of_below (HBW.out _ bel))) HP1.out.1 (H.out.keep (.of_below (HBW.out _ bel))) HNR.out HF0.out hKn hw1 hk1 HBB.out.1 HBB.out.2.1).mono ?_
   rintro e u3 ⟨v3, rfl, j3, hb3⟩
   rw [HX1.out] at j3
   have HJ3 := Lib.hid (j3.rsz (by omega))
   obtain ⟨b13, A13, m13, c13, b13', A13', m13', c13', rfl, j3, -⟩ := j3.op
   have y13 := hb3.size; (try simp only [zs] at y13)
   (try go_wp2_with fail)
   refine hK.out _ _ ?_ (fun hHeld => ?_)
   ·(try dsimp only)
    exact HLS.out _ bel
   clear hK K
   (try simp only [Act.put, ly])
   refine wpAnyH_ready (rs := [9]) (by kernel_rfl) (by simp) ?_
   refine AllReadyH.cons rfl (fun K hK => ?_) AllReadyH.nil
   go_simp
   refine (rmul_rat _ (fun _ => False) _ _ (p2 : Rat) x1 (RatL.to (VQ.mono (by omega))) (RatL.to (j3.mono (by omega)))).mono ?_
   rintro e u4 ⟨v4, rfl, j4, hb4⟩
   obtain ⟨b14, A14, m14, c14, b14', A14', m14', c14', rfl, j4, -, -⟩ := j4.op
   have y14 := hb4.size; (try simp only [zs] at y14)
   (try go_wp2_with fail)
   refine hK.out _ _ ?_ (fun hHeld => ?_)
   ·(try dsimp only)
    exact HLS.out _ bel
   clear hK K
   (try simp only [Act.put, ly])
   refine wpAnyH_ready (rs := [10]) (by kernel_rfl) (by simp) ?_
   refine AllReadyH.cons rfl (fun K hK => ?_) AllReadyH.nil
   go_simp
   refine (rcompare_rat _ (fun _ => False) _ _ ((p1 : Rat) * x2) ((p2 : Rat) * x1) (RatL.to ((j2.len ((rsz_int (by omega) (by omega)).mul HJ1.out)).mono (by omega))) (RatL.to ((j4.len ((rsz_int (by omega) (by omega)).mul HJ3.out)).mono (by omega)))).mono ?_
   rintro e u5 ⟨he, hb5⟩
   rw [HQ.out] at he
   subst he
   have y15 := hb5.size; (try simp only [zs] at y15)
   have HBF : Hid (Below w.heap.size w u5) := HBW.out _ bel
   (try go_wp2_with fail)
   refine hK.out _ _ ?_ (fun hHeld => ?_)
   ·(try dsimp only)
    exact HLS.out _ bel
   clear hK K
   (try simp only [Act.put, ly])
   by_cases h0 : 0 < q
   ·have HV := Lib.hid (HZ.out.1 h0)
    have d5 : decide (0 < q) = true := decide_eq_true h0
    clear HZ h0
    refine takeT 11 hHeld ?_
    (try simp only [Act.put, ly])
    refine takeT 12 hHeld ?_
    (try simp only [Act.put, ly])
    refine wpAnyH_done (by kernel_rfl) ?_ _
    refine NoPanic.normal ?_
    go_wp2_with fail
    go_ret
    exact ⟨Tells.yes HV.out, HBF.out⟩
   ·have HV : Hid (¬ GN L1 L2 c N F) := fun h => h0 (HZ.out.2 h)
    have d5 : decide (0 < q) = false := decide_eq_false h0
    clear HZ h0
    refine takeT 11 hHeld ?_
    (try simp only [Act.put, ly])
    refine takeT 12 hHeld ?_
    (try simp only [Act.put, ly])
    refine wpAnyH_done (by kernel_rfl) ?_ _
    refine NoPanic.normal ?_
    go_wp2_with fail
    go_ret
    exact ⟨Tells.no HV.out, HBF.out⟩

set_option maxRecDepth 100000 in
set_option maxHeartbeats 16000000 in
theorem proves_any (w : World) (v1 v2 vw vg : Value) (b : Bool) (L1 L2 : List (List Int)) (m Kn k k' B : Nat) (N N' : Nat → Nat) (F F' : Nat → Nat → Rat) (h1 : IMat w v1 L1) (h2 : IMat w v2 L2) (h : Mat k w (fun _ => False) vw m N F) (h' : Mat k' w (fun _ => False) vg Kn N' F')
 (hm : m ≤ 200) (hN : ∀ i, i < m → N i ≤ 200) (hK : Kn ≤ 200) (hw1 : wid L1 ≤ 200) (hw2 : wid L2 ≤ 200) (hk1 : 1 ≤ k) (hk : k ≤ 1990) (hk1' : 1 ≤ k') (hk' : k' ≤ 40000) (hB : (2 + k' + 1) * L1.length + 2 ≤ B) (hB1 : (B + 1) * wid L1 + 2 ≤ 900000) (hB2 : (B + 1) * wid L2 + 2 ≤ 900000) :
 Calls Tryz.prog 21 #[.agg #[v1], .agg #[v2], .agg #[.bool b, vw, vg]] w fun e w' => Tells (PRF L1 L2 b m N F Kn N' F') e ∧ Below w.heap.size w w' := by
 have H1 := Lib.hid h1
 have H2 := Lib.hid h2
 have H := Lib.hid h
 have H' := Lib.hid h'
 have HN := Lib.hid hN
 have HB := Lib.hid (And.intro hB (And.intro hB1 hB2))
 obtain ⟨A1, c1, rfl, -, la1, la2⟩ := h1.op
 obtain ⟨A2, c2, rfl, -, lb1, lb2⟩ := h2.op
 obtain ⟨A, cA, rfl, -, l1, l2⟩ := h.op
 obtain ⟨A', cA', rfl, -, l3, l4⟩ := h'.op
 clear h1 h2 h h' hN hB hB1 hB2
 cases b
 case true =>
  by_cases hz : Kn = 0
  ·have HZ := Lib.hid hz
   have d1 : ((Kn : Int) == 0) = true := beq_iff_eq.2 (by omega)
   have HP : Hid (PRF L1 L2 true m N F Kn N' F' ↔ WIT L1 L2 m N F) := ⟨fun h => (by rcases h with h | h; exact h.2.2; cases h.1), fun h => .inl ⟨rfl, HZ.out, h⟩⟩
   clear hz
   go_enter Tryz.func21, Tryz.ntmps21
   go_wp2_with fail
   refine (lwitness_any _ _ _ _ L1 L2 m k N F (H1.out.keep kp) (H2.out.keep kp) (H.out.keep kp) hm HN.out hk1 hk).mono ?_
   rintro e w1 ⟨⟨b, rfl, hb⟩, hb1⟩
   have HV := Lib.hid (hb.out.trans HP.out.symm)
   clear hb HP
   go_wp2_with fail
   go_ret
   exact ⟨⟨b, rfl, HV.out⟩, bel⟩
  ·have HV : Hid (¬ PRF L1 L2 true m N F Kn N' F') := fun h => by rcases h with h | h; exact hz h.2.1; cases h.1
   have d1 : ((Kn : Int) == 0) = false := beq_eq_false_iff_ne.2 (by omega)
   clear hz
   go_enter Tryz.func21, Tryz.ntmps21
   go_wp2_with fail
   go_ret
   exact ⟨Tells.no HV.out, bel⟩
 case false =>
  by_cases hz : m = 0
  ·have HZ := Lib.hid hz
   have d1 : ((m : Int) == 0) = true := beq_iff_eq.2 (by omega)
   have HP : Hid (PRF L1 L2 false m N F Kn N' F' ↔ GN L1 L2 Kn N' F') := ⟨fun h => (by rcases h with h | h; cases h.1; exact h.2.2), fun h => .inr ⟨rfl, HZ.out, h⟩⟩
   clear hz
   go_enter Tryz.func21, Tryz.ntmps21
   go_wp2_with fail
   refine (separates_any _ _ _ _ L1 L2 Kn k' B N' F' (H1.out.keep kp) (H2.out.keep kp) (H'.out.keep kp) hK hw1 hw2 hk1' (by omega) HB.out.1 HB.out.2.1 HB.out.2.2).mono ?_
   rintro e w1 ⟨⟨b, rfl, hb⟩, hb1⟩
   have HV := Lib.hid (hb.out.trans HP.out.symm)
   clear hb HP
   go_wp2_with fail
   go_ret
   exact ⟨⟨b, rfl, HV.out⟩, bel⟩
  ·have HV : Hid (¬ PRF L1 L2 false m N F Kn N' F') := fun h => by rcases h with h | h; cases h.1; exact hz h.2.1
   have d1 : ((m : Int) == 0) = false := beq_eq_false_iff_ne.2 (by omega)
   clear hz
   go_enter Tryz.func21, Tryz.ntmps21
   go_wp2_with fail
   go_ret
   exact ⟨Tells.no HV.out, bel⟩

/- Layer 8's law: raw lists of fractions; numbers. -/

def RF.q (e : RF) : Rat := rv e.n1 e.xs e.n2 e.ys
/-- The values of a list of raw fractions. -/
def qs (l : List RF) : Nat → Rat := fun i => match l[i]? with
 | some e => e.q
 | none => 0
/-- At most two words in each part. -/
def RF.few (e : RF) : Prop := e.xs.length ≤ 2 ∧ e.ys.length ≤ 2
theorem qs_get {l : List RF} {i : Nat} {e : RF} (h : l[i]? = some e) : qs l i = e.q := by unfold qs; rw [h]

section
variable {w w' : World} {X : Nat → Prop} {v : Value} {l : List RF} {k : Nat}
theorem RatAt.keep {a : Addr} {e : RF} (h : RatAt w X a e) (ha : a.block < w.heap.size) (hx : ¬ X a.block) (hk : Keep X w w') : RatAt w' X a e := by
 obtain ⟨C, c, D, d, h0, h1, h2, h3, h4⟩ := h
 exact ⟨C, c, D, d, cell_keep h0 ha hx hk, cell_keep h1 (by rw [addr_block]; exact ha) (by rw [addr_block]; exact hx) hk, cell_keep h2 (by rw [addr_block]; exact ha) (by rw [addr_block]; exact hx) hk, cell_keep h3 (by rw [addr_block]; exact ha) (by rw [addr_block]; exact hx) hk, h4.keep hk⟩
theorem Rats.keep (h : Rats w (fun _ => False) v l) (hk : Keep (fun _ => False) w w') : Rats w' (fun _ => False) v l := by
 obtain ⟨A, cap, hv, h1, h2, h3⟩ := h
 refine ⟨A, cap, hv, h1, h2, fun hn => ?_⟩
 obtain ⟨a, ha, hb, hc⟩ := h3 hn
 exact ⟨a, ha, Nat.lt_of_lt_of_le hb hk.size, fun i e he => (hc i e he).keep (by rw [addr_block]; exact hb) id hk⟩
theorem Rats.op (h : Rats w X v l) : ∃ (A : Option Addr) (cap : Nat), v = .slice A l.length cap ∧ Rats w X (.slice A l.length cap) l ∧ l.length ≤ cap ∧ cap ≤ maxLen := by
 have h0 := h
 obtain ⟨A, cap, rfl, h1, h2, -⟩ := h
 exact ⟨A, cap, rfl, h0, h1, h2⟩
theorem Rats.at {A : Option Addr} {n cap : Nat} (h : Rats w X (.slice A n cap) l) {i : Nat} {e : RF} (he : l[i]? = some e) : ∃ a : Addr, A = some a ∧ a.block < w.heap.size ∧ RatAt w X (a.add (i * 4)) e := by
 obtain ⟨A', cap', hv, h1, h2, h3⟩ := h
 injection hv with e1 e2 e3
 subst e1
 obtain ⟨a, ha, hb, hc⟩ := h3 (by have := (List.getElem?_eq_some_iff.1 he).1; omega)
 exact ⟨a, ha, hb, hc i e he⟩
/-- A list of short numbers is a list of numbers. -/
theorem Rats.nums (h : Rats w (fun _ => False) v l) (hf : ∀ (i : Nat) (e : RF), l[i]? = some e → e.few) : Nums 2 w (fun _ => False) v l.length (qs l) := by
 obtain ⟨A, cap, rfl, h1, h2, h3⟩ := h
 have key : ∀ i, i < l.length → ∃ r : R4, (∀ a, A = some a → w.cell? (a.add (i * 4)) = some (.bool r.b) ∧ w.cell? ((a.add (i * 4)).add 1) = some (.slice r.A r.m r.c) ∧ w.cell? ((a.add (i * 4)).add 2) = some (.bool r.b') ∧ w.cell? ((a.add (i * 4)).add 3) = some (.slice r.A' r.m' r.c')) ∧ RatL 2 w (fun _ => False) r.v (qs l i) := fun i hi => by
  have he := List.getElem?_eq_getElem hi
  obtain ⟨a, ha, hb, hc⟩ := h3 (by omega)
  obtain ⟨C, c, D, d, c0, c1, c2, c3, hr⟩ := hc i _ he
  have hw := hf i _ he
  refine ⟨⟨l[i].n1, C, l[i].xs.length, c, l[i].n2, D, l[i].ys.length, d⟩, fun a' ha' => ?_, ?_⟩
  ·rw [ha] at ha'; injection ha' with ha'; subst ha'
   exact ⟨c0, c1, c2, c3⟩
  ·exact ⟨l[i].n1, l[i].xs, l[i].n2, l[i].ys, hr, hw.1, hw.2, (qs_get he).symm⟩
 obtain ⟨rs, hl, hp⟩ := list_of _ l.length key
 refine ⟨rs, A, cap, hl, rfl, h1, h2, fun hn => ?_, fun i r hr => (hp i r hr).2⟩
 obtain ⟨a, ha, hb, -⟩ := h3 hn
 exact ⟨a, ha, hb, id, fun i r hr => (hp i r hr).1 a ha⟩
end
end Go.Proofs.YtdambnieminnfaaGreat

/- Arguments opened: a list of lists of fractions (as in OpenS, which serves layer 8). -/
namespace Go.Proofs.YtdambnieminnfaaGreat
open Go.ChangeShapes Go.WideShapes Go.ChangeAt Go.RowKit Go.Joins

theorem cellsRats : Tryz.prog.cellsOf 55 = 1 := by kernel_rfl
theorem cellsMat : Tryz.prog.cellsOf 25 = 1 := by kernel_rfl
/-- A list of lists of raw fractions. -/
def RMat (w : World) (v : Value) (L : List (List RF)) : Prop :=
 ∃ A cap, v = .slice A L.length cap ∧ L.length ≤ cap ∧ cap ≤ maxLen ∧ (L.length ≠ 0 → ∃ a, A = some a ∧ a.block < w.heap.size ∧ ∀ i l, L[i]? = some l → ∃ B c, w.cell? (a.add i) = some (.slice B l.length c) ∧ Rats w (fun _ => False) (.slice B l.length c) l)

def qm (L : List (List RF)) : Nat → Nat → Rat := fun i => match L[i]? with
 | some l => qs l
 | none => fun _ => 0
def lens (L : List (List RF)) : Nat → Nat := fun i => match L[i]? with
 | some l => l.length
 | none => 0
theorem qm_get {L : List (List RF)} {i : Nat} {l : List RF} (h : L[i]? = some l) : qm L i = qs l := by unfold qm; rw [h]
theorem lens_get {L : List (List RF)} {i : Nat} {l : List RF} (h : L[i]? = some l) : lens L i = l.length := by unfold lens; rw [h]

section
variable {w w' : World} {v : Value} {L : List (List RF)}
theorem RMat.keep (h : RMat w v L) (hk : Keep (fun _ => False) w w') : RMat w' v L := by
 obtain ⟨A, cap, hv, h1, h2, h3⟩ := h
 refine ⟨A, cap, hv, h1, h2, fun hn => ?_⟩
 obtain ⟨a, ha, hb, hc⟩ := h3 hn
 refine ⟨a, ha, Nat.lt_of_lt_of_le hb hk.size, fun i l hl => ?_⟩
 obtain ⟨B, c, h4, h5⟩ := hc i l hl
 exact ⟨B, c, cell_keep h4 (by rw [addr_block]; exact hb) id hk, h5.keep hk⟩
theorem RMat.op (h : RMat w v L) : ∃ (A : Option Addr) (cap : Nat), v = .slice A L.length cap ∧ RMat w (.slice A L.length cap) L ∧ L.length ≤ cap ∧ cap ≤ maxLen := by
 have h0 := h
 obtain ⟨A, cap, rfl, h1, h2, -⟩ := h
 exact ⟨A, cap, rfl, h0, h1, h2⟩
theorem RMat.at {A : Option Addr} {n cap : Nat} (h : RMat w (.slice A n cap) L) {i : Nat} {l : List RF} (he : L[i]? = some l) : ∃ (a : Addr) (B : Option Addr) (c : Nat), A = some a ∧ a.block < w.heap.size ∧ w.cell? (a.add i) = some (.slice B l.length c) ∧ Rats w (fun _ => False) (.slice B l.length c) l ∧ l.length ≤ c ∧ c ≤ maxLen := by
 obtain ⟨A', cap', hv, h1, h2, h3⟩ := h
 injection hv with e1 e2 e3
 subst e1
 obtain ⟨a, ha, hb, hc⟩ := h3 (by have := (List.getElem?_eq_some_iff.1 he).1; omega)
 obtain ⟨B, c, h4, h5⟩ := hc i l he
 obtain ⟨A2, c2, h6, -, h7, h8⟩ := h5.op
 injection h6 with e1 e2 e3
 subst e1 e3
 exact ⟨a, B, c, ha, hb, h4, h5, h7, h8⟩
theorem RMat.mat (h : RMat w v L) (hf : ∀ (i : Nat) (l : List RF), L[i]? = some l → ∀ (j : Nat) (e : RF), l[j]? = some e → e.few) : Mat 2 w (fun _ => False) v L.length (lens L) (qm L) := by
 obtain ⟨A, cap, rfl, h1, h2, h3⟩ := h
 have key : ∀ i, i < L.length → ∃ u : Value, (∀ a, A = some a → w.cell? (a.add i) = some u) ∧ Nums 2 w (fun _ => False) u (lens L i) (qm L i) := fun i hi => by
  have he := List.getElem?_eq_getElem hi
  obtain ⟨a, ha, hb, hc⟩ := h3 (by omega)
  obtain ⟨B, c, h4, h5⟩ := hc i _ he
  refine ⟨.slice B L[i].length c, fun a' ha' => ?_, ?_⟩
  ·rw [ha] at ha'; injection ha' with ha'; subst ha'
   exact h4
  ·rw [lens_get he, qm_get he]
   exact h5.nums (hf i _ he)
 obtain ⟨us, hl, hp⟩ := list_of _ L.length key
 refine ⟨us, A, cap, hl, rfl, h1, h2, fun hn => ?_, fun i u hu => (hp i u hu).2⟩
 obtain ⟨a, ha, hb, -⟩ := h3 hn
 exact ⟨a, ha, hb, id, fun i u hu => (hp i u hu).1 a ha⟩
end

set_option maxRecDepth 100000 in
theorem open_RMat {H : Type} {enc : TypeId × Value → H} {W : World} {base : Nat} {fuel : Nat} {v : Value} {x : DataW H × List MemPlace}
 (h : DataW.trod enc Tryz.prog W base (fun _ => true) true fuel 25 [v] = some x) : ∃ L, RMat W v L := by
 rcases DataW.trod_slice Tryz.underlying25 h with ⟨hcs, _⟩ | ⟨a, len, cap, elems, rest, n, _, hcs, _, hb, hl, hm, hlen, hel, _⟩
 ·simp at hcs
  subst hcs
  exact ⟨[], none, 0, rfl, Nat.le_refl _, Nat.zero_le _, fun h => absurd rfl h⟩
 ·simp at hcs
  subst hcs
  have key : ∀ i, i < len → ∃ l, (∃ B c, W.cell? (a.add i) = some (.slice B l.length c) ∧ Rats W (fun _ => False) (.slice B l.length c) l) ∧ a.block < W.heap.size := fun i hi => by
   have hq := hel i hi
   rw [cellsRats, List.getElem?_eq_getElem (l := elems) (i := i) (by omega), Option.bind_eq_some_iff, Nat.mul_one] at hq
   obtain ⟨cs, hcs, ht⟩ := hq
   obtain ⟨_, hn, hc⟩ := World.cells?_some hcs
   match cs, hn with
   | [c0], _ =>
     obtain ⟨l, hr⟩ := open_Rats ht
     have hbl0 := World.cells?_block hcs (show 0 < 1 by decide)
     have hbl : a.block < W.heap.size := by rw [add_block] at hbl0; exact hbl0
     obtain ⟨B, c, e, hr2, -, -⟩ := hr.op
     have h0 := hc 0 (by decide)
     rw [addr_zero] at h0
     refine ⟨l, ⟨B, c, ?_, hr2⟩, hbl⟩
     rw [← e]; exact h0
  obtain ⟨L, hl', hp⟩ := list_of _ len (fun i hi => key i hi)
  subst hl'
  refine ⟨L, some a, cap, rfl, hl, hm, fun hz => ⟨a, rfl, ?_, fun i e he => (hp i e he).1⟩⟩
  obtain ⟨e, he⟩ := key 0 (by omega)
  exact he.2

end Go.Proofs.YtdambnieminnfaaGreat

