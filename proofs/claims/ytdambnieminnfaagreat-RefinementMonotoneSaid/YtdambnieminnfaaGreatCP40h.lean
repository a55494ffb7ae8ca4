/- For every input the law returns true: the law's walk, and the statement out of it. -/
import Derived.Test.YtdambnieminnfaaGreatRows
import Derived.Test.YtdambnieminnfaaGreatX3
import Derived.Test.YtdambnieminnfaaGreatX20
import Derived.Test.YtdambnieminnfaaGreatX27
import Derived.Test.YtdambnieminnfaaGreatX41
import Derived.Test.YtdambnieminnfaaGreatX46
set_option linter.unusedSimpArgs false
set_option linter.unusedVariables false

/- RefinementMonotone: the law's walk. -/
namespace Go.Proofs.YtdambnieminnfaaGreat
open Go.RowKit
attribute [local go_sem ↓] Go.wp_at_zero Go.wp_at_succ
attribute [local go_sem] beq_self_eq_true

set_option maxHeartbeats 4000000 in
/-- The predicate of the gains. -/
theorem mono1_any (w : World) (A : Option Addr) (c g3 r1 c1 : Nat) (A1 : Option Addr) (l : List Int) (hl : l.length ≤ c) (hc : c ≤ maxLen) (hr : r1 ≤ 5) (hb : Loc w g3 24 #[.slice A1 r1 c1]) :
 Calls Tryz.prog 27 #[.slice A l.length c, .pointer (some ⟨g3, 0, none⟩)] w fun e w' => Tells (l.length < r1) e ∧ Below w.heap.size w w' := by
 obtain ⟨n, hn⟩ : ∃ n, l.length = n := ⟨_, rfl⟩
 rw [hn] at hl ⊢
 unfold maxLen at hc
 obtain ⟨e1, f1, -⟩ := hb.all (w' := w)
 clear hn
 by_cases h : n < r1
 ·have d : decide ((n : Int) < (r1 : Int)) = true := decide_eq_true (by omega)
  go_enter Tryz.func27, Tryz.ntmps27
  go_wp2_with fail
  go_ret
  exact ⟨Tells.yes h, bel⟩
 ·have d : decide ((n : Int) < (r1 : Int)) = false := decide_eq_false (by omega)
  go_enter Tryz.func27, Tryz.ntmps27
  go_wp2_with fail
  go_ret
  exact ⟨Tells.no h, bel⟩

set_option maxRecDepth 100000 in
set_option maxHeartbeats 16000000 in
theorem monotone_walk (w : World) (v1 v2 vp vg : Value) (L1 L2 GL : List (List Int)) (l : List Int) (h1 : IMat w v1 L1) (h2 : IMat w v2 L2) (h3 : IntsV w vp l) (h4 : IMat w vg GL) :
 Calls Tryz.prog 8 #[.agg #[v1], .agg #[v2], .agg #[vp, vg]] w fun e w' => e = .returned (.bool true) ∧ Below w.heap.size w w' := by
 have H1 := Lib.hid h1
 have H2 := Lib.hid h2
 have H3 := Lib.hid h3
 have H4 := Lib.hid h4
 obtain ⟨A1, c1, rfl, -, -, -⟩ := h1.op
 obtain ⟨A2, c2, rfl, -, -, -⟩ := h2.op
 obtain ⟨A3, c3, rfl, -, l31, l32⟩ := h3.op
 obtain ⟨A4, c4, rfl, -, l41, l42⟩ := h4.op
 obtain ⟨r1, hr1⟩ : ∃ r, L1.length = r := ⟨_, rfl⟩
 obtain ⟨r2, hr2⟩ : ∃ r, L2.length = r := ⟨_, rfl⟩
 obtain ⟨pl, hpl⟩ : ∃ r, l.length = r := ⟨_, rfl⟩
 obtain ⟨K, hK⟩ : ∃ r, GL.length = r := ⟨_, rfl⟩
 have HR1 := Lib.hid hr1
 have HR2 := Lib.hid hr2
 have HPL := Lib.hid hpl
 have HK := Lib.hid hK
 rw [hr1] at H1
 rw [hr2] at H2
 rw [hpl] at H3 l31
 rw [hK] at H4 l41
 rw [hr1, hr2, hpl, hK]
 unfold maxLen at l32 l42
 have B1 := made1 w #[.slice A1 r1 c1] 24
 have B2 := made2 w (.cells #[.slice A1 r1 c1] 24) #[.slice A2 r2 c2] 24
 have B3 := made3 w (.cells #[.slice A1 r1 c1] 24) (.cells #[.slice A2 r2 c2] 24) #[.slice A3 pl c3, .slice A4 K c4] 42
 clear h1 h2 h3 h4 hr1 hr2 hpl hK
 go_enter Tryz.func8, Tryz.ntmps8
 go_wp2_with fail
 refine (known40_any _).mono ?_
 rintro e w1 ⟨rfl, hb1⟩
 have z1 := sz3 hb1
 have B11 : Loc w1 w.heap.size _ _ := B1.to
 have B21 : Loc w1 (w.heap.size + 1) _ _ := B2.to
 have B31 : Loc w1 (w.heap.size + 1 + 1) _ _ := B3.to
 have HB1 : Hid (Below w.heap.size w w1) := bel
 clear B1 B2 B3 hb1
 obtain ⟨e1, f1, -⟩ := B11.all (w' := w1)
 go_wp2_with fail
 refine (small_any _ _ L1 (H1.out.keep (.of_below HB1.out))).mono ?_
 rintro e w2 ⟨⟨bf, rfl, hf⟩, hb2⟩
 have y2 := hb2.size; (try simp only [zs] at y2)
 have HB2 : Hid (Below w.heap.size w w2) := HB1.out.trans (hb2.mono (by omega))
 cases bf
 case false =>
  clear e1 f1 hf
  go_wp2_with fail
  go_ret
  exact ⟨rfl, HB2.out⟩
 have HF1 : Hid (SM L1) := hf.out.1 rfl
 have B12 : Loc w2 (w.heap.size) _ _ := B11.to
 have B22 : Loc w2 (w.heap.size + 1) _ _ := B21.to
 have B32 : Loc w2 (w.heap.size + 1 + 1) _ _ := B31.to
 clear hf e1 f1 hb2 B11 B21 B31
 obtain ⟨e1, f1, -⟩ := B22.all (w' := w2)
 go_wp2_with fail
 refine (small_any _ _ L2 (H2.out.keep (.of_below HB2.out))).mono ?_
 rintro e w3 ⟨⟨bf, rfl, hf⟩, hb3⟩
 have y3 := hb3.size; (try simp only [zs] at y3)
 have HB3 : Hid (Below w.heap.size w w3) := HB2.out.trans (hb3.mono (by omega))
 cases bf
 case false =>
  clear e1 f1 hf
  go_wp2_with fail
  go_ret
  exact ⟨rfl, HB3.out⟩
 have HF2 : Hid (SM L2) := hf.out.1 rfl
 have B13 : Loc w3 (w.heap.size) _ _ := B12.to
 have B23 : Loc w3 (w.heap.size + 1) _ _ := B22.to
 have B33 : Loc w3 (w.heap.size + 1 + 1) _ _ := B32.to
 clear hf e1 f1 hb3 B12 B22 B32
 obtain ⟨e1, f1, -⟩ := B13.all (w' := w3)
 obtain ⟨e2, f2, -⟩ := B23.all (w' := w3)
 obtain ⟨e3, f3, -⟩ := B33.all (w' := w3)
 have hl1 : r1 ≤ 4 := by rw [← HR1.out]; exact HF1.out.2.2.1
 have hl2 : r2 ≤ 4 := by rw [← HR2.out]; exact HF2.out.2.2.1
 by_cases h12 : r1 = r2
 case neg =>
  have d1 : ((r1 : Int) != (r2 : Int)) = true := by simp only [bne_iff_ne]; omega
  go_wp2_with fail
  go_ret
  exact ⟨rfl, HB3.out⟩
 have d1 : ((r1 : Int) != (r2 : Int)) = false := by rw [h12]; exact bne_self_eq_false _
 have HE12 : Hid (L1.length = L2.length) := by show _ = _; rw [HR1.out, HR2.out, h12]
 by_cases hpr : pl < r1
 case pos =>
  have d2 : decide ((pl : Int) < (r1 : Int)) = true := decide_eq_true (by omega)
  clear h12
  go_wp2_with fail
  go_ret
  exact ⟨rfl, HB3.out⟩
 have d2 : decide ((pl : Int) < (r1 : Int)) = false := decide_eq_false (by omega)
 by_cases hk6 : 6 < K
 case pos =>
  have d3 : decide ((6 : Int) < (K : Int)) = true := decide_eq_true (by omega)
  clear h12
  go_wp2_with fail
  go_ret
  exact ⟨rfl, HB3.out⟩
 have d3 : decide ((6 : Int) < (K : Int)) = false := decide_eq_false (by omega)
 have HP1 : Hid (L1.length ≤ l.length) := by show _ ≤ _; rw [HR1.out, HPL.out]; omega
 have HK6 : Hid (GL.length ≤ 6) := by show _ ≤ _; rw [HK.out]; omega
 have HI4 : Hid (IMat w3 (.slice A4 K c4) GL) := H4.out.keep (.of_below HB3.out)
 have HB13 := Lib.hid B13
 clear h12
 go_wp2_with fail
 refine (containsI_any _ 27 #[.pointer (some ⟨w.heap.size, 0, none⟩)] (fun l => l.length < r1) _ GL HI4.out (enters Tryz.func27 (by kernel_rfl) (by kernel_rfl)) (show TellsI _ 27 #[.pointer (some ⟨w.heap.size, 0, none⟩)] (fun l => l.length < r1) GL from fun W A c l hW hv _ => by
  obtain ⟨A', cap, hvv, -, q1, q2⟩ := hv.op
  injection hvv with e1 e2 e3
  subst e3
  exact mono1_any W A c w.heap.size r1 c1 A1 l q1 q2 (by omega) (HB13.out.below hW))).mono ?_
 rintro e w4 ⟨⟨bf, rfl, hf⟩, hb4⟩
 have y4 := hb4.size; (try simp only [zs] at y4)
 have HB4 : Hid (Below w.heap.size w w4) := HB3.out.trans (hb4.mono (by omega))
 cases bf
 case true =>
  clear e1 f1 e2 f2 e3 f3 hf
  go_wp2_with fail
  go_ret
  exact ⟨rfl, HB4.out⟩
 have HROW : Hid (∀ r ∈ GL, L1.length ≤ r.length) := fun r hr => by
  have hn : ¬ ∃ l ∈ GL, l.length < r1 := fun h => by have := hf.out.2 h; cases this
  rw [HR1.out]
  have : ¬ r.length < r1 := fun h => hn ⟨r, hr, h⟩
  omega
 have B14 : Loc w4 (w.heap.size) _ _ := B13.to
 have B24 : Loc w4 (w.heap.size + 1) _ _ := B23.to
 have B34 : Loc w4 (w.heap.size + 1 + 1) _ _ := B33.to
 clear hf e1 f1 e2 f2 e3 f3 hb4 B13 B23 B33 d1 d2 d3
 obtain ⟨e1, f1, -⟩ := B14.all (w' := w4)
 obtain ⟨e2, f2, -⟩ := B24.all (w' := w4)
 go_wp2_with fail
 refine (decide_any _ _ _ L1 L2 (H1.out.keep (.of_below HB4.out)) (H2.out.keep (.of_below HB4.out)) (HF1.out.1.sz HF2.out.1)).mono ?_
 rintro e w5 ⟨b, vW, vG, m, K', F, G, code, rfl, hmm, hd, hb5⟩
 obtain ⟨rfl, hle⟩ := mono_dec (pr := fun x => mk10 (l.getD x 0)) (K := GL.length) (G := fun a x => mk10 (en GL a x)) HF1.out HF2.out HE12.out (fun x => mk10_le _) (fun a x => mk10_le _) hd.out
 have HLE := Lib.hid hle
 obtain ⟨AW, cW, rfl, -, -, -⟩ := hmm.out.1.op
 obtain ⟨AG, cG, rfl, -, -, -⟩ := hmm.out.2.op
 have y5 := hb5.size; (try simp only [zs] at y5)
 have HB5 : Hid (Below w.heap.size w w5) := HB4.out.trans (hb5.mono (by omega))
 have T5 := made1 w5 #[.bool b, .slice AW m cW, .slice AG K' cG] 27
 have B15 := (B14.below hb5).below (below1 w5 (.cells #[.bool b, .slice AW m cW, .slice AG K' cG] 27))
 have B25 := (B24.below hb5).below (below1 w5 (.cells #[.bool b, .slice AW m cW, .slice AG K' cG] 27))
 have B35 := (B34.below hb5).below (below1 w5 (.cells #[.bool b, .slice AW m cW, .slice AG K' cG] 27))
 have HB6 : Hid (Below w.heap.size w (w5.alloc (.cells #[.bool b, .slice AW m cW, .slice AG K' cG] 27))) := HB5.out.trans ((below1 w5 _).mono (by omega))
 obtain ⟨w6, hw6⟩ : ∃ W, w5.alloc (.cells #[.bool b, .slice AW m cW, .slice AG K' cG] 27) = W := ⟨_, rfl⟩
 rw [hw6] at T5 B15 B25 B35 HB6
 clear e1 f1 e2 f2 hmm hd hle hb5 B14 B24 B34
 cases b
 case false =>
  obtain ⟨e3, f3, -⟩ := T5.all (w' := w6)
  go_upto_region 7 with fail
  refine wp_region_noPanic ?_
  refine wp_region_held_drew (S := (fun W => W.cell? ⟨w5.heap.size, 0, none⟩ = some (.bool false))) (by kernel_rfl) ?_ (fun hHeld => ?_)
  ·exact Loc.cell T5 0
  refine takeT 0 hHeld ?_
  (try simp only [Act.put, ly])
  refine takeT 1 hHeld ?_
  (try simp only [Act.put, ly])
  refine takeT 2 hHeld ?_
  (try simp only [Act.put, ly])
  refine takeT 3 hHeld ?_
  (try simp only [Act.put, ly])
  refine takeT 4 hHeld ?_
  (try simp only [Act.put, ly])
  refine takeT 5 hHeld ?_
  (try simp only [Act.put, ly])
  refine takeT 6 hHeld ?_
  (try simp only [Act.put, ly])
  refine offT 7 hHeld ?_
  refine offT 8 hHeld ?_
  refine offT 9 hHeld ?_
  refine offT 10 hHeld ?_
  refine offT 11 hHeld ?_
  refine offT 12 hHeld ?_
  refine offT 13 hHeld ?_
  refine offT 14 hHeld ?_
  refine offT 15 hHeld ?_
  refine offT 16 hHeld ?_
  refine offT 17 hHeld ?_
  refine offT 18 hHeld ?_
  refine offT 19 hHeld ?_
  refine offT 20 hHeld ?_
  refine offT 21 hHeld ?_
  refine offT 22 hHeld ?_
  refine offT 23 hHeld ?_
  refine offT 24 hHeld ?_
  refine offT 25 hHeld ?_
  (try simp only [Act.put, ly])
  refine takeT 26 hHeld ?_
  (try simp only [Act.put, ly])
  refine takeT 27 hHeld ?_
  (try simp only [Act.put, ly])
  refine takeT 28 hHeld ?_
  (try simp only [Act.put, ly])
  refine wpAnyH_done (by kernel_rfl) ?_ _
  refine NoPanic.normal ?_
  go_wp2_with fail
  go_ret
  exact ⟨rfl, HB6.out.drew⟩
 obtain ⟨V2, hV2⟩ : ∃ V, gval (fun x => mk10 (l.getD x 0)) GL.length (fun a x => mk10 (en GL a x)) L2 (wid L2) = V := ⟨_, rfl⟩
 obtain ⟨V1, hV1⟩ : ∃ V, gval (fun x => mk10 (l.getD x 0)) GL.length (fun a x => mk10 (en GL a x)) L1 (wid L1) = V := ⟨_, rfl⟩
 obtain ⟨T1, hT1⟩ : ∃ V, tot L1 = V := ⟨_, rfl⟩
 obtain ⟨T2, hT2⟩ : ∃ V, tot L2 = V := ⟨_, rfl⟩
 have hle := HLE.out rfl
 have bT1 := HF1.out.2.1.tot.1
 have cT1 := HF1.out.2.2.2.2
 have bT2 := HF2.out.2.1.tot.1
 have cT2 := HF2.out.2.2.2.2
 have bV2 := gval_bound (pr := fun x => mk10 (l.getD x 0)) (K := GL.length) (G := fun a x => mk10 (en GL a x)) HF2.out (fun x => mk10_le _) (fun a x => mk10_le _) (Nat.le_refl _)
 have bV1 := gval_bound (pr := fun x => mk10 (l.getD x 0)) (K := GL.length) (G := fun a x => mk10 (en GL a x)) HF1.out (fun x => mk10_le _) (fun a x => mk10_le _) (Nat.le_refl _)
 rw [hT1, hT2, hV1, hV2] at hle
 rw [hT1] at bT1 cT1
 rw [hT2] at bT2 cT2
 rw [hV1] at bV1
 rw [hV2] at bV2
 have m1 := Int.mul_nonneg (by omega : 0 ≤ T1) bV2.1
 have m2 := Int.mul_le_mul cT1 bV2.2 bV2.1 (by decide)
 have m3 := Int.mul_nonneg (by omega : 0 ≤ T2) bV1.1
 have m4 := Int.mul_le_mul cT2 bV1.2 bV1.1 (by decide)
 have w1' : IntKind.i64.wrap (T1 * V2) = T1 * V2 := by rw [IntKind.wrap_i64]; omega
 have w2' : IntKind.i64.wrap (T2 * V1) = T2 * V1 := by rw [IntKind.wrap_i64]; omega
 have d9 : decide (T1 * V2 ≤ T2 * V1) = true := decide_eq_true hle
 have HT1 := Lib.hid hT1
 have HT2 := Lib.hid hT2
 have HV1 := Lib.hid hV1
 have HV2 := Lib.hid hV2
 obtain ⟨n1, hn1⟩ : ∃ n, wid L1 = n := ⟨_, rfl⟩
 obtain ⟨n2, hn2⟩ : ∃ n, wid L2 = n := ⟨_, rfl⟩
 have hr1p : 1 ≤ r1 := by have := HF1.out.2.1.1; have := HR1.out; omega
 have hr2p : 1 ≤ r2 := by have := HF2.out.2.1.1; have := HR2.out; omega
 obtain ⟨l1, hl01⟩ : ∃ l, L1[0]? = some l := ⟨_, List.getElem?_eq_getElem (by have := HR1.out; omega)⟩
 obtain ⟨l2, hl02⟩ : ∃ l, L2[0]? = some l := ⟨_, List.getElem?_eq_getElem (by have := HR2.out; omega)⟩
 obtain ⟨a1, D1, e1, rfl, hab1, hcell1, hints1, -, -⟩ := H1.out.at hl01
 obtain ⟨a2, D2, e2, rfl, hab2, hcell2, hints2, -, -⟩ := H2.out.at hl02
 have HI1 := Lib.hid hints1
 have HI2 := Lib.hid hints2
 rw [(HF1.out.2.1.row hl01).1, hn1] at hcell1 HI1
 rw [(HF2.out.2.1.row hl02).1, hn2] at hcell2 HI2
 rw [addr_zero] at hcell1 hcell2
 have HS1 : Hid (rsumA 0 l1 = T1) := by show _ = _; rw [← hT1]; unfold tot; rw [List.getD_eq_getElem?_getD, hl01]; rfl
 have HS2 : Hid (rsumA 0 l2 = T2) := by show _ = _; rw [← hT2]; unfold tot; rw [List.getD_eq_getElem?_getD, hl02]; rfl
 have HLS : Hid (∀ W, Below w6.heap.size w6 W → ((W.cell? ⟨w.heap.size, 0, none⟩ = some (.slice (some a1) r1 c1) ∧ W.cell? ⟨w.heap.size + 1, 0, none⟩ = some (.slice (some a2) r2 c2)) ∧ W.cell? ⟨w5.heap.size, 0, none⟩ = some (.bool true) ∧ W.cell? a1 = some (.slice D1 n1 e1) ∧ W.cell? a2 = some (.slice D2 n2 e2))) := fun W hW => by
  have hK : Keep (fun _ => False) w W := .of_below (HB6.out.trans (hW.mono HB6.out.size))
  exact ⟨⟨Loc.cell (B15.below hW) 0, Loc.cell (B25.below hW) 0⟩, Loc.cell (T5.below hW) 0, cell_keep hcell1 hab1 id hK, cell_keep hcell2 hab2 id hK⟩
 have HKW : Hid (∀ W, Below w6.heap.size w6 W → Below w.heap.size w W) := fun W hW => HB6.out.trans (hW.mono HB6.out.size)
 have i1 : 0 < r1 := by omega
 have i2 : 0 < r2 := by omega
 clear hT1 hT2 hV1 hV2 hle bT1 cT1 bT2 cT2 bV1 bV2 m1 m2 m3 m4 hn1 hn2 hl01 hl02 hcell1 hcell2 hints1 hints2
 go_upto_region 7 with fail
 refine wp_region_noPanic ?_
 refine wp_region_held_drew (S := (fun W => ((W.cell? ⟨w.heap.size, 0, none⟩ = some (.slice (some a1) r1 c1) ∧ W.cell? ⟨w.heap.size + 1, 0, none⟩ = some (.slice (some a2) r2 c2)) ∧ W.cell? ⟨w5.heap.size, 0, none⟩ = some (.bool true) ∧ W.cell? a1 = some (.slice D1 n1 e1) ∧ W.cell? a2 = some (.slice D2 n2 e2)))) (by kernel_rfl) ?_ (fun hHeld => ?_)
 ·exact HLS.out _ (Below.refl _ _).drew
 refine takeT 0 hHeld ?_
 (try simp only [Act.put, ly])
 refine takeT 1 hHeld ?_
 (try simp only [Act.put, ly])
 refine takeT 2 hHeld ?_
 (try simp only [Act.put, ly])
 refine takeT 3 hHeld ?_
 (try simp only [Act.put, ly])
 refine takeT 4 hHeld ?_
 (try simp only [Act.put, ly])
 refine takeT 5 hHeld ?_
 (try simp only [Act.put, ly])
 refine takeT 6 hHeld ?_
 (try simp only [Act.put, ly])
 refine takeT 7 hHeld ?_
 (try simp only [Act.put, ly])
 refine takeT 8 hHeld ?_
 (try simp only [Act.put, ly])
 refine takeT 9 hHeld ?_
 (try simp only [Act.put, ly])
 refine takeT 10 hHeld ?_
 (try simp only [Act.put, ly])
 refine takeT 12 hHeld ?_
 (try simp only [Act.put, ly])
 refine takeT 13 hHeld ?_
 (try simp only [Act.put, ly])
 refine takeT 16 hHeld ?_
 (try simp only [Act.put, ly])
 refine takeT 17 hHeld ?_
 (try simp only [Act.put, ly])
 refine takeT 18 hHeld ?_
 (try simp only [Act.put, ly])
 refine takeT 19 hHeld ?_
 (try simp only [Act.put, ly])
 refine takeT 21 hHeld ?_
 (try simp only [Act.put, ly])
 refine takeT 22 hHeld ?_
 (try simp only [Act.put, ly])
 refine wpAnyH_ready (rs := [11]) (by kernel_rfl) (by simp) ?_
 refine AllReadyH.cons rfl (fun K hK => ?_) AllReadyH.nil
 go_simp
 refine (rowSum_any _ _ l1 (HI1.out.keep (.of_below (HKW.out _ bel)))).mono ?_
 rintro e u1 ⟨he, hb7⟩
 rw [HS1.out] at he
 subst he
 have yhb7 := hb7.size; (try simp only [zs] at yhb7)
 have hB1 : Below w6.heap.size w6 u1 := bel
 (try go_wp2_with fail)
 refine hK.out _ _ ?_ (fun hHeld => ?_)
 ·(try dsimp only)
  exact HLS.out _ hB1
 clear hK K
 (try simp only [Act.put, ly])
 refine wpAnyH_ready (rs := [14]) (by kernel_rfl) (by simp) ?_
 refine AllReadyH.cons rfl (fun K hK => ?_) AllReadyH.nil
 go_simp
 refine (value_any _ _ _ _ _ L2 GL l (H2.out.keep (.of_below (HKW.out _ bel))) HF2.out (H3.out.keep (.of_below (HKW.out _ bel))) (H4.out.keep (.of_below (HKW.out _ bel))) (B35.below bel) (by rw [← HE12.out]; exact HP1.out) HK6.out (by rw [← HE12.out]; exact HROW.out)).mono ?_
 rintro e u2 ⟨he, hb8⟩
 rw [HV2.out] at he
 subst he
 have yhb8 := hb8.size; (try simp only [zs] at yhb8)
 have hB2 : Below w6.heap.size w6 u2 := bel
 (try go_wp2_with fail)
 refine hK.out _ _ ?_ (fun hHeld => ?_)
 ·(try dsimp only)
  exact HLS.out _ hB2
 clear hK K
 (try simp only [Act.put, ly])
 refine takeT 15 hHeld ?_
 (try simp only [Act.put, ly])
 refine wpAnyH_ready (rs := [20]) (by kernel_rfl) (by simp) ?_
 refine AllReadyH.cons rfl (fun K hK => ?_) AllReadyH.nil
 go_simp
 refine (rowSum_any _ _ l2 (HI2.out.keep (.of_below (HKW.out _ bel)))).mono ?_
 rintro e u3 ⟨he, hb9⟩
 rw [HS2.out] at he
 subst he
 have yhb9 := hb9.size; (try simp only [zs] at yhb9)
 have hB3 : Below w6.heap.size w6 u3 := bel
 (try go_wp2_with fail)
 refine hK.out _ _ ?_ (fun hHeld => ?_)
 ·(try dsimp only)
  exact HLS.out _ hB3
 clear hK K
 (try simp only [Act.put, ly])
 refine wpAnyH_ready (rs := [23]) (by kernel_rfl) (by simp) ?_
 refine AllReadyH.cons rfl (fun K hK => ?_) AllReadyH.nil
 go_simp
 refine (value_any _ _ _ _ _ L1 GL l (H1.out.keep (.of_below (HKW.out _ bel))) HF1.out (H3.out.keep (.of_below (HKW.out _ bel))) (H4.out.keep (.of_below (HKW.out _ bel))) (B35.below bel) HP1.out HK6.out HROW.out).mono ?_
 rintro e u4 ⟨he, hb10⟩
 rw [HV1.out] at he
 subst he
 have yhb10 := hb10.size; (try simp only [zs] at yhb10)
 have hB4 : Below w6.heap.size w6 u4 := bel
 (try go_wp2_with fail)
 refine hK.out _ _ ?_ (fun hHeld => ?_)
 ·(try dsimp only)
  exact HLS.out _ hB4
 clear hK K
 (try simp only [Act.put, ly])
 have HBU := Lib.hid (HKW.out _ hB4)
 refine takeT 24 hHeld ?_
 (try simp only [Act.put, ly])
 refine takeT 25 hHeld ?_
 (try simp only [Act.put, ly])
 refine takeT 26 hHeld ?_
 (try simp only [Act.put, ly])
 refine takeT 27 hHeld ?_
 (try simp only [Act.put, ly])
 refine takeT 28 hHeld ?_
 (try simp only [Act.put, ly])
 refine wpAnyH_done (by kernel_rfl) ?_ _
 refine NoPanic.normal ?_
 clear hHeld
 go_wp2_with fail
 go_ret
 exact ⟨rfl, HBU.out⟩
end Go.Proofs.YtdambnieminnfaaGreat

/- The statement 'RefinementMonotone' out of its walk. The frame is the guide's own (proof-skeleton), printed by lawgen.py. -/
namespace Go.Proofs.YtdambnieminnfaaGreat.refinementMonotone
open Go.ChangeShapes Go.WideShapes Go.ChangeAt Go.RowKit Go.Proofs.YtdambnieminnfaaGreat
open Go.ChangeMaps (open_string shut_string)
set_option linter.unusedVariables false

set_option maxRecDepth 100000 in
theorem lifted (os : Os) (started : os.Started) (H : Type) (enc : TypeId × Value → H) :
 ReturnsInHanded {} Tryz.checked os 8 .any (Rows.refinementMonotoneSpec.pre6 enc Tryz.prog Tryz.f8 Rows.refinementMonotoneRow.domain false) (Rows.refinementMonotoneSpec.post enc Tryz.prog Tryz.f8 false true false false) := by
 refine returnsInHanded_of_change (C := Tryz.checked) own started (by kernel_rfl) Tryz.func8
  (ChangeSpec.witness6 (enc := enc) (C := Tryz.checked) false ⟨#[], #[.agg #[.slice none 0 0], .agg #[.slice none 0 0], .agg #[.slice none 0 0, .slice none 0 0]], []⟩ 8 (by kernel_rfl) (by kernel_rfl) (by kernel_rfl) (by kernel_rfl)) ?_
 intro W base args ds gs before hval0 hW hcnd _
 have hval : ∀ (j : Nat) t v, Tryz.f8.params[j]? = some t → args[j]? = some v → Value.okWide Tryz.prog W .any base t v := hval0
 have hW' := hW
 obtain ⟨p, q, hA0, hV, rfl, hfz, hnd⟩ := hW
 have hA : DataW.TrodAll enc Tryz.prog W 0 (fun _ => true) true Tryz.f8.params.toList args.toList ds p := hA0
 rw [Tryz.params8] at hA hval
 obtain ⟨v0, vs0, d0, ds0, p0, q0, hargs, rfl, rfl, h0, r0⟩ := trodAll_cons hA
 obtain ⟨v1, vs1, d1, ds1, p1, q1, rfl, rfl, rfl, h1, r1⟩ := trodAll_cons r0
 obtain ⟨v2, vs2, d2, ds2, p2, q2, rfl, rfl, rfl, h2, r2⟩ := trodAll_cons r1
 obtain ⟨rfl, rfl, rfl⟩ := trodAll_nil r2
 obtain rfl : args = #[v0, v1, v2] := by cases args; simp_all
 obtain ⟨rfl, rfl⟩ := trodVars_none hV
 have lt0 : ∀ x ∈ p0, x.block < W.heap.size := by obtain ⟨m, hm⟩ := h0; exact DataW.trod_lt m _ _ _ hm
 have k0 := fun (W' : World) (bel : Below W.heap.size W W') => Below.trod laidOut (by kernel_rfl) (of_decide_eq_true (by kernel_rfl)) h0 bel lt0
 obtain ⟨va0, L0, e0, ha0⟩ := open_Channel (hval 0 24 v0 rfl rfl) h0
 have lt1 : ∀ x ∈ p1, x.block < W.heap.size := by obtain ⟨m, hm⟩ := h1; exact DataW.trod_lt m _ _ _ hm
 have k1 := fun (W' : World) (bel : Below W.heap.size W W') => Below.trod laidOut (by kernel_rfl) (of_decide_eq_true (by kernel_rfl)) h1 bel lt1
 obtain ⟨va1, L1, e1, ha1⟩ := open_Channel (hval 1 24 v1 rfl rfl) h1
 have lt2 : ∀ x ∈ p2, x.block < W.heap.size := by obtain ⟨m, hm⟩ := h2; exact DataW.trod_lt m _ _ _ hm
 have k2 := fun (W' : World) (bel : Below W.heap.size W W') => Below.trod laidOut (by kernel_rfl) (of_decide_eq_true (by kernel_rfl)) h2 bel lt2
 obtain ⟨va2, vb2, l2, L2, e2, ha2, hb2⟩ := open_Payoff (hval 2 42 v2 rfl rfl) h2
 subst e0
 subst e1
 subst e2
 refine (monotone_walk _ _ _ _ _ _ _ _ _ ha0 ha1 ha2 hb2).mono fun e W' ⟨he, bel⟩ => ?_
 subst he
 exact ⟨_, rfl, _, _, _, [], _, [], hW', trodAll_mk1 (shut_bool Tryz.underlying4 _), (trodAll_cons_mk (k0 _ bel) (trodAll_cons_mk (k1 _ bel) (trodAll_cons_mk (k2 _ bel) trodAll_mk0))), rfl, bel.frame _, fun h => by cases h⟩

theorem over : Rows.refinementMonotoneRow.holds Tryz.pinned (OpenSpec.ofChange Rows.refinementMonotoneSpec) :=
 OpenClaim.holds_of_wide 8 Tryz.f8 rfl rfl rfl rfl rfl rfl rfl ⟨rfl, rfl, rfl, rfl, rfl⟩ rfl rfl rfl rfl rfl (by kernel_rfl) Tryz.func8 (by kernel_rfl)
  (of_decide_eq_true (by kernel_rfl)) (by unfold Func.isWrapper; first | (rw [if_pos (by decide +kernel)]; kernel_rfl) | (rw [if_neg (by decide +kernel)]; exact ⟨rfl, rfl⟩))
  (fun os started H enc _ => lifted os started H enc)

/-- The statement: for every input the law returns true; each argument reads behind the call as it read before. -/
theorem proved : Rows.RefinementMonotoneSaid := over
end Go.Proofs.YtdambnieminnfaaGreat.refinementMonotone

