/- For every input the law returns true: the law's walk, and the statement out of it. -/
import Derived.Test.YtdambnieminnfaaGreatRows
import Derived.Test.YtdambnieminnfaaGreatX1
import Derived.Test.YtdambnieminnfaaGreatX3
import Derived.Test.YtdambnieminnfaaGreatX20
import Derived.Test.YtdambnieminnfaaGreatX27
import Derived.Test.YtdambnieminnfaaGreatX41
import Derived.Test.YtdambnieminnfaaGreatX45
set_option linter.unusedSimpArgs false
set_option linter.unusedVariables false

/- RefinementProcessed: the law's walk. -/
namespace Go.Proofs.YtdambnieminnfaaGreat
open Go.RowKit
attribute [local go_sem ↓] Go.wp_at_zero Go.wp_at_succ
attribute [local go_sem] beq_self_eq_true

set_option maxRecDepth 100000 in
set_option maxHeartbeats 16000000 in
theorem processed_walk (w : World) (v1 v2 : Value) (L1 L2 : List (List Int)) (h1 : IMat w v1 L1) (h2 : IMat w v2 L2) :
 Calls Tryz.prog 7 #[.agg #[v1], .agg #[v2]] w fun e w' => e = .returned (.bool true) ∧ Below w.heap.size w w' := by
 have H1 := Lib.hid h1
 have H2 := Lib.hid h2
 obtain ⟨A1, c1, rfl, -, -, -⟩ := h1.op
 obtain ⟨A2, c2, rfl, -, -, -⟩ := h2.op
 obtain ⟨r1, hr1⟩ : ∃ r, L1.length = r := ⟨_, rfl⟩
 obtain ⟨r2, hr2⟩ : ∃ r, L2.length = r := ⟨_, rfl⟩
 have HR1 := Lib.hid hr1
 have HR2 := Lib.hid hr2
 rw [hr1] at H1
 rw [hr2] at H2
 rw [hr1, hr2]
 have B1 := made1 w #[.slice A1 r1 c1] 24
 have B2 := made2 w (.cells #[.slice A1 r1 c1] 24) #[.slice A2 r2 c2] 24
 clear h1 h2 hr1 hr2
 by_cases hs1 : SM L1
 case neg =>
  have HS1 : Hid (¬ SM L1) := hs1
  clear hs1
  go_enter Tryz.func7, Tryz.ntmps7
  go_wp2_with fail
  refine (known40_any _).mono ?_
  rintro e w1 ⟨rfl, hb1⟩
  obtain ⟨z1, z2⟩ := sz2 hb1
  have B11 : Loc w1 w.heap.size _ _ := B1.to
  have HB1 : Hid (Below w.heap.size w w1) := bel
  clear B1 B2 hb1
  go_wp2_with fail
  refine wp_region_noPanic ?_
  refine wp_region_held_drew (S := (fun W => W.cell? ⟨w.heap.size, 0, none⟩ = some (.slice A1 r1 c1))) (by kernel_rfl) ?_ (fun hHeld => ?_)
  ·exact Loc.cell B11 0
  refine takeT 0 hHeld ?_
  (try simp only [Act.put, ly])
  refine wpAnyH_ready (rs := [1]) (by kernel_rfl) (by simp) ?_
  refine AllReadyH.cons rfl (fun K hK => ?_) AllReadyH.nil
  go_simp
  refine (small_any _ _ L1 (H1.out.keep (.of_below (HB1.out.trans (Below.mono (bel : Below w1.heap.size w1 _) (by omega)))))).mono ?_
  rintro e u1 ⟨he, hb2⟩
  have he := he.eq (b := false) ⟨fun h => (by cases h), fun h => absurd h HS1.out⟩
  subst he
  have y2 := hb2.size; (try simp only [zs] at y2)
  have HB2 : Hid (Below w.heap.size w u1) := HB1.out.trans (bel : Below w.heap.size w1 u1)
  (try go_wp2_with fail)
  refine hK.out _ _ ?_ (fun hHeld => ?_)
  ·(try dsimp only)
   exact Loc.cell (B11.below (bel : Below w1.heap.size w1 u1)) 0
  clear hK K
  (try simp only [Act.put, ly])
  refine takeT 2 hHeld ?_
  (try simp only [Act.put, ly])
  refine takeT 3 hHeld ?_
  (try simp only [Act.put, ly])
  refine offT 4 hHeld ?_
  refine offT 5 hHeld ?_
  refine offT 6 hHeld ?_
  (try simp only [Act.put, ly])
  refine takeT 7 hHeld ?_
  (try simp only [Act.put, ly])
  refine takeT 8 hHeld ?_
  (try simp only [Act.put, ly])
  refine offT 9 hHeld ?_
  refine offT 10 hHeld ?_
  refine offT 11 hHeld ?_
  refine offT 12 hHeld ?_
  refine offT 13 hHeld ?_
  refine offT 14 hHeld ?_
  refine offT 15 hHeld ?_
  refine offT 16 hHeld ?_
  refine offT 17 hHeld ?_
  (try simp only [Act.put, ly])
  refine takeT 18 hHeld ?_
  (try simp only [Act.put, ly])
  refine wpAnyH_done (by kernel_rfl) ?_ _
  refine NoPanic.normal ?_
  go_wp2_with fail
  go_ret
  exact ⟨rfl, HB2.out⟩
 have HS1 := Lib.hid hs1
 clear hs1
 by_cases hs2 : SM L2
 case neg =>
  have HS2 : Hid (¬ SM L2) := hs2
  clear hs2
  go_enter Tryz.func7, Tryz.ntmps7
  go_wp2_with fail
  refine (known40_any _).mono ?_
  rintro e w1 ⟨rfl, hb1⟩
  obtain ⟨z1, z2⟩ := sz2 hb1
  have B11 : Loc w1 w.heap.size _ _ := B1.to
  have B21 : Loc w1 (w.heap.size + 1) _ _ := B2.to
  have HB1 : Hid (Below w.heap.size w w1) := bel
  clear B1 B2 hb1
  go_wp2_with fail
  refine wp_region_noPanic ?_
  refine wp_region_held_drew (S := (fun W => W.cell? ⟨w.heap.size, 0, none⟩ = some (.slice A1 r1 c1) ∧ W.cell? ⟨w.heap.size + 1, 0, none⟩ = some (.slice A2 r2 c2))) (by kernel_rfl) ?_ (fun hHeld => ?_)
  ·exact ⟨Loc.cell B11 0, Loc.cell B21 0⟩
  refine takeT 0 hHeld ?_
  (try simp only [Act.put, ly])
  refine wpAnyH_ready (rs := [1]) (by kernel_rfl) (by simp) ?_
  refine AllReadyH.cons rfl (fun K hK => ?_) AllReadyH.nil
  go_simp
  refine (small_any _ _ L1 (H1.out.keep (.of_below (HB1.out.trans (Below.mono (bel : Below w1.heap.size w1 _) (by omega)))))).mono ?_
  rintro e u1 ⟨he, hb2⟩
  have he := he.eq (b := true) ⟨fun _ => HS1.out, fun _ => rfl⟩
  subst he
  have y2 := hb2.size; (try simp only [zs] at y2)
  have hB2 : Below w1.heap.size w1 u1 := bel
  have HB2 : Hid (Below w.heap.size w u1) := HB1.out.trans (hB2.mono (by omega))
  (try go_wp2_with fail)
  refine hK.out _ _ ?_ (fun hHeld => ?_)
  ·(try dsimp only)
   exact ⟨Loc.cell (B11.below hB2) 0, Loc.cell (B21.below hB2) 0⟩
  clear hK K
  (try simp only [Act.put, ly])
  refine takeT 2 hHeld ?_
  (try simp only [Act.put, ly])
  refine takeT 3 hHeld ?_
  (try simp only [Act.put, ly])
  refine takeT 4 hHeld ?_
  (try simp only [Act.put, ly])
  refine wpAnyH_ready (rs := [5]) (by kernel_rfl) (by simp) ?_
  refine AllReadyH.cons rfl (fun K hK => ?_) AllReadyH.nil
  go_simp
  refine (small_any _ _ L2 (H2.out.keep (.of_below (HB2.out.trans (bel : Below w.heap.size u1 _))))).mono ?_
  rintro e u2 ⟨he, hb3⟩
  have he := he.eq (b := false) ⟨fun h => (by cases h), fun h => absurd h HS2.out⟩
  subst he
  have y3 := hb3.size; (try simp only [zs] at y3)
  have hB3 : Below w1.heap.size w1 u2 := bel
  have HB3 : Hid (Below w.heap.size w u2) := HB1.out.trans (hB3.mono (by omega))
  (try go_wp2_with fail)
  refine hK.out _ _ ?_ (fun hHeld => ?_)
  ·(try dsimp only)
   exact ⟨Loc.cell (B11.below hB3) 0, Loc.cell (B21.below hB3) 0⟩
  clear hK K
  (try simp only [Act.put, ly])
  refine takeT 6 hHeld ?_
  (try simp only [Act.put, ly])
  refine takeT 7 hHeld ?_
  (try simp only [Act.put, ly])
  refine takeT 8 hHeld ?_
  (try simp only [Act.put, ly])
  refine offT 9 hHeld ?_
  refine offT 10 hHeld ?_
  refine offT 11 hHeld ?_
  refine offT 12 hHeld ?_
  refine offT 13 hHeld ?_
  refine offT 14 hHeld ?_
  refine offT 15 hHeld ?_
  refine offT 16 hHeld ?_
  refine offT 17 hHeld ?_
  (try simp only [Act.put, ly])
  refine takeT 18 hHeld ?_
  (try simp only [Act.put, ly])
  refine wpAnyH_done (by kernel_rfl) ?_ _
  refine NoPanic.normal ?_
  go_wp2_with fail
  go_ret
  exact ⟨rfl, HB3.out⟩
 have HS2 := Lib.hid hs2
 clear hs2
 obtain ⟨n, hn⟩ : ∃ n, wid L1 = n := ⟨_, rfl⟩
 have HN := Lib.hid hn
 have hr1p : 1 ≤ r1 := by have := HS1.out.2.1.1; have := HR1.out; omega
 obtain ⟨l0, he0⟩ : ∃ l, L1[0]? = some l := ⟨_, List.getElem?_eq_getElem (by have := HR1.out; omega)⟩
 obtain ⟨a1, D1, e1, rfl, hab1, hcell1, -, -, -⟩ := H1.out.at he0
 rw [(HS1.out.2.1.row he0).1, hn, addr_zero] at hcell1
 have i0 : (0 : Int) < (r1 : Int) := by omega
 have i1 : 0 < r1 := by omega
 have HC : Hid (∀ W, Below w.heap.size w W → W.cell? a1 = some (.slice D1 n e1)) := fun W hW => cell_keep (X := fun _ => False) hcell1 hab1 id (.of_below hW)
 clear hn he0 hcell1
 by_cases hnr : n = r2
 case neg =>
  have d1 : ((n : Int) != (r2 : Int)) = true := bne_iff_ne.2 (by omega)
  clear hnr
  go_enter Tryz.func7, Tryz.ntmps7
  go_wp2_with fail
  refine (known40_any _).mono ?_
  rintro e w1 ⟨rfl, hb1⟩
  obtain ⟨z1, z2⟩ := sz2 hb1
  have B11 : Loc w1 w.heap.size _ _ := B1.to
  have B21 : Loc w1 (w.heap.size + 1) _ _ := B2.to
  have HB1 : Hid (Below w.heap.size w w1) := bel
  clear B1 B2 hb1
  go_wp2_with fail
  refine wp_region_noPanic ?_
  refine wp_region_held_drew (S := (fun W => (W.cell? ⟨w.heap.size, 0, none⟩ = some (.slice (some a1) r1 c1) ∧ W.cell? ⟨w.heap.size + 1, 0, none⟩ = some (.slice A2 r2 c2)) ∧ W.cell? a1 = some (.slice D1 n e1))) (by kernel_rfl) ?_ (fun hHeld => ?_)
  ·exact ⟨⟨Loc.cell B11 0, Loc.cell B21 0⟩, HC.out _ HB1.out.drew⟩
  refine takeT 0 hHeld ?_
  (try simp only [Act.put, ly])
  refine wpAnyH_ready (rs := [1]) (by kernel_rfl) (by simp) ?_
  refine AllReadyH.cons rfl (fun K hK => ?_) AllReadyH.nil
  go_simp
  refine (small_any _ _ L1 (H1.out.keep (.of_below (HB1.out.trans (Below.mono (bel : Below w1.heap.size w1 _) (by omega)))))).mono ?_
  rintro e u1 ⟨he, hb2⟩
  have he := he.eq (b := true) ⟨fun _ => HS1.out, fun _ => rfl⟩
  subst he
  have y2 := hb2.size; (try simp only [zs] at y2)
  have hB2 : Below w1.heap.size w1 u1 := bel
  have HB2 : Hid (Below w.heap.size w u1) := HB1.out.trans (hB2.mono (by omega))
  (try go_wp2_with fail)
  refine hK.out _ _ ?_ (fun hHeld => ?_)
  ·(try dsimp only)
   exact ⟨⟨Loc.cell (B11.below hB2) 0, Loc.cell (B21.below hB2) 0⟩, HC.out _ HB2.out⟩
  clear hK K
  (try simp only [Act.put, ly])
  refine takeT 2 hHeld ?_
  (try simp only [Act.put, ly])
  refine takeT 3 hHeld ?_
  (try simp only [Act.put, ly])
  refine takeT 4 hHeld ?_
  (try simp only [Act.put, ly])
  refine wpAnyH_ready (rs := [5]) (by kernel_rfl) (by simp) ?_
  refine AllReadyH.cons rfl (fun K hK => ?_) AllReadyH.nil
  go_simp
  refine (small_any _ _ L2 (H2.out.keep (.of_below (HB2.out.trans (bel : Below w.heap.size u1 _))))).mono ?_
  rintro e u2 ⟨he, hb3⟩
  have he := he.eq (b := true) ⟨fun _ => HS2.out, fun _ => rfl⟩
  subst he
  have y3 := hb3.size; (try simp only [zs] at y3)
  have hB3 : Below w1.heap.size w1 u2 := bel
  have HB3 : Hid (Below w.heap.size w u2) := HB1.out.trans (hB3.mono (by omega))
  (try go_wp2_with fail)
  refine hK.out _ _ ?_ (fun hHeld => ?_)
  ·(try dsimp only)
   exact ⟨⟨Loc.cell (B11.below hB3) 0, Loc.cell (B21.below hB3) 0⟩, HC.out _ HB3.out⟩
  clear hK K
  (try simp only [Act.put, ly])
  refine takeT 6 hHeld ?_
  (try simp only [Act.put, ly])
  refine takeT 7 hHeld ?_
  (try simp only [Act.put, ly])
  refine takeT 8 hHeld ?_
  (try simp only [Act.put, ly])
  refine takeT 9 hHeld ?_
  (try simp only [Act.put, ly])
  refine takeT 10 hHeld ?_
  (try simp only [Act.put, ly])
  refine takeT 11 hHeld ?_
  (try simp only [Act.put, ly])
  refine takeT 12 hHeld ?_
  (try simp only [Act.put, ly])
  refine takeT 13 hHeld ?_
  (try simp only [Act.put, ly])
  refine takeT 14 hHeld ?_
  (try simp only [Act.put, ly])
  refine takeT 15 hHeld ?_
  (try simp only [Act.put, ly])
  refine takeT 16 hHeld ?_
  (try simp only [Act.put, ly])
  refine takeT 17 hHeld ?_
  (try simp only [Act.put, ly])
  refine takeT 18 hHeld ?_
  (try simp only [Act.put, ly])
  refine wpAnyH_done (by kernel_rfl) ?_ _
  refine NoPanic.normal ?_
  go_wp2_with fail
  go_ret
  exact ⟨rfl, HB3.out⟩
 subst hnr
 have d1 : ((n : Int) != (n : Int)) = false := bne_self_eq_false _
 have HW : Hid (wid L1 = L2.length) := by show _ = _; rw [HN.out, HR2.out]
 go_enter Tryz.func7, Tryz.ntmps7
 go_wp2_with fail
 refine (known40_any _).mono ?_
 rintro e w1 ⟨rfl, hb1⟩
 obtain ⟨z1, z2⟩ := sz2 hb1
 have B11 : Loc w1 w.heap.size _ _ := B1.to
 have B21 : Loc w1 (w.heap.size + 1) _ _ := B2.to
 have HB1 : Hid (Below w.heap.size w w1) := bel
 clear B1 B2 hb1
 go_wp2_with fail
 refine wp_region_noPanic ?_
 refine wp_region_held_drew (S := (fun W => (W.cell? ⟨w.heap.size, 0, none⟩ = some (.slice (some a1) r1 c1) ∧ W.cell? ⟨w.heap.size + 1, 0, none⟩ = some (.slice A2 n c2)) ∧ W.cell? a1 = some (.slice D1 n e1))) (by kernel_rfl) ?_ (fun hHeld => ?_)
 ·exact ⟨⟨Loc.cell B11 0, Loc.cell B21 0⟩, HC.out _ HB1.out.drew⟩
 refine takeT 0 hHeld ?_
 (try simp only [Act.put, ly])
 refine wpAnyH_ready (rs := [1]) (by kernel_rfl) (by simp) ?_
 refine AllReadyH.cons rfl (fun K hK => ?_) AllReadyH.nil
 go_simp
 refine (small_any _ _ L1 (H1.out.keep (.of_below (HB1.out.trans (Below.mono (bel : Below w1.heap.size w1 _) (by omega)))))).mono ?_
 rintro e u1 ⟨he, hb2⟩
 have he := he.eq (b := true) ⟨fun _ => HS1.out, fun _ => rfl⟩
 subst he
 have y2 := hb2.size; (try simp only [zs] at y2)
 have hB2 : Below w1.heap.size w1 u1 := bel
 have HB2 : Hid (Below w.heap.size w u1) := HB1.out.trans (hB2.mono (by omega))
 (try go_wp2_with fail)
 refine hK.out _ _ ?_ (fun hHeld => ?_)
 ·(try dsimp only)
  exact ⟨⟨Loc.cell (B11.below hB2) 0, Loc.cell (B21.below hB2) 0⟩, HC.out _ HB2.out⟩
 clear hK K
 (try simp only [Act.put, ly])
 refine takeT 2 hHeld ?_
 (try simp only [Act.put, ly])
 refine takeT 3 hHeld ?_
 (try simp only [Act.put, ly])
 refine takeT 4 hHeld ?_
 (try simp only [Act.put, ly])
 refine wpAnyH_ready (rs := [5]) (by kernel_rfl) (by simp) ?_
 refine AllReadyH.cons rfl (fun K hK => ?_) AllReadyH.nil
 go_simp
 refine (small_any _ _ L2 (H2.out.keep (.of_below (HB2.out.trans (bel : Below w.heap.size u1 _))))).mono ?_
 rintro e u2 ⟨he, hb3⟩
 have he := he.eq (b := true) ⟨fun _ => HS2.out, fun _ => rfl⟩
 subst he
 have y3 := hb3.size; (try simp only [zs] at y3)
 have hB3 : Below w1.heap.size w1 u2 := bel
 have HB3 : Hid (Below w.heap.size w u2) := HB1.out.trans (hB3.mono (by omega))
 (try go_wp2_with fail)
 refine hK.out _ _ ?_ (fun hHeld => ?_)
 ·(try dsimp only)
  exact ⟨⟨Loc.cell (B11.below hB3) 0, Loc.cell (B21.below hB3) 0⟩, HC.out _ HB3.out⟩
 clear hK K
 (try simp only [Act.put, ly])
 refine takeT 6 hHeld ?_
 (try simp only [Act.put, ly])
 refine takeT 7 hHeld ?_
 (try simp only [Act.put, ly])
 refine takeT 8 hHeld ?_
 (try simp only [Act.put, ly])
 refine takeT 9 hHeld ?_
 (try simp only [Act.put, ly])
 refine takeT 10 hHeld ?_
 (try simp only [Act.put, ly])
 refine takeT 11 hHeld ?_
 (try simp only [Act.put, ly])
 refine takeT 12 hHeld ?_
 (try simp only [Act.put, ly])
 refine takeT 13 hHeld ?_
 (try simp only [Act.put, ly])
 refine takeT 14 hHeld ?_
 (try simp only [Act.put, ly])
 refine takeT 15 hHeld ?_
 (try simp only [Act.put, ly])
 refine takeT 16 hHeld ?_
 (try simp only [Act.put, ly])
 refine takeT 17 hHeld ?_
 (try simp only [Act.put, ly])
 refine takeT 18 hHeld ?_
 (try simp only [Act.put, ly])
 refine wpAnyH_done (by kernel_rfl) ?_ _
 refine NoPanic.normal ?_
 have C1 : Loc u2 w.heap.size _ _ := B11.below hB3
 have C2 : Loc u2 (w.heap.size + 1) _ _ := B21.below hB3
 have yu := HB3.out.size
 have HFW := Lib.hid (cas_wit HS1.out HS2.out HW.out)
 have HFC := Lib.hid (cas_few HS1.out HS2.out)
 clear B11 B21 hHeld
 go_upto_region 5 with fail
 go_cut [5, 6] (fun p q W => ∃ (g : Nat) (vW vG : Value), p = .pointer (some ⟨g, 0, none⟩) ∧ q = .int .i64 0 ∧ Loc W g 27 #[.bool true, vW, vG] ∧ Below w.heap.size w W)
 case first =>
  go_wp2_with fail
  refine wp_region_noPanic ?_
  refine wp_region_held_drew (S := (fun W => W.cell? ⟨w.heap.size, 0, none⟩ = some (.slice (some a1) r1 c1) ∧ W.cell? ⟨w.heap.size + 1, 0, none⟩ = some (.slice A2 n c2))) (by kernel_rfl) ?_ (fun hHeld => ?_)
  ·exact ⟨Loc.cell C1 0, Loc.cell C2 0⟩
  refine takeT 0 hHeld ?_
  (try simp only [Act.put, ly])
  refine takeT 1 hHeld ?_
  (try simp only [Act.put, ly])
  refine takeT 2 hHeld ?_
  (try simp only [Act.put, ly])
  refine wpAnyH_ready (rs := [3, 8]) (by kernel_rfl) (by simp) ?_
  refine AllReadyH.cons rfl (fun K hK => ?_) (AllReadyH.cons rfl (fun K hK => ?_) AllReadyH.nil)
  ·go_simp
   refine (cascade_any _ _ _ L1 L2 (H1.out.keep (.of_below (HB3.out.trans (Below.mono (bel : Below u2.heap.size u2 _) (by omega))))) (H2.out.keep (.of_below (HB3.out.trans (Below.mono (bel : Below u2.heap.size u2 _) (by omega))))) HS1.out HS2.out HW.out).mono ?_
   rintro e u3 ⟨vC, rfl, hC, hb4⟩
   obtain ⟨AC, cC, rfl, hC, -, -⟩ := hC.out.op
   rw [cas_len, HR1.out] at hC ⊢
   have HCC := Lib.hid hC
   have y4 := hb4.size; (try simp only [zs] at y4)
   have hB4 : Below u2.heap.size u2 u3 := bel
   clear hC
   (try go_wp2_with fail)
   refine hK.out _ _ ?_ (fun hHeld => ?_)
   ·(try dsimp only)
    exact ⟨Loc.cell (C1.below hB4) 0, Loc.cell (C2.below hB4) 0⟩
   clear hK K
   (try simp only [Act.put, ly])
   refine wpAnyH_ready (rs := [4, 8]) (by kernel_rfl) (by simp) ?_
   refine AllReadyH.cons rfl (fun K hK => ?_) (AllReadyH.cons rfl (fun K hK => ?_) AllReadyH.nil)
   ·go_simp
    refine (decide_any _ _ _ L1 (cas L1 L2) (H1.out.keep (.of_below (HB3.out.trans (Below.mono (bel : Below u2.heap.size u2 _) (by omega))))) (HCC.out.keep (.of_below bel)) (HS1.out.1.sz HFC.out)).mono ?_
    rintro e u4 ⟨b, vW, vG, m, K', F, G, code, rfl, hmm, hd, hb5⟩
    obtain ⟨rfl, rfl⟩ := HS1.out.1.dec_wit HFC.out hd.out HFW.out
    obtain ⟨AW, cW, rfl, -, -, -⟩ := hmm.out.1.op
    obtain ⟨AG, cG, rfl, -, -, -⟩ := hmm.out.2.op
    have y5 := hb5.size; (try simp only [zs] at y5)
    have hB5 : Below u2.heap.size u2 u4 := bel
    clear hmm hd
    (try go_wp2_with fail)
    refine hK.out _ _ ?_ (fun hHeld => ?_)
    ·(try dsimp only)
     exact ⟨Loc.cell (C1.below hB5) 0, Loc.cell (C2.below hB5) 0⟩
    clear hK K
    (try simp only [Act.put, ly])
    refine takeT 5 hHeld ?_
    (try simp only [Act.put, ly])
    refine takeT 6 hHeld ?_
    (try simp only [Act.put, ly])
    refine takeT 7 hHeld ?_
    (try simp only [Act.put, ly])
    refine wpAnyH_ready (rs := [8]) (by kernel_rfl) (by simp) ?_
    refine AllReadyH.cons rfl (fun K hK => ?_) AllReadyH.nil
    go_simp
    have TG : Loc (u4.alloc (.cells #[.bool false, .slice none 0 0, .slice none 0 0] 27)) u4.heap.size 27 #[.bool false, .slice none 0 0, .slice none 0 0] := made1 u4 #[.bool false, .slice none 0 0, .slice none 0 0] 27
    have hBG : Below u2.heap.size u2 (u4.alloc (.cells #[.bool false, .slice none 0 0, .slice none 0 0] 27)) := bel
    (try go_wp2_with fail)
    refine hK.out _ _ ?_ (fun hHeld => ?_)
    ·(try dsimp only)
     exact ⟨Loc.cell (C1.below hBG) 0, Loc.cell (C2.below hBG) 0⟩
    clear hK K
    (try simp only [Act.put, ly])
    obtain ⟨e7, f7, l7⟩ := TG.all (w' := u4.alloc (.cells #[.bool false, .slice none 0 0, .slice none 0 0] 27))
    refine wpAnyH_ready (rs := [9]) (by kernel_rfl) (by simp) ?_
    refine AllReadyH.cons rfl (fun K hK => ?_) AllReadyH.nil
    go_simp
    have TS := made1 u4 #[.bool true, .slice AW m cW, .slice AG K' cG] 27
    have hBS : Below u2.heap.size u2 (u4.alloc (.cells #[.bool true, .slice AW m cW, .slice AG K' cG] 27)) := bel
    have HF9 : Hid (∃ (gg : Nat) (vW vG : Value), Value.pointer (some ⟨u4.heap.size, 0, none⟩) = .pointer (some ⟨gg, 0, none⟩) ∧ Loc (u4.alloc (.cells #[.bool true, .slice AW m cW, .slice AG K' cG] 27)) gg 27 #[.bool true, vW, vG] ∧ Below w.heap.size w (u4.alloc (.cells #[.bool true, .slice AW m cW, .slice AG K' cG] 27))) := ⟨_, _, _, rfl, TS, HB3.out.trans (hBS.mono (by omega))⟩
    (try go_wp2_with fail)
    refine hK.out _ _ ?_ (fun hHeld => ?_)
    ·(try dsimp only)
     exact ⟨Loc.cell (C1.below hBS) 0, Loc.cell (C2.below hBS) 0⟩
    clear hK K
    (try simp only [Act.put, ly])
    clear TS hBS e7 f7 l7
    refine takeT 10 hHeld ?_
    (try simp only [Act.put, ly])
    refine wpAnyH_done (by kernel_rfl) ?_ _
    refine NoPanic.normal ?_
    go_wp2_with fail
    go_meet
    obtain ⟨gg, vW', vG', ee, TT, BB⟩ := HF9.out
    exact ⟨gg, vW', vG', ee, rfl, TT, BB⟩
   ·go_simp
    have TG : Loc (u3.alloc (.cells #[.bool false, .slice none 0 0, .slice none 0 0] 27)) u3.heap.size 27 #[.bool false, .slice none 0 0, .slice none 0 0] := made1 u3 #[.bool false, .slice none 0 0, .slice none 0 0] 27
    have hBG : Below u2.heap.size u2 (u3.alloc (.cells #[.bool false, .slice none 0 0, .slice none 0 0] 27)) := bel
    (try go_wp2_with fail)
    refine hK.out _ _ ?_ (fun hHeld => ?_)
    ·(try dsimp only)
     exact ⟨Loc.cell (C1.below hBG) 0, Loc.cell (C2.below hBG) 0⟩
    clear hK K
    (try simp only [Act.put, ly])
    refine wpAnyH_ready (rs := [4]) (by kernel_rfl) (by simp) ?_
    refine AllReadyH.cons rfl (fun K hK => ?_) AllReadyH.nil
    go_simp
    refine (decide_any _ _ _ L1 (cas L1 L2) (H1.out.keep (.of_below (HB3.out.trans (Below.mono (bel : Below u2.heap.size u2 _) (by omega))))) (HCC.out.keep (.of_below bel)) (HS1.out.1.sz HFC.out)).mono ?_
    rintro e u4 ⟨b, vW, vG, m, K', F, G, code, rfl, hmm, hd, hb5⟩
    obtain ⟨rfl, rfl⟩ := HS1.out.1.dec_wit HFC.out hd.out HFW.out
    obtain ⟨AW, cW, rfl, -, -, -⟩ := hmm.out.1.op
    obtain ⟨AG, cG, rfl, -, -, -⟩ := hmm.out.2.op
    have y5 := hb5.size; (try simp only [zs] at y5)
    have TG : Loc u4 u3.heap.size _ _ := TG.to
    have hB5 : Below u2.heap.size u2 u4 := bel
    clear hmm hd
    (try go_wp2_with fail)
    refine hK.out _ _ ?_ (fun hHeld => ?_)
    ·(try dsimp only)
     exact ⟨Loc.cell (C1.below hB5) 0, Loc.cell (C2.below hB5) 0⟩
    clear hK K
    (try simp only [Act.put, ly])
    refine takeT 5 hHeld ?_
    (try simp only [Act.put, ly])
    refine takeT 6 hHeld ?_
    (try simp only [Act.put, ly])
    refine takeT 7 hHeld ?_
    (try simp only [Act.put, ly])
    obtain ⟨e7, f7, l7⟩ := TG.all (w' := u4)
    refine wpAnyH_ready (rs := [9]) (by kernel_rfl) (by simp) ?_
    refine AllReadyH.cons rfl (fun K hK => ?_) AllReadyH.nil
    go_simp
    have TS := Loc.fill3 (u := .bool true) (v := .slice AW m cW) (x := .slice AG K' cG) TG
    have hBS : Below u2.heap.size u2 ((((u4).setCell ⟨u3.heap.size, 0, none⟩ (.bool true)).setCell ⟨u3.heap.size, 1, none⟩ (.slice AW m cW)).setCell ⟨u3.heap.size, 2, none⟩ (.slice AG K' cG)) := bel
    have HF9 : Hid (∃ (gg : Nat) (vW vG : Value), Value.pointer (some ⟨u3.heap.size, 0, none⟩) = .pointer (some ⟨gg, 0, none⟩) ∧ Loc ((((u4).setCell ⟨u3.heap.size, 0, none⟩ (.bool true)).setCell ⟨u3.heap.size, 1, none⟩ (.slice AW m cW)).setCell ⟨u3.heap.size, 2, none⟩ (.slice AG K' cG)) gg 27 #[.bool true, vW, vG] ∧ Below w.heap.size w ((((u4).setCell ⟨u3.heap.size, 0, none⟩ (.bool true)).setCell ⟨u3.heap.size, 1, none⟩ (.slice AW m cW)).setCell ⟨u3.heap.size, 2, none⟩ (.slice AG K' cG))) := ⟨_, _, _, rfl, TS, HB3.out.trans (hBS.mono (by omega))⟩
    (try go_wp2_with fail)
    refine hK.out _ _ ?_ (fun hHeld => ?_)
    ·(try dsimp only)
     exact ⟨Loc.cell (C1.below hBS) 0, Loc.cell (C2.below hBS) 0⟩
    clear hK K
    (try simp only [Act.put, ly])
    clear TS hBS e7 f7 l7
    refine takeT 10 hHeld ?_
    (try simp only [Act.put, ly])
    refine wpAnyH_done (by kernel_rfl) ?_ _
    refine NoPanic.normal ?_
    go_wp2_with fail
    go_meet
    obtain ⟨gg, vW', vG', ee, TT, BB⟩ := HF9.out
    exact ⟨gg, vW', vG', ee, rfl, TT, BB⟩
  ·go_simp
   have TG : Loc (u2.alloc (.cells #[.bool false, .slice none 0 0, .slice none 0 0] 27)) u2.heap.size 27 #[.bool false, .slice none 0 0, .slice none 0 0] := made1 u2 #[.bool false, .slice none 0 0, .slice none 0 0] 27
   have hBG : Below u2.heap.size u2 (u2.alloc (.cells #[.bool false, .slice none 0 0, .slice none 0 0] 27)) := bel
   (try go_wp2_with fail)
   refine hK.out _ _ ?_ (fun hHeld => ?_)
   ·(try dsimp only)
    exact ⟨Loc.cell (C1.below hBG) 0, Loc.cell (C2.below hBG) 0⟩
   clear hK K
   (try simp only [Act.put, ly])
   refine wpAnyH_ready (rs := [3]) (by kernel_rfl) (by simp) ?_
   refine AllReadyH.cons rfl (fun K hK => ?_) AllReadyH.nil
   go_simp
   refine (cascade_any _ _ _ L1 L2 (H1.out.keep (.of_below (HB3.out.trans (Below.mono (bel : Below u2.heap.size u2 _) (by omega))))) (H2.out.keep (.of_below (HB3.out.trans (Below.mono (bel : Below u2.heap.size u2 _) (by omega))))) HS1.out HS2.out HW.out).mono ?_
   rintro e u3 ⟨vC, rfl, hC, hb4⟩
   obtain ⟨AC, cC, rfl, hC, -, -⟩ := hC.out.op
   rw [cas_len, HR1.out] at hC ⊢
   have HCC := Lib.hid hC
   have y4 := hb4.size; (try simp only [zs] at y4)
   have TG : Loc u3 u2.heap.size _ _ := TG.to
   have hB4 : Below u2.heap.size u2 u3 := bel
   clear hC
   (try go_wp2_with fail)
   refine hK.out _ _ ?_ (fun hHeld => ?_)
   ·(try dsimp only)
    exact ⟨Loc.cell (C1.below hB4) 0, Loc.cell (C2.below hB4) 0⟩
   clear hK K
   (try simp only [Act.put, ly])
   refine wpAnyH_ready (rs := [4]) (by kernel_rfl) (by simp) ?_
   refine AllReadyH.cons rfl (fun K hK => ?_) AllReadyH.nil
   go_simp
   refine (decide_any _ _ _ L1 (cas L1 L2) (H1.out.keep (.of_below (HB3.out.trans (Below.mono (bel : Below u2.heap.size u2 _) (by omega))))) (HCC.out.keep (.of_below bel)) (HS1.out.1.sz HFC.out)).mono ?_
   rintro e u4 ⟨b, vW, vG, m, K', F, G, code, rfl, hmm, hd, hb5⟩
   obtain ⟨rfl, rfl⟩ := HS1.out.1.dec_wit HFC.out hd.out HFW.out
   obtain ⟨AW, cW, rfl, -, -, -⟩ := hmm.out.1.op
   obtain ⟨AG, cG, rfl, -, -, -⟩ := hmm.out.2.op
   have y5 := hb5.size; (try simp only [zs] at y5)
   have TG : Loc u4 u2.heap.size _ _ := TG.to
   have hB5 : Below u2.heap.size u2 u4 := bel
   clear hmm hd
   (try go_wp2_with fail)
   refine hK.out _ _ ?_ (fun hHeld => ?_)
   ·(try dsimp only)
    exact ⟨Loc.cell (C1.below hB5) 0, Loc.cell (C2.below hB5) 0⟩
   clear hK K
   (try simp only [Act.put, ly])
   refine takeT 5 hHeld ?_
   (try simp only [Act.put, ly])
   refine takeT 6 hHeld ?_
   (try simp only [Act.put, ly])
   refine takeT 7 hHeld ?_
   (try simp only [Act.put, ly])
   obtain ⟨e7, f7, l7⟩ := TG.all (w' := u4)
   refine wpAnyH_ready (rs := [9]) (by kernel_rfl) (by simp) ?_
   refine AllReadyH.cons rfl (fun K hK => ?_) AllReadyH.nil
   go_simp
   have TS := Loc.fill3 (u := .bool true) (v := .slice AW m cW) (x := .slice AG K' cG) TG
   have hBS : Below u2.heap.size u2 ((((u4).setCell ⟨u2.heap.size, 0, none⟩ (.bool true)).setCell ⟨u2.heap.size, 1, none⟩ (.slice AW m cW)).setCell ⟨u2.heap.size, 2, none⟩ (.slice AG K' cG)) := bel
   have HF9 : Hid (∃ (gg : Nat) (vW vG : Value), Value.pointer (some ⟨u2.heap.size, 0, none⟩) = .pointer (some ⟨gg, 0, none⟩) ∧ Loc ((((u4).setCell ⟨u2.heap.size, 0, none⟩ (.bool true)).setCell ⟨u2.heap.size, 1, none⟩ (.slice AW m cW)).setCell ⟨u2.heap.size, 2, none⟩ (.slice AG K' cG)) gg 27 #[.bool true, vW, vG] ∧ Below w.heap.size w ((((u4).setCell ⟨u2.heap.size, 0, none⟩ (.bool true)).setCell ⟨u2.heap.size, 1, none⟩ (.slice AW m cW)).setCell ⟨u2.heap.size, 2, none⟩ (.slice AG K' cG))) := ⟨_, _, _, rfl, TS, HB3.out.trans (hBS.mono (by omega))⟩
   (try go_wp2_with fail)
   refine hK.out _ _ ?_ (fun hHeld => ?_)
   ·(try dsimp only)
    exact ⟨Loc.cell (C1.below hBS) 0, Loc.cell (C2.below hBS) 0⟩
   clear hK K
   (try simp only [Act.put, ly])
   clear TS hBS e7 f7 l7
   refine takeT 10 hHeld ?_
   (try simp only [Act.put, ly])
   refine wpAnyH_done (by kernel_rfl) ?_ _
   refine NoPanic.normal ?_
   go_wp2_with fail
   go_meet
   obtain ⟨gg, vW', vG', ee, TT, BB⟩ := HF9.out
   exact ⟨gg, vW', vG', ee, rfl, TT, BB⟩
 case rest =>
  obtain ⟨g, vW, vG, rfl, rfl, L, hBe⟩ := hcut
  obtain ⟨e1, f1, -⟩ := L.all (w' := wc)
  have HBE := Lib.hid hBe
  go_wp2_with fail
  go_ret
  exact ⟨rfl, HBE.out⟩
end Go.Proofs.YtdambnieminnfaaGreat

/- The statement 'RefinementProcessed' out of its walk. The frame is the guide's own (proof-skeleton), printed by lawgen.py. -/
namespace Go.Proofs.YtdambnieminnfaaGreat.refinementProcessed
open Go.ChangeShapes Go.WideShapes Go.ChangeAt Go.RowKit Go.Proofs.YtdambnieminnfaaGreat
open Go.ChangeMaps (open_string shut_string)
set_option linter.unusedVariables false

set_option maxRecDepth 100000 in
theorem lifted (os : Os) (started : os.Started) (H : Type) (enc : TypeId × Value → H) :
 ReturnsInHanded {} Tryz.checked os 7 .any (Rows.refinementProcessedSpec.pre6 enc Tryz.prog Tryz.f7 Rows.refinementProcessedRow.domain false) (Rows.refinementProcessedSpec.post enc Tryz.prog Tryz.f7 false true false false) := by
 refine returnsInHanded_of_change (C := Tryz.checked) own started (by kernel_rfl) Tryz.func7
  (ChangeSpec.witness6 (enc := enc) (C := Tryz.checked) false ⟨#[], #[.agg #[.slice none 0 0], .agg #[.slice none 0 0]], []⟩ 8 (by kernel_rfl) (by kernel_rfl) (by kernel_rfl) (by kernel_rfl)) ?_
 intro W base args ds gs before hval0 hW hcnd _
 have hval : ∀ (j : Nat) t v, Tryz.f7.params[j]? = some t → args[j]? = some v → Value.okWide Tryz.prog W .any base t v := hval0
 have hW' := hW
 obtain ⟨p, q, hA0, hV, rfl, hfz, hnd⟩ := hW
 have hA : DataW.TrodAll enc Tryz.prog W 0 (fun _ => true) true Tryz.f7.params.toList args.toList ds p := hA0
 rw [Tryz.params7] at hA hval
 obtain ⟨v0, vs0, d0, ds0, p0, q0, hargs, rfl, rfl, h0, r0⟩ := trodAll_cons hA
 obtain ⟨v1, vs1, d1, ds1, p1, q1, rfl, rfl, rfl, h1, r1⟩ := trodAll_cons r0
 obtain ⟨rfl, rfl, rfl⟩ := trodAll_nil r1
 obtain rfl : args = #[v0, v1] := by cases args; simp_all
 obtain ⟨rfl, rfl⟩ := trodVars_none hV
 have lt0 : ∀ x ∈ p0, x.block < W.heap.size := by obtain ⟨m, hm⟩ := h0; exact DataW.trod_lt m _ _ _ hm
 have k0 := fun (W' : World) (bel : Below W.heap.size W W') => Below.trod laidOut (by kernel_rfl) (of_decide_eq_true (by kernel_rfl)) h0 bel lt0
 obtain ⟨va0, L0, e0, ha0⟩ := open_Channel (hval 0 24 v0 rfl rfl) h0
 have lt1 : ∀ x ∈ p1, x.block < W.heap.size := by obtain ⟨m, hm⟩ := h1; exact DataW.trod_lt m _ _ _ hm
 have k1 := fun (W' : World) (bel : Below W.heap.size W W') => Below.trod laidOut (by kernel_rfl) (of_decide_eq_true (by kernel_rfl)) h1 bel lt1
 obtain ⟨va1, L1, e1, ha1⟩ := open_Channel (hval 1 24 v1 rfl rfl) h1
 subst e0
 subst e1
 refine (processed_walk _ _ _ _ _ ha0 ha1).mono fun e W' ⟨he, bel⟩ => ?_
 subst he
 exact ⟨_, rfl, _, _, _, [], _, [], hW', trodAll_mk1 (shut_bool Tryz.underlying4 _), (trodAll_cons_mk (k0 _ bel) (trodAll_cons_mk (k1 _ bel) trodAll_mk0)), rfl, bel.frame _, fun h => by cases h⟩

theorem over : Rows.refinementProcessedRow.holds Tryz.pinned (OpenSpec.ofChange Rows.refinementProcessedSpec) :=
 OpenClaim.holds_of_wide 7 Tryz.f7 rfl rfl rfl rfl rfl rfl rfl ⟨rfl, rfl, rfl, rfl, rfl⟩ rfl rfl rfl rfl rfl (by kernel_rfl) Tryz.func7 (by kernel_rfl)
  (of_decide_eq_true (by kernel_rfl)) (by unfold Func.isWrapper; first | (rw [if_pos (by decide +kernel)]; kernel_rfl) | (rw [if_neg (by decide +kernel)]; exact ⟨rfl, rfl⟩))
  (fun os started H enc _ => lifted os started H enc)

/-- The statement: for every input the law returns true; each argument reads behind the call as it read before. -/
theorem proved : Rows.RefinementProcessedSaid := over
end Go.Proofs.YtdambnieminnfaaGreat.refinementProcessed

