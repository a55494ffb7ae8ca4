/- Contracts of the functions that the statements reach, part 43. -/
import Derived.Test.YtdambnieminnfaaGreatRows
import Derived.Test.YtdambnieminnfaaGreatY42
set_option linter.unusedSimpArgs false
set_option linter.unusedVariables false

/- The law's side of layer 40: witness. -/
namespace Go.Proofs.YtdambnieminnfaaGreat
open Go.RowKit
attribute [local go_sem ↓] Go.wp_at_zero Go.wp_at_succ

set_option maxRecDepth 100000 in
set_option maxHeartbeats 16000000 in
theorem lwitness_any (w : World) (v1 v2 vw : Value) (L1 L2 : List (List Int)) (m k : Nat) (N : Nat → Nat) (F : Nat → Nat → Rat) (h1 : IMat w v1 L1) (h2 : IMat w v2 L2) (h : Mat k w (fun _ => False) vw m N F)
 (hm : m ≤ 200) (hN : ∀ i, i < m → N i ≤ 200) (hk1 : 1 ≤ k) (hk : k ≤ 1990) :
 Calls Tryz.prog 17 #[.agg #[v1], .agg #[v2], vw] w fun e w' => Tells (WIT L1 L2 m N F) e ∧ Below w.heap.size w w' := by
 have H1 := Lib.hid h1
 have H2 := Lib.hid h2
 have H := Lib.hid h
 have HNN := Lib.hid hN
 have HFZ := Lib.hid (h.rsz hk1)
 obtain ⟨A1, c1, rfl, -, la1, la2⟩ := h1.op
 obtain ⟨A2, c2, rfl, -, lb1, lb2⟩ := h2.op
 obtain ⟨A, cA, rfl, -, l1, l2⟩ := h.op
 obtain ⟨r, hr⟩ : ∃ r, L1.length = r := ⟨_, rfl⟩
 obtain ⟨s, hs⟩ : ∃ s, L2.length = s := ⟨_, rfl⟩
 have HR := Lib.hid hr
 have HS := Lib.hid hs
 rw [hr] at la1 H1
 rw [hs] at lb1 H2
 rw [hr, hs]
 have L := made1 w #[.slice A1 r c1] 24
 have M := made2 w (.cells #[.slice A1 r c1] 24) #[.slice A2 s c2] 24
 have HLM : Hid (∀ W, Below (w.heap.size + 1 + 1) ((w.alloc (.cells #[.slice A1 r c1] 24)).alloc (.cells #[.slice A2 s c2] 24)) W → W.cell? ⟨w.heap.size, 0, none⟩ = some (.slice A1 r c1) ∧ W.cell? ⟨w.heap.size + 1, 0, none⟩ = some (.slice A2 s c2)) := fun W hW =>
  ⟨Loc.cell ((L.alloc _).below' hW (by omega)) 0, Loc.cell (M.below' hW (by omega)) 0⟩
 clear h1 h2 hr hs hN
 by_cases hp : VC L1 ∧ VC L2 ∧ L1.length = L2.length
 case neg =>
  have HV : Hid (¬ WIT L1 L2 m N F) := fun h => hp ⟨h.1, h.2.1, h.2.2.1⟩
  have HPN : Hid (¬ (VC L1 ∧ VC L2 ∧ L1.length = L2.length)) := hp
  clear h hp
  go_enter Tryz.func17, Tryz.ntmps17
  go_wp2_with fail
  refine wp_region_noPanic ?_
  refine wp_region_held_drew (S := (fun W => W.cell? ⟨w.heap.size, 0, none⟩ = some (.slice A1 r c1) ∧ W.cell? ⟨w.heap.size + 1, 0, none⟩ = some (.slice A2 s c2))) (by kernel_rfl) ?_ (fun hHeld => ?_)
  ·exact HLM.out _ bel
  refine takeT 0 hHeld ?_
  (try simp only [Act.put, ly])
  refine takeT 1 hHeld ?_
  (try simp only [Act.put, ly])
  refine wpAnyH_ready (rs := [2]) (by kernel_rfl) (by simp) ?_
  refine AllReadyH.cons rfl (fun K hK => ?_) AllReadyH.nil
  go_simp
  refine (lpair_any _ _ _ L1 L2 (H1.out.keep kp) (H2.out.keep kp)).mono ?_
  rintro e w1 ⟨he, hb1⟩
  have y1 := hb1.size; (try simp only [zs] at y1)
  have he := he.eq (b := false) ⟨fun h => (by cases h), fun h => absurd h HPN.out⟩
  subst he
  (try go_wp2_with fail)
  refine hK.out _ _ ?_ (fun hHeld => ?_)
  ·(try dsimp only)
   exact HLM.out _ bel
  clear hK K
  (try simp only [Act.put, ly])
  refine takeT 3 hHeld ?_
  (try simp only [Act.put, ly])
  refine takeT 4 hHeld ?_
  (try simp only [Act.put, ly])
  refine offT 5 hHeld ?_
  refine offT 6 hHeld ?_
  refine offT 7 hHeld ?_
  (try simp only [Act.put, ly])
  refine takeT 8 hHeld ?_
  (try simp only [Act.put, ly])
  refine takeT 9 hHeld ?_
  (try simp only [Act.put, ly])
  refine offT 10 hHeld ?_
  refine offT 11 hHeld ?_
  refine offT 12 hHeld ?_
  refine offT 13 hHeld ?_
  refine offT 14 hHeld ?_
  refine offT 15 hHeld ?_
  refine offT 16 hHeld ?_
  refine offT 17 hHeld ?_
  (try simp only [Act.put, ly])
  refine takeT 18 hHeld ?_
  (try simp only [Act.put, ly])
  refine takeT 19 hHeld ?_
  (try simp only [Act.put, ly])
  refine offT 20 hHeld ?_
  refine offT 21 hHeld ?_
  refine offT 22 hHeld ?_
  refine offT 23 hHeld ?_
  refine offT 24 hHeld ?_
  refine offT 25 hHeld ?_
  refine offT 26 hHeld ?_
  refine offT 27 hHeld ?_
  refine offT 28 hHeld ?_
  refine offT 29 hHeld ?_
  (try simp only [Act.put, ly])
  refine takeT 30 hHeld ?_
  (try simp only [Act.put, ly])
  refine wpAnyH_done (by kernel_rfl) ?_ _
  refine NoPanic.normal ?_
  go_wp2_with fail
  go_ret
  exact ⟨Tells.no HV.out, bel⟩
 have HP1 := Lib.hid hp
 clear hp
 by_cases hst : STO m N F
 case neg =>
  have HV : Hid (¬ WIT L1 L2 m N F) := fun h => hst h.2.2.2.1
  have HST : Hid (¬ STO m N F) := hst
  clear hst h
  go_enter Tryz.func17, Tryz.ntmps17
  go_wp2_with fail
  refine wp_region_noPanic ?_
  refine wp_region_held_drew (S := (fun W => W.cell? ⟨w.heap.size, 0, none⟩ = some (.slice A1 r c1) ∧ W.cell? ⟨w.heap.size + 1, 0, none⟩ = some (.slice A2 s c2))) (by kernel_rfl) ?_ (fun hHeld => ?_)
  ·exact HLM.out _ bel
  refine takeT 0 hHeld ?_
  (try simp only [Act.put, ly])
  refine takeT 1 hHeld ?_
  (try simp only [Act.put, ly])
  refine wpAnyH_ready (rs := [2]) (by kernel_rfl) (by simp) ?_
  refine AllReadyH.cons rfl (fun K hK => ?_) AllReadyH.nil
  go_simp
  refine (lpair_any _ _ _ L1 L2 (H1.out.keep kp) (H2.out.keep kp)).mono ?_
  rintro e w1 ⟨he, hb1⟩
  have y1 := hb1.size; (try simp only [zs] at y1)
  have he := he.eq (b := true) ⟨fun _ => HP1.out, fun _ => rfl⟩
  subst he
  (try go_wp2_with fail)
  refine hK.out _ _ ?_ (fun hHeld => ?_)
  ·(try dsimp only)
   exact HLM.out _ bel
  clear hK K
  (try simp only [Act.put, ly])
  refine takeT 3 hHeld ?_
  (try simp only [Act.put, ly])
  refine takeT 4 hHeld ?_
  (try simp only [Act.put, ly])
  refine takeT 5 hHeld ?_
  (try simp only [Act.put, ly])
  refine wpAnyH_ready (rs := [6]) (by kernel_rfl) (by simp) ?_
  refine AllReadyH.cons rfl (fun K hK => ?_) AllReadyH.nil
  go_simp
  refine (lstochastic_any _ _ m k N F (H.out.keep kp) hm HNN.out hk1 (by omega)).mono ?_
  rintro e w2 ⟨he, hb2⟩
  have y2 := hb2.size; (try simp only [zs] at y2)
  have he := he.eq (b := false) ⟨fun h => (by cases h), fun h => absurd h HST.out⟩
  subst he
  (try go_wp2_with fail)
  refine hK.out _ _ ?_ (fun hHeld => ?_)
  ·(try dsimp only)
   exact HLM.out _ bel
  clear hK K
  (try simp only [Act.put, ly])
  refine takeT 7 hHeld ?_
  (try simp only [Act.put, ly])
  refine takeT 8 hHeld ?_
  (try simp only [Act.put, ly])
  refine takeT 9 hHeld ?_
  (try simp only [Act.put, ly])
  refine offT 10 hHeld ?_
  refine offT 11 hHeld ?_
  refine offT 12 hHeld ?_
  refine offT 13 hHeld ?_
  refine offT 14 hHeld ?_
  refine offT 15 hHeld ?_
  refine offT 16 hHeld ?_
  refine offT 17 hHeld ?_
  (try simp only [Act.put, ly])
  refine takeT 18 hHeld ?_
  (try simp only [Act.put, ly])
  refine takeT 19 hHeld ?_
  (try simp only [Act.put, ly])
  refine offT 20 hHeld ?_
  refine offT 21 hHeld ?_
  refine offT 22 hHeld ?_
  refine offT 23 hHeld ?_
  refine offT 24 hHeld ?_
  refine offT 25 hHeld ?_
  refine offT 26 hHeld ?_
  refine offT 27 hHeld ?_
  refine offT 28 hHeld ?_
  refine offT 29 hHeld ?_
  (try simp only [Act.put, ly])
  refine takeT 30 hHeld ?_
  (try simp only [Act.put, ly])
  refine wpAnyH_done (by kernel_rfl) ?_ _
  refine NoPanic.normal ?_
  go_wp2_with fail
  go_ret
  exact ⟨Tells.no HV.out, bel⟩
 have HST := Lib.hid hst
 have hm1 : 0 < m := hst.1.1
 obtain ⟨n2, hn2⟩ : ∃ n2, wid L2 = n2 := ⟨_, rfl⟩
 obtain ⟨n1, hn1⟩ : ∃ n1, wid L1 = n1 := ⟨_, rfl⟩
 obtain ⟨n0, hn0⟩ : ∃ n0, N 0 = n0 := ⟨_, rfl⟩
 have hr2 : r ≤ 256 := by have := HP1.out.1.2.1; have := HR.out; omega
 have hr1 : 0 < r := by have := HP1.out.1.1; have := HR.out; omega
 have hs1 : 0 < s := by have := HP1.out.2.1.1; have := HS.out; omega
 obtain ⟨l1', he1⟩ : ∃ l, L1[0]? = some l := ⟨_, List.getElem?_eq_getElem (by have := HR.out; omega)⟩
 obtain ⟨l2', he2⟩ : ∃ l, L2[0]? = some l := ⟨_, List.getElem?_eq_getElem (by have := HS.out; omega)⟩
 obtain ⟨a1, D1, d1, rfl, hab1, hcell1, hint1, lc1, -⟩ := H1.out.at he1
 obtain ⟨a2, D2, d2, rfl, hab2, hcell2, hint2, lc2, -⟩ := H2.out.at he2
 obtain ⟨a0, D0, d0, rfl, hab0, -, hcell0, -, lc0, -⟩ := Mat.at h hm1
 rw [(HP1.out.1.row he1).1, hn1] at hcell1 lc1 hint1
 rw [(HP1.out.2.1.row he2).1, hn2] at hcell2 lc2 hint2
 rw [hn0] at hcell0 lc0
 rw [addr_zero] at hcell1 hcell2 hcell0
 have HI1 := Lib.hid hint1
 have HI2 := Lib.hid hint2
 have HR1 : Hid (rsumA 0 l1' = tot L1) := by show _ = _; unfold tot; rw [List.getD_eq_getElem?_getD, he1]; rfl
 have HR2 : Hid (rsumA 0 l2' = tot L2) := by show _ = _; unfold tot; rw [List.getD_eq_getElem?_getD, he2]; rfl
 clear hint1 hint2
 have HN0 := Lib.hid hn0
 have HN1 := Lib.hid hn1
 have HN2 := Lib.hid hn2
 have HSS : Hid (∀ W, Below w.heap.size w W → W.cell? ⟨w.heap.size, 0, none⟩ = some (.slice (some a1) r c1) ∧ W.cell? ⟨w.heap.size + 1, 0, none⟩ = some (.slice (some a2) s c2) → ((W.cell? ⟨w.heap.size, 0, none⟩ = some (.slice (some a1) r c1) ∧ W.cell? ⟨w.heap.size + 1, 0, none⟩ = some (.slice (some a2) s c2)) ∧ W.cell? a1 = some (.slice D1 n1 d1)) ∧ W.cell? a2 = some (.slice D2 n2 d2) ∧ W.cell? a0 = some (.slice D0 n0 d0)) := fun W hW hL =>
  ⟨⟨hL, cell_keep (X := fun _ => False) hcell1 hab1 id (.of_below hW)⟩, cell_keep (X := fun _ => False) hcell2 hab2 id (.of_below hW), cell_keep (X := fun _ => False) hcell0 hab0 id (.of_below hW)⟩
 have i1 : (0 : Int) < (r : Int) := by omega
 have i2 : (0 : Int) < (s : Int) := by omega
 have i3 : (0 : Int) < (m : Int) := by omega
 clear he1 he2 hcell1 hcell2 hcell0 hn0 hn1 hn2 h hst
 go_enter Tryz.func17, Tryz.ntmps17
 go_wp2_with fail
 go_upto_region 1 with fail
 go_cut [43] (fun v W => ∃ b : Bool, v = .bool b ∧ Hid (b = false ↔ m = n1 ∧ n0 = n2) ∧ Loc W w.heap.size 24 #[.slice (some a1) r c1] ∧ Loc W (w.heap.size + 1) 24 #[.slice (some a2) s c2] ∧ Below w.heap.size w W)
 case first =>
  go_wp2_with fail
  refine wp_region_noPanic ?_
  refine wp_region_held_drew (S := (fun W => ((W.cell? ⟨w.heap.size, 0, none⟩ = some (.slice (some a1) r c1) ∧ W.cell? ⟨w.heap.size + 1, 0, none⟩ = some (.slice (some a2) s c2)) ∧ W.cell? a1 = some (.slice D1 n1 d1)) ∧ W.cell? a2 = some (.slice D2 n2 d2) ∧ W.cell? a0 = some (.slice D0 n0 d0))) (by kernel_rfl) ?_ (fun hHeld => ?_)
  ·exact HSS.out _ bel (HLM.out _ bel)
  refine takeT 0 hHeld ?_
  (try simp only [Act.put, ly])
  refine takeT 1 hHeld ?_
  (try simp only [Act.put, ly])
  refine wpAnyH_ready (rs := [2]) (by kernel_rfl) (by simp) ?_
  refine AllReadyH.cons rfl (fun K hK => ?_) AllReadyH.nil
  go_simp
  refine (lpair_any _ _ _ L1 L2 (H1.out.keep kp) (H2.out.keep kp)).mono ?_
  rintro e w1 ⟨he, hb1⟩
  have y1 := hb1.size; (try simp only [zs] at y1)
  have he := he.eq (b := true) ⟨fun _ => HP1.out, fun _ => rfl⟩
  subst he
  (try go_wp2_with fail)
  refine hK.out _ _ ?_ (fun hHeld => ?_)
  ·(try dsimp only)
   exact HSS.out _ bel (HLM.out _ bel)
  clear hK K
  (try simp only [Act.put, ly])
  refine takeT 3 hHeld ?_
  (try simp only [Act.put, ly])
  refine takeT 4 hHeld ?_
  (try simp only [Act.put, ly])
  refine takeT 5 hHeld ?_
  (try simp only [Act.put, ly])
  refine wpAnyH_ready (rs := [6]) (by kernel_rfl) (by simp) ?_
  refine AllReadyH.cons rfl (fun K hK => ?_) AllReadyH.nil
  go_simp
  refine (lstochastic_any _ _ m k N F (H.out.keep kp) hm HNN.out hk1 (by omega)).mono ?_
  rintro e w2 ⟨he, hb2⟩
  have y2 := hb2.size; (try simp only [zs] at y2)
  have he := he.eq (b := true) ⟨fun _ => HST.out, fun _ => rfl⟩
  subst he
  have HL2 : Hid (Loc w2 w.heap.size 24 #[.slice (some a1) r c1]) := L.to
  have HM2 : Hid (Loc w2 (w.heap.size + 1) 24 #[.slice (some a2) s c2]) := M.to
  (try go_wp2_with fail)
  refine hK.out _ _ ?_ (fun hHeld => ?_)
  ·(try dsimp only)
   exact HSS.out _ bel (HLM.out _ bel)
  clear hK K
  (try simp only [Act.put, ly])
  refine takeT 7 hHeld ?_
  (try simp only [Act.put, ly])
  refine takeT 8 hHeld ?_
  (try simp only [Act.put, ly])
  refine takeT 9 hHeld ?_
  (try simp only [Act.put, ly])
  refine takeT 10 hHeld ?_
  (try simp only [Act.put, ly])
  refine takeT 11 hHeld ?_
  (try simp only [Act.put, ly])
  refine takeT 12 hHeld ?_
  (try simp only [Act.put, ly])
  refine takeT 13 hHeld ?_
  (try simp only [Act.put, ly])
  refine takeT 14 hHeld ?_
  (try simp only [Act.put, ly])
  refine takeT 15 hHeld ?_
  (try simp only [Act.put, ly])
  refine takeT 16 hHeld ?_
  (try simp only [Act.put, ly])
  by_cases h5 : m = n1
  case neg =>
   have d1 : ((m : Int) == (n1 : Int)) = false := beq_eq_false_iff_ne.2 (by omega)
   have d2 : ((m : Int) != (n1 : Int)) = true := bne_iff_ne.2 (by omega)
   have HB : Hid (true = false ↔ m = n1 ∧ n0 = n2) := ⟨fun h => (by cases h), fun h => absurd h.1 h5⟩
   clear h5
   refine takeT 17 hHeld ?_
   (try simp only [Act.put, ly])
   refine takeT 18 hHeld ?_
   (try simp only [Act.put, ly])
   refine takeT 19 hHeld ?_
   (try simp only [Act.put, ly])
   refine offT 20 hHeld ?_
   refine offT 21 hHeld ?_
   refine offT 22 hHeld ?_
   refine offT 23 hHeld ?_
   refine offT 24 hHeld ?_
   refine offT 25 hHeld ?_
   refine offT 26 hHeld ?_
   refine offT 27 hHeld ?_
   refine offT 28 hHeld ?_
   refine offT 29 hHeld ?_
   (try simp only [Act.put, ly])
   refine takeT 30 hHeld ?_
   (try simp only [Act.put, ly])
   refine wpAnyH_done (by kernel_rfl) ?_ _
   refine NoPanic.normal ?_
   go_wp2_with fail
   go_meet
   exact ⟨true, rfl, HB, HL2.out, HM2.out, bel⟩
  have d1 : ((m : Int) == (n1 : Int)) = true := beq_iff_eq.2 (by omega)
  have d2 : ((m : Int) != (n1 : Int)) = false := by simp only [bne, d1]; rfl
  have HE := Lib.hid h5
  clear h5
  refine takeT 17 hHeld ?_
  (try simp only [Act.put, ly])
  refine takeT 18 hHeld ?_
  (try simp only [Act.put, ly])
  refine takeT 19 hHeld ?_
  (try simp only [Act.put, ly])
  refine takeT 20 hHeld ?_
  (try simp only [Act.put, ly])
  refine takeT 21 hHeld ?_
  (try simp only [Act.put, ly])
  refine takeT 22 hHeld ?_
  (try simp only [Act.put, ly])
  refine takeT 23 hHeld ?_
  (try simp only [Act.put, ly])
  refine takeT 24 hHeld ?_
  (try simp only [Act.put, ly])
  refine takeT 25 hHeld ?_
  (try simp only [Act.put, ly])
  refine takeT 26 hHeld ?_
  (try simp only [Act.put, ly])
  refine takeT 27 hHeld ?_
  (try simp only [Act.put, ly])
  refine takeT 28 hHeld ?_
  (try simp only [Act.put, ly])
  by_cases h6 : n0 = n2
  case neg =>
   have d3 : ((n0 : Int) == (n2 : Int)) = false := beq_eq_false_iff_ne.2 (by omega)
   have d4 : ((n0 : Int) != (n2 : Int)) = true := bne_iff_ne.2 (by omega)
   have HB : Hid (true = false ↔ m = n1 ∧ n0 = n2) := ⟨fun h => (by cases h), fun h => absurd h.2 h6⟩
   clear h6
   refine takeT 29 hHeld ?_
   (try simp only [Act.put, ly])
   refine takeT 30 hHeld ?_
   (try simp only [Act.put, ly])
   refine wpAnyH_done (by kernel_rfl) ?_ _
   refine NoPanic.normal ?_
   go_wp2_with fail
   go_meet
   exact ⟨true, rfl, HB, HL2.out, HM2.out, bel⟩
  have d3 : ((n0 : Int) == (n2 : Int)) = true := beq_iff_eq.2 (by omega)
  have d4 : ((n0 : Int) != (n2 : Int)) = false := by simp only [bne, d3]; rfl
  have HE6 := Lib.hid h6
  clear h6
  refine takeT 29 hHeld ?_
  (try simp only [Act.put, ly])
  refine takeT 30 hHeld ?_
  (try simp only [Act.put, ly])
  refine wpAnyH_done (by kernel_rfl) ?_ _
  refine NoPanic.normal ?_
  go_wp2_with fail
  go_meet
  exact ⟨false, rfl, ⟨fun _ => ⟨HE.out, HE6.out⟩, fun _ => rfl⟩, HL2.out, HM2.out, bel⟩
 case rest =>
  obtain ⟨b, rfl, HB, NL, NM, hB⟩ := hcut
  obtain ⟨w3, rfl⟩ : ∃ w3 : World, w3 = wc := ⟨_, rfl⟩
  clear L M HLM
  have y3 := hB.size; (try simp only [zs] at y3)
  have q1 := NL.lt
  have q2 := NM.lt
  cases b
  case true =>
   have HV : Hid (¬ WIT L1 L2 m N F) := fun h => by
    have : true = false := HB.out.2 ⟨by rw [← HN1.out]; exact h.2.2.2.2.1, by rw [← HN0.out, ← HN2.out]; exact h.2.2.2.2.2.1⟩
    cases this
   clear HB
   go_wp2_with fail
   go_ret
   exact ⟨Tells.no HV.out, hB⟩
  obtain ⟨rfl, rfl⟩ := HB.out.1 rfl
  clear HB
  obtain ⟨p1, hp1⟩ : ∃ p, tot L1 = p := ⟨_, rfl⟩
  obtain ⟨p2, hp2⟩ : ∃ p, tot L2 = p := ⟨_, rfl⟩
  have ht1 := HP1.out.1.tot
  have ht2 := HP1.out.2.1.tot
  rw [hp1] at ht1 HR1
  rw [hp2] at ht2 HR2
  have HT1 := Lib.hid hp1
  have HT2 := Lib.hid hp2
  have HN3 : Hid (∀ i, i < m → N i = n0) := fun i hi => by rw [← HN0.out]; exact (HST.out.1.2.2 i hi).1
  have hn200 : n0 ≤ 200 := by rw [← HN0.out]; exact HNN.out 0 hm1
  have HBW : Hid (∀ W, Below w3.heap.size w3 W → Below w.heap.size w W) := fun W hW => hB.trans (hW.mono y3)
  have HC : Hid (∀ W, Below w3.heap.size w3 W → Reg40w.SXT w.heap.size (w.heap.size + 1) r c1 s c2 m d1 n0 d2 a1 a2 D1 D2 W) := fun W hW => by
   have := HSS.out W (HBW.out W hW) ⟨Loc.cell (NL.below hW) 0, Loc.cell (NM.below hW) 0⟩
   exact ⟨this.1.1, this.1.2, this.2.1⟩
  have HB3 := Lib.hid hB
  have ht1' := Lib.hid ht1
  have ht2' := Lib.hid ht2
  clear hp1 hp2 hB
  go_upto_region 3 with fail
  refine Reg40w.reg hr1 hs1 HC (Lib.hid (fun W hW => HI1.out.keep (.of_below (HBW.out W hW)))) (Lib.hid (fun W hW => HI2.out.keep (.of_below (HBW.out W hW)))) HR1 HR2 ht1' ht2' ?_
  intro W4 ga gb bp dp bq dq Ep Gp Eq Gq mp kp' np lp mq kq nq lq v44 v45 v46 v47 v48 v49 v50 v51 v52 v53 v54 v55 hab hga hgb La Lb VP VQ hB4
  obtain ⟨w4, rfl⟩ : ∃ w4 : World, w4 = W4 := ⟨_, rfl⟩
  have y4 := hB4.size; (try simp only [zs] at y4)
  have HBW4 : Hid (∀ W, Below w4.heap.size w4 W → Below w.heap.size w W) := fun W hW => HBW.out W (hB4.trans (hW.mono y4))
  have NL4 : Loc w4 w.heap.size _ _ := NL.to
  have NM4 : Loc w4 (w.heap.size + 1) _ _ := NM.to
  have hla := La.lt
  have hlb := Lb.lt
  obtain ⟨e1, f1, -⟩ := NL4.all (w' := w4)
  clear NL NM HC
  go_wp2_with fail
  clear e1 f1
  go_loopw [59] (fun i wr => ∃ (x : Nat), x ≤ r ∧ i = .int .i64 x ∧ Hid (∀ x', x' < x → ∀ z, z < n0 → ((p2 : Int) : Rat) * sm m (fun y => ce L1 x' y * F y z) = ((p1 : Int) : Rat) * ce L2 x' z) ∧ Below w4.heap.size w4 wr) (fun i _ => r - (intOf i).toNat)
  case atStart => exact ⟨0, by omega, rfl, Lib.hid (fun i hi => absurd hi (by omega)), Below.refl _ _⟩
  case round =>
   obtain ⟨x, hx, rfl, hall, hBx⟩ := hrel
   obtain ⟨wx, rfl⟩ : ∃ wx : World, wx = wr := ⟨_, rfl⟩
   have yx := hBx.size; (try simp only [zs] at yx)
   have q1 := NL4.lt
   have q2 := NM4.lt
   have HBX := Lib.hid (HBW4.out wx hBx)
   by_cases hlt : x < r
   ·obtain ⟨lx, hex⟩ : ∃ l, L1[x]? = some l := ⟨_, List.getElem?_eq_getElem (by have := HR.out; omega)⟩
    obtain ⟨ly, hey⟩ : ∃ l, L2[x]? = some l := ⟨_, List.getElem?_eq_getElem (by have := HS.out; have := HP1.out.2.2; have := HR.out; omega)⟩
    have hxs : x < s := by have := HS.out; have := HP1.out.2.2; have := HR.out; omega
    obtain ⟨a1', Dx, dx, ea, habx, hcellx, hintx, lcx, lmx⟩ := (H1.out.keep (.of_below HBX.out)).at hex
    injection ea with ea
    subst ea
    obtain ⟨a2', Dy, dy, ea, haby, hcelly, hinty, lcy, lmy⟩ := (H2.out.keep (.of_below HBX.out)).at hey
    injection ea with ea
    subst ea
    rw [(HP1.out.1.row hex).1, HN1.out] at hcellx hintx lcx
    rw [(HP1.out.2.1.row hey).1, HN2.out] at hcelly hinty lcy
    have k0 : (0 : Int) ≤ (x : Int) := by omega
    have k1 : (x : Int) < (r : Int) := by omega
    have k2 : (x : Int) < (s : Int) := by omega
    have HX1 := Lib.hid hintx
    have HEX := Lib.hid hex
    have HEY := Lib.hid hey
    have HIY := Lib.hid hinty
    have HCX : Hid (∀ W, Below wx.heap.size wx W → W.cell? (a1.add x) = some (.slice Dx m dx)) := fun W hW => cell_keep (X := fun _ => False) hcellx (by rw [addr_block]; exact habx) id (.of_below hW)
    have HCY : Hid (∀ W, Below wx.heap.size wx W → W.cell? (a2.add x) = some (.slice Dy n0 dy)) := fun W hW => cell_keep (X := fun _ => False) hcelly (by rw [addr_block]; exact haby) id (.of_below hW)
    have HCC : Hid (∀ W, Below wx.heap.size wx W → (W.cell? ⟨w.heap.size, 0, none⟩ = some (.slice (some a1) r c1) ∧ W.cell? ⟨w.heap.size + 1, 0, none⟩ = some (.slice (some a2) s c2)) ∧ W.cell? a1 = some (.slice D1 m d1) ∧ W.cell? a2 = some (.slice D2 n0 d2)) := fun W hW => by
     have hW4 : Below w4.heap.size w4 W := hBx.trans (hW.mono yx)
     have := HSS.out W (HBW4.out W hW4) ⟨Loc.cell (NL4.below hW4) 0, Loc.cell (NM4.below hW4) 0⟩
     exact ⟨this.1.1, this.1.2, this.2.1⟩
    obtain ⟨⟨g1, g2⟩, g3, g4⟩ := HCC.out wx (Below.refl _ _)
    clear hintx hinty hex hey hcellx hcelly
    go_wp2_with fail
    clear g1 g2 g3 g4
    go_loopw [67] (fun i wr => ∃ (z : Nat), z ≤ n0 ∧ i = .int .i64 z ∧ Hid (∀ z', z' < z → ((p2 : Int) : Rat) * sm m (fun y => ce L1 x y * F y z') = ((p1 : Int) : Rat) * ce L2 x z') ∧ Below wx.heap.size wx wr) (fun i _ => n0 - (intOf i).toNat)
    case atStart => exact ⟨0, by omega, rfl, Lib.hid (fun i hi => absurd hi (by omega)), Below.refl _ _⟩
    case round =>
     obtain ⟨z, hz, rfl, hallz, hBz⟩ := hrel
     obtain ⟨wz, rfl⟩ : ∃ wz : World, wz = wr := ⟨_, rfl⟩
     have yz := hBz.size; (try simp only [zs] at yz)
     have HBZ0 := Lib.hid hBz
     have HB4Z : Hid (Below w4.heap.size w4 wz) := hBx.trans (hBz.mono yx)
     have HBZ := Lib.hid (HBW4.out wz HB4Z.out)
     by_cases hltz : z < n0
     ·have k3 : (0 : Int) ≤ (z : Int) := by omega
      have k4 : (z : Int) < (n0 : Int) := by omega
      have HSM : Hid (∀ i, i ≤ m → Rsz 900000 (sm i (fun y => ce L1 x y * F y z))) := wsum_rsz HP1.out.1 (by rw [HR.out]; exact hlt) HN1.out.symm hm (fun i hi => HFZ.out i hi z (by rw [HN3.out i hi]; exact hltz)) hk
      have T := made1 wz #[.bool false, .slice none 0 0, .bool false, .slice none 0 0] 60
      obtain ⟨⟨g1, g2⟩, g3, g4⟩ := HCC.out (wz.alloc (.cells #[.bool false, .slice none 0 0, .bool false, .slice none 0 0] 60)) bel
      clear hBz
      go_wp2_with fail
      clear g1 g2 g3 g4
      go_loopw [76] (fun i wr => ∃ (y : Nat) (q : R4), y ≤ m ∧ i = .int .i64 y ∧ Loc wr wz.heap.size 60 #[.bool q.b, .slice q.A q.m q.c, .bool q.b', .slice q.A' q.m' q.c'] ∧ RatL 900000 wr (fun b => b = wz.heap.size) q.v (sm y (fun y => ce L1 x y * F y z)) ∧ Below wz.heap.size wz wr) (fun i _ => m - (intOf i).toNat)
      case atStart => exact ⟨0, zR4, by omega, rfl, T, z4_any _ _ _, bel⟩
      case round =>
       obtain ⟨y, q, hy, rfl, Ty, sy, hBy⟩ := hrel
       obtain ⟨wy, rfl⟩ : ∃ wy : World, wy = wr := ⟨_, rfl⟩
       obtain ⟨b6, A6, m6, c6, b6', A6', m6', c6'⟩ := q
       unfold R4.v at sy
       dsimp only at Ty sy
       clear T
       have yy := hBy.size; (try simp only [zs] at yy)
       have q5 := Ty.lt
       have HBY : Hid (Below wx.heap.size wx wy) := HBZ0.out.trans (hBy.mono yz)
       by_cases hlty : y < m
       ·obtain ⟨ny, hny⟩ : ∃ n, lx[y]? = some n := ⟨_, List.getElem?_eq_getElem (by have := (HP1.out.1.row HEX.out).1; have := HN1.out; omega)⟩
        have hny2 := (HP1.out.1.row HEX.out).2 ny (List.mem_of_getElem? hny)
        obtain ⟨ax, rfl, hbx, hcx, -, -⟩ := (HX1.out.keep (.of_below HBY.out)).at hny
        obtain ⟨a7, D7, d7, ea, hab7, -, hcell7, hnum7, lc7, -⟩ := Mat.at (Mat.keep H.out (.of_below (HBZ.out.trans (hBy.mono (by omega))))) hlty
        injection ea with ea
        subst ea
        rw [HN3.out y hlty] at hcell7 hnum7 lc7
        obtain ⟨a8, b8, A8, m8, c8, b8', A8', m8', c8', rfl, hab8, -, x0, x1, x2, x3, r8⟩ := Nums.at hnum7 hltz
        have HE : Hid (sm (y + 1) (fun y => ce L1 x y * F y z) = sm y (fun y => ce L1 x y * F y z) + (ny : Rat) * F y z) := by
         show _ = _
         rw [sm_succ, ce_get HEX.out hny]
        have HS1 := Lib.hid (HSM.out (y + 1) (by omega))
        have HF1 : Hid (Rsz k (F y z)) := HFZ.out y hlty z (by rw [HN3.out y hlty]; exact hltz)
        have HLS : Hid (∀ W, Below wy.heap.size wy W → ((((W.cell? ⟨wz.heap.size, 0, none⟩ = some (.bool b6) ∧ W.cell? ⟨wz.heap.size, 1, none⟩ = some (.slice A6 m6 c6)) ∧ W.cell? ⟨wz.heap.size, 2, none⟩ = some (.bool b6') ∧ W.cell? ⟨wz.heap.size, 3, none⟩ = some (.slice A6' m6' c6')) ∧ W.cell? ⟨w.heap.size, 0, none⟩ = some (.slice (some a1) r c1) ∧ W.cell? (a1.add x) = some (.slice (some ax) m dx)) ∧ (W.cell? (ax.add y) = some (.int .i64 ny) ∧ W.cell? (a0.add y) = some (.slice (some a8) n0 d7)) ∧ (W.cell? (a8.add (z * 4)) = some (.bool b8) ∧ W.cell? ⟨(a8.add (z * 4)).block, (a8.add (z * 4)).off + 1, none⟩ = some (.slice A8 m8 c8)) ∧ W.cell? ⟨(a8.add (z * 4)).block, (a8.add (z * 4)).off + 2, none⟩ = some (.bool b8') ∧ W.cell? ⟨(a8.add (z * 4)).block, (a8.add (z * 4)).off + 3, none⟩ = some (.slice A8' m8' c8'))) := fun W hW => by
         have hb8 : (a8.add (z * 4)).block < wy.heap.size := by rw [addr_block]; exact hab8
         have hWx := HBY.out.trans (hW.mono (by omega))
         have hK : Keep (fun _ => False) wy W := .of_below hW
         exact ⟨⟨⟨⟨Loc.cell (Ty.below hW) 0, Loc.cell (Ty.below hW) 1⟩, Loc.cell (Ty.below hW) 2, Loc.cell (Ty.below hW) 3⟩, (HCC.out W hWx).1.1, HCX.out W hWx⟩, ⟨cell_keep hcx (by rw [addr_block]; exact hbx) id hK, cell_keep hcell7 (by rw [addr_block]; exact hab7) id hK⟩, ⟨cell_keep x0 hb8 id hK, cell_keep x1 hb8 id hK⟩, cell_keep x2 hb8 id hK, cell_keep x3 hb8 id hK⟩
        have k5 : (0 : Int) ≤ (y : Int) := by omega
        have k6 : (y : Int) < (m : Int) := by omega
        clear hny hcell7 x0 x1 x2 x3 hcx
        go_upto_block 5 with fail
        go_cut [] from 78 to 98 (fun W => ∃ q : R4, Loc W wz.heap.size 60 #[.bool q.b, .slice q.A q.m q.c, .bool q.b', .slice q.A' q.m' q.c'] ∧ RatL 900000 W (fun b => b = wz.heap.size) q.v (sm (y + 1) (fun y => ce L1 x y * F y z)) ∧ Below wz.heap.size wz W)
        case first =>
         go_wp2_with fail
         refine wp_region_noPanic ?_
         refine wp_region_heldK (k := 19) (S := (fun W => ((((W.cell? ⟨wz.heap.size, 0, none⟩ = some (.bool b6) ∧ W.cell? ⟨wz.heap.size, 1, none⟩ = some (.slice A6 m6 c6)) ∧ W.cell? ⟨wz.heap.size, 2, none⟩ = some (.bool b6') ∧ W.cell? ⟨wz.heap.size, 3, none⟩ = some (.slice A6' m6' c6')) ∧ W.cell? ⟨w.heap.size, 0, none⟩ = some (.slice (some a1) r c1) ∧ W.cell? (a1.add x) = some (.slice (some ax) m dx)) ∧ (W.cell? (ax.add y) = some (.int .i64 ny) ∧ W.cell? (a0.add y) = some (.slice (some a8) n0 d7)) ∧ (W.cell? (a8.add (z * 4)) = some (.bool b8) ∧ W.cell? ⟨(a8.add (z * 4)).block, (a8.add (z * 4)).off + 1, none⟩ = some (.slice A8 m8 c8)) ∧ W.cell? ⟨(a8.add (z * 4)).block, (a8.add (z * 4)).off + 2, none⟩ = some (.bool b8') ∧ W.cell? ⟨(a8.add (z * 4)).block, (a8.add (z * 4)).off + 3, none⟩ = some (.slice A8' m8' c8')))) (by kernel_rfl) ?_ (fun hHeld => ?_)
         ·exact HLS.out _ bel
         refine tkK 0 ?_
         (try simp only [Act.put, ly])
         refine puK 1 ?_
         (try simp only [Act.put, ly])
         refine tkK 2 ?_
         (try simp only [Act.put, ly])
         refine puK 3 ?_
         (try simp only [Act.put, ly])
         refine puK 4 ?_
         (try simp only [Act.put, ly])
         refine tkK 5 ?_
         (try simp only [Act.put, ly])
         refine puK 6 ?_
         (try simp only [Act.put, ly])
         refine puK 7 ?_
         (try simp only [Act.put, ly])
         refine tkK 8 ?_
         (try simp only [Act.put, ly])
         refine puK 10 ?_
         (try simp only [Act.put, ly])
         refine puK 11 ?_
         (try simp only [Act.put, ly])
         refine puK 12 ?_
         (try simp only [Act.put, ly])
         refine tkK 13 ?_
         (try simp only [Act.put, ly])
         refine puK 14 ?_
         (try simp only [Act.put, ly])
         refine puK 15 ?_
         (try simp only [Act.put, ly])
         refine tkK 16 ?_
         (try simp only [Act.put, ly])
         refine wpAnyK_ready (rs := [9]) (by kernel_rfl) (by simp) ?_
         refine AllReadyK.cons rfl (fun KK hKK => ?_) AllReadyK.nil
         go_simp
         refine (lwhole_any _ ny (by omega) (by omega)).mono ?_
         rintro e u1 ⟨v1, rfl, j1, hb1⟩
         obtain ⟨b11, A11, m11, c11, b11', A11', m11', c11', rfl, j1, -, -⟩ := j1.op
         have y11 := hb1.size; (try simp only [zs] at y11)
         (try go_wp2_with fail)
         refine hKK.out _ _ ?_ (fun hHeld => ?_)
         ·(try dsimp only)
          exact HLS.out _ bel
         clear hKK KK
         (try simp only [Act.put, ly])
         refine wpAnyK_ready (rs := [17]) (by kernel_rfl) (by simp) ?_
         refine AllReadyK.cons rfl (fun KK hKK => ?_) AllReadyK.nil
         go_simp
         refine (rmul_rat _ (fun _ => False) _ _ (ny : Rat) (F y z) (RatL.to (j1.len ((rsz_int (by omega) (by omega)).mono (show 2 ≤ 1000000 by omega)))) (RatL.to (r8.mono (by omega)))).mono ?_
         rintro e u2 ⟨v2, rfl, j2, hb2⟩
         obtain ⟨b12, A12, m12, c12, b12', A12', m12', c12', rfl, j2, -, -⟩ := j2.op
         have y12 := hb2.size; (try simp only [zs] at y12)
         (try go_wp2_with fail)
         refine hKK.out _ _ ?_ (fun hHeld => ?_)
         ·(try dsimp only)
          exact HLS.out _ bel
         clear hKK KK
         (try simp only [Act.put, ly])
         refine wpAnyK_ready (rs := [18]) (by kernel_rfl) (by simp) ?_
         refine AllReadyK.cons rfl (fun KK hKK => ?_) AllReadyK.nil
         go_simp
         refine (radd_rat _ (fun _ => False) _ _ (sm y (fun y => ce L1 x y * F y z)) ((ny : Rat) * F y z) (RatL.to (sy.mono (by omega))) (RatL.to ((j2.len ((rsz_int (by omega) (by omega)).mul HF1.out)).mono (by omega)))).mono ?_
         rintro e u3 ⟨v3, rfl, j3, hb3⟩
         rw [← HE.out] at j3
         obtain ⟨b13, A13, m13, c13, b13', A13', m13', c13', rfl, j3, -, -⟩ := j3.op
         have y13 := hb3.size; (try simp only [zs] at y13)
         obtain ⟨e3, f3, -⟩ := Loc.all Ty (w' := u3)
         (try go_wp2_with fail)
         refine hKK.out _ _ ?_ (fun hHeld => ?_)
         ·(try dsimp only)
          exact HLS.out _ bel
         clear hKK KK
         (try simp only [Act.put, ly])
         refine wpAnyK_ready (rs := [19]) (by kernel_rfl) (by simp) ?_
         refine AllReadyK.last (by kernel_rfl) rfl (fun KK hKK => ?_) AllReadyK.nil
         go_simp
         refine hKK.out _ _ ?_
         clear hKK KK
         (try simp only [Act.put, ly])
         refine wpAnyK_done (by kernel_rfl) ?_ _
         refine NoPanic.normal ?_
         go_wp2_with fail
         go_meet
         exact ⟨⟨b13, A13, m13, c13, b13', A13', m13', c13'⟩, Loc.fill4 (Loc.to Ty (w' := u3)), RatV.len (RatV.out j3) HS1.out, bel⟩
        case rest =>
         obtain ⟨q, T9, s9, hB9⟩ := hcut
         obtain ⟨w9, rfl⟩ : ∃ w9 : World, w9 = wc := ⟨_, rfl⟩
         go_wp2_with fail
         go_roundw
         case rel => exact ⟨y + 1, q, by omega, by go_num, T9, s9, hB9⟩
         case measure => simp only [intOf]; omega
       ·obtain rfl : y = m := by omega
        obtain ⟨SM, hSM⟩ : ∃ q, sm y (fun y => ce L1 x y * F y z) = q := ⟨_, rfl⟩
        have HSZ : Hid (Rsz 900000 SM) := by show Rsz _ _; rw [← hSM]; exact HSM.out y (by omega)
        rw [hSM] at sy
        have HSE := Lib.hid hSM
        obtain ⟨nz, hnz⟩ : ∃ n, ly[z]? = some n := ⟨_, List.getElem?_eq_getElem (by have := (HP1.out.2.1.row HEY.out).1; have := HN2.out; omega)⟩
        have hnz2 := (HP1.out.2.1.row HEY.out).2 nz (List.mem_of_getElem? hnz)
        have HCE : Hid (ce L2 x z = (nz : Rat)) := ce_get HEY.out hnz
        obtain ⟨ay, rfl, hby, hcy, -, -⟩ := HIY.out.at hnz
        have HB4Y : Hid (Below w4.heap.size w4 wy) := HB4Z.out.trans (hBy.mono (by omega))
        have VPy := VP.keep (Keep.of_below HB4Y.out)
        have VQy := VQ.keep (Keep.of_below HB4Y.out)
        have HLS : Hid (∀ W, Below wy.heap.size wy W → (((W.cell? ⟨gb, 0, none⟩ = some (.bool bq) ∧ W.cell? ⟨gb, 1, none⟩ = some (.slice Eq mq kq)) ∧ W.cell? ⟨gb, 2, none⟩ = some (.bool dq) ∧ W.cell? ⟨gb, 3, none⟩ = some (.slice Gq nq lq)) ∧ ((W.cell? ⟨wz.heap.size, 0, none⟩ = some (.bool b6) ∧ W.cell? ⟨wz.heap.size, 1, none⟩ = some (.slice A6 m6 c6)) ∧ W.cell? ⟨wz.heap.size, 2, none⟩ = some (.bool b6') ∧ W.cell? ⟨wz.heap.size, 3, none⟩ = some (.slice A6' m6' c6')) ∧ ((W.cell? ⟨ga, 0, none⟩ = some (.bool bp) ∧ W.cell? ⟨ga, 1, none⟩ = some (.slice Ep mp kp')) ∧ W.cell? ⟨ga, 2, none⟩ = some (.bool dp) ∧ W.cell? ⟨ga, 3, none⟩ = some (.slice Gp np lp)) ∧ (W.cell? ⟨w.heap.size + 1, 0, none⟩ = some (.slice (some a2) s c2) ∧ W.cell? (a2.add x) = some (.slice (some ay) n0 dy)) ∧ W.cell? (ay.add z) = some (.int .i64 nz))) := fun W hW => by
         have hWx := HBY.out.trans (hW.mono (by omega))
         have hW4 := HB4Y.out.trans (hW.mono (by omega))
         exact ⟨⟨⟨Loc.cell (Lb.below hW4) 0, Loc.cell (Lb.below hW4) 1⟩, Loc.cell (Lb.below hW4) 2, Loc.cell (Lb.below hW4) 3⟩, ⟨⟨Loc.cell (Ty.below hW) 0, Loc.cell (Ty.below hW) 1⟩, Loc.cell (Ty.below hW) 2, Loc.cell (Ty.below hW) 3⟩, ⟨⟨Loc.cell (La.below hW4) 0, Loc.cell (La.below hW4) 1⟩, Loc.cell (La.below hW4) 2, Loc.cell (La.below hW4) 3⟩, ⟨(HCC.out W hWx).1.2, HCY.out W hWx⟩, cell_keep (X := fun _ => False) hcy (by rw [addr_block]; exact hby) id (.of_below hWx)⟩
        have HPM : Hid (Rsz 900004 ((p2 : Rat) * SM)) := ((rsz_int (by omega) (by omega)).mul HSZ.out).mono (by omega)
        have HPN : Hid (Rsz 4 ((p1 : Rat) * (nz : Rat))) := ((rsz_int (by omega) (by omega)).mul (rsz_int (by omega) (by omega))).mono (by omega)
        obtain ⟨q, hq⟩ : ∃ q, rcmp ((p2 : Rat) * SM) ((p1 : Rat) * (nz : Rat)) = q := ⟨_, rfl⟩
        have HQ := Lib.hid hq
        have HZ : Hid (q = 0 ↔ (p2 : Rat) * SM = (p1 : Rat) * ce L2 x z) := by show _ ↔ _; rw [← hq, HCE.out]; exact rcmp_zero _ _
        have HBF : Hid (∀ W, Below wy.heap.size wy W → Below wx.heap.size wx W) := fun W hW => HBY.out.trans (hW.mono (by omega))
        clear hSM hnz hcy hq
        go_upto_region 16 with fail
        go_cut [114] from 99 to 115 (fun v W => v = .bool (q != 0) ∧ Below wy.heap.size wy W)
        case first =>
         go_wp2_with fail
         refine wp_region_noPanic ?_
         refine wp_region_held_drew (S := (fun W => (((W.cell? ⟨gb, 0, none⟩ = some (.bool bq) ∧ W.cell? ⟨gb, 1, none⟩ = some (.slice Eq mq kq)) ∧ W.cell? ⟨gb, 2, none⟩ = some (.bool dq) ∧ W.cell? ⟨gb, 3, none⟩ = some (.slice Gq nq lq)) ∧ ((W.cell? ⟨wz.heap.size, 0, none⟩ = some (.bool b6) ∧ W.cell? ⟨wz.heap.size, 1, none⟩ = some (.slice A6 m6 c6)) ∧ W.cell? ⟨wz.heap.size, 2, none⟩ = some (.bool b6') ∧ W.cell? ⟨wz.heap.size, 3, none⟩ = some (.slice A6' m6' c6')) ∧ ((W.cell? ⟨ga, 0, none⟩ = some (.bool bp) ∧ W.cell? ⟨ga, 1, none⟩ = some (.slice Ep mp kp')) ∧ W.cell? ⟨ga, 2, none⟩ = some (.bool dp) ∧ W.cell? ⟨ga, 3, none⟩ = some (.slice Gp np lp)) ∧ (W.cell? ⟨w.heap.size + 1, 0, none⟩ = some (.slice (some a2) s c2) ∧ W.cell? (a2.add x) = some (.slice (some ay) n0 dy)) ∧ W.cell? (ay.add z) = some (.int .i64 nz)))) (by kernel_rfl) ?_ (fun hHeld => ?_)
         ·exact HLS.out _ bel
         refine takeT 0 hHeld ?_
         (try simp only [Act.put, ly])
         refine takeT 1 hHeld ?_
         (try simp only [Act.put, ly])
         refine takeT 3 hHeld ?_
         (try simp only [Act.put, ly])
         refine takeT 4 hHeld ?_
         (try simp only [Act.put, ly])
         refine takeT 5 hHeld ?_
         (try simp only [Act.put, ly])
         refine takeT 6 hHeld ?_
         (try simp only [Act.put, ly])
         refine takeT 7 hHeld ?_
         (try simp only [Act.put, ly])
         refine takeT 8 hHeld ?_
         (try simp only [Act.put, ly])
         refine takeT 9 hHeld ?_
         (try simp only [Act.put, ly])
         refine takeT 10 hHeld ?_
         (try simp only [Act.put, ly])
         refine takeT 11 hHeld ?_
         (try simp only [Act.put, ly])
         refine wpAnyH_ready (rs := [2]) (by kernel_rfl) (by simp) ?_
         refine AllReadyH.cons rfl (fun K hK => ?_) AllReadyH.nil
         go_simp
         refine (rmul_rat _ (fun _ => False) _ _ (p2 : Rat) SM (RatL.to (VQy.mono (by omega))) (RatL.to (sy.mono (by omega)))).mono ?_
         rintro e u1 ⟨v1, rfl, j1, hb1⟩
         obtain ⟨b11, A11, m11, c11, b11', A11', m11', c11', rfl, j1, -, -⟩ := j1.op
         have y11 := hb1.size; (try simp only [zs] at y11)
         (try go_wp2_with fail)
         refine hK.out _ _ ?_ (fun hHeld => ?_)
         ·(try dsimp only)
          exact HLS.out _ bel
         clear hK K
         (try simp only [Act.put, ly])
         refine wpAnyH_ready (rs := [12]) (by kernel_rfl) (by simp) ?_
         refine AllReadyH.cons rfl (fun K hK => ?_) AllReadyH.nil
         go_simp
         refine (lwhole_any _ nz (by omega) (by omega)).mono ?_
         rintro e u2 ⟨v2, rfl, j2, hb2⟩
         obtain ⟨b12, A12, m12, c12, b12', A12', m12', c12', rfl, j2, -, -⟩ := j2.op
         have y12 := hb2.size; (try simp only [zs] at y12)
         (try go_wp2_with fail)
         refine hK.out _ _ ?_ (fun hHeld => ?_)
         ·(try dsimp only)
          exact HLS.out _ bel
         clear hK K
         (try simp only [Act.put, ly])
         refine wpAnyH_ready (rs := [13]) (by kernel_rfl) (by simp) ?_
         refine AllReadyH.cons rfl (fun K hK => ?_) AllReadyH.nil
         go_simp
         refine (rmul_rat _ (fun _ => False) _ _ (p1 : Rat) (nz : Rat) (RatL.to (VPy.mono (by omega))) (RatL.to (j2.len ((rsz_int (by omega) (by omega)).mono (show 2 ≤ 1000000 by omega))))).mono ?_
         rintro e u3 ⟨v3, rfl, j3, hb3⟩
         obtain ⟨b13, A13, m13, c13, b13', A13', m13', c13', rfl, j3, -, -⟩ := j3.op
         have y13 := hb3.size; (try simp only [zs] at y13)
         (try go_wp2_with fail)
         refine hK.out _ _ ?_ (fun hHeld => ?_)
         ·(try dsimp only)
          exact HLS.out _ bel
         clear hK K
         (try simp only [Act.put, ly])
         refine wpAnyH_ready (rs := [14]) (by kernel_rfl) (by simp) ?_
         refine AllReadyH.cons rfl (fun K hK => ?_) AllReadyH.nil
         go_simp
         refine (rcompare_rat _ (fun _ => False) _ _ ((p2 : Rat) * SM) ((p1 : Rat) * (nz : Rat)) (RatL.to ((j1.len HPM.out).mono (by omega))) (RatL.to ((j3.len HPN.out).mono (by omega)))).mono ?_
         rintro e u4 ⟨he, hb4⟩
         rw [HQ.out] at he
         subst he
         have y14 := hb4.size; (try simp only [zs] at y14)
         (try go_wp2_with fail)
         refine hK.out _ _ ?_ (fun hHeld => ?_)
         ·(try dsimp only)
          exact HLS.out _ bel
         clear hK K
         (try simp only [Act.put, ly])
         refine takeT 15 hHeld ?_
         (try simp only [Act.put, ly])
         refine wpAnyH_done (by kernel_rfl) ?_ _
         refine NoPanic.normal ?_
         go_wp2_with fail
         go_meet
         exact ⟨rfl, bel⟩
        case rest =>
         obtain ⟨rfl, hB9⟩ := hcut
         obtain ⟨w9, rfl⟩ : ∃ w9 : World, w9 = wc := ⟨_, rfl⟩
         have HB9 := Lib.hid (HBF.out _ hB9)
         by_cases h0 : q = 0
         ·have HV := Lib.hid (HZ.out.1 h0)
          have d5 : (q == 0) = true := beq_iff_eq.2 h0
          have d6 : (q != 0) = false := by simp only [bne, d5]; rfl
          clear HZ h0
          go_wp2_with fail
          go_roundw
          case rel =>
           refine ⟨z + 1, by omega, by go_num, Lib.hid (fun z' hz' => ?_), HB9.out⟩
           by_cases hzz : z' < z
           ·exact hallz.out z' hzz
           ·obtain rfl : z' = z := by omega
            rw [HSE.out]; exact HV.out
          case measure => simp only [intOf]; omega
         ·have HV : Hid (¬ WIT L1 L2 y N F) := fun h => h0 (HZ.out.2 (by
           rw [← HSE.out, ← HT1.out, ← HT2.out]
           exact h.2.2.2.2.2.2 x (by rw [HR.out]; exact hlt) z (by rw [HN2.out]; exact hltz)))
          have d5 : (q == 0) = false := beq_eq_false_iff_ne.2 h0
          have d6 : (q != 0) = true := bne_iff_ne.2 h0
          have HBX2 := Lib.hid (HBX.out.trans (HB9.out.mono (by omega)))
          clear HZ h0
          go_wp2_with fail
          go_ret
          exact ⟨Tells.no HV.out, HBX2.out⟩
     ·obtain rfl : z = n0 := by omega
      go_wp2_with fail
      go_roundw
      case rel =>
       refine ⟨x + 1, by omega, by go_num, Lib.hid (fun x' hx' => ?_), HB4Z.out⟩
       by_cases hxx : x' < x
       ·exact hall.out x' hxx
       ·obtain rfl : x' = x := by omega
        exact hallz.out
      case measure => simp only [intOf]; omega
   ·obtain rfl : x = r := by omega
    have HV : Hid (WIT L1 L2 m N F) := ⟨HP1.out.1, HP1.out.2.1, HP1.out.2.2, HST.out, HN1.out.symm, by rw [HN0.out, HN2.out], fun x hx z hz => by
     rw [HT1.out, HT2.out]
     exact hall.out x (by rw [← HR.out]; exact hx) z (by rw [← HN2.out]; exact hz)⟩
    go_wp2_with fail
    go_ret
    exact ⟨Tells.yes HV.out, HBX.out⟩
end Go.Proofs.YtdambnieminnfaaGreat

