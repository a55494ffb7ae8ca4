/- For every input the law returns true: the law's walk, and the statement out of it. -/
import Derived.Test.YtpeglenapmkdfaaGreatRows
import Derived.Test.YtpeglenapmkdfaaGreatM2
import Derived.Test.YtpeglenapmkdfaaGreatM14
import Derived.Test.YtpeglenapmkdfaaGreatM17
import Derived.Test.YtpeglenapmkdfaaGreatM46
import Derived.Test.YtpeglenapmkdfaaGreatM47
set_option linter.unusedSimpArgs false
set_option linter.unusedVariables false

/- LinearRedundant: the law's walk. -/
namespace Go.Proofs.YtpeglenapmkdfaaGreat
open Go.RowKit
attribute [local go_sem ↓] Go.wp_at_zero Go.wp_at_succ
attribute [local go_sem] beq_self_eq_true

set_option maxRecDepth 100000 in
set_option maxHeartbeats 32000000 in
theorem redundant_walk (w : World) (v0 v1 v2 : Value) (L : List (List RF)) (l lc : List RF) (ua ub bz : Int) (hA : RMat w v0 L) (hB : Rats w (fun _ => False) v1 l) (hC : Rats w (fun _ => False) v2 lc) (ha : 0 ≤ ua ∧ ua ≤ 255) (hb : 0 ≤ ub ∧ ub ≤ 255) (hz : -128 ≤ bz ∧ bz ≤ 127) :
    Calls Tryz.prog 5 #[.agg #[v0, v1, v2], .agg #[.int .u8 ua, .int .u8 ub], .int .i8 bz] w fun e w' => e = .returned (.bool true) ∧ Below w.heap.size w w' := by
  have HA := Lib.hid hA
  have HB := Lib.hid hB
  have HCC := Lib.hid hC
  have HBZ := Lib.hid hz
  have HUA := Lib.hid ha
  have HUB0 := Lib.hid hb
  obtain ⟨A, cA, rfl, hA, la1, la2⟩ := hA.op
  obtain ⟨B, cB, rfl, hB, lb1, lb2⟩ := hB.op
  obtain ⟨C, cC, rfl, hC, lc1, lc2⟩ := hC.op
  clear hA hB hC ha hb hz
  obtain ⟨m, hmm⟩ : ∃ m, L.length = m := ⟨_, rfl⟩
  have HM := Lib.hid hmm
  rw [hmm] at HA ⊢
  clear hmm
  have L1 := made1 w #[.slice A m cA, .slice B l.length cB, .slice C lc.length cC] 37
  have L2 := made2 w (.cells #[.slice A m cA, .slice B l.length cB, .slice C lc.length cC] 37) #[.int .u8 ua, .int .u8 ub] 38
  go_enter Tryz.func5, Tryz.ntmps5
  go_wp2_with fail
  refine (known08_any _).mono ?_
  rintro e w1 ⟨rfl, hb1⟩
  obtain ⟨z1, z2⟩ := sz2 hb1
  obtain ⟨e1, f1, l1⟩ := L1.all (w' := w1)
  obtain ⟨e2, f2, l2⟩ := L2.all (w' := w1)
  have K1 : Loc w1 w.heap.size _ _ := L1.to
  have K2 : Loc w1 (w.heap.size + 1) _ _ := L2.to
  have K3 := made1 w1 #[.slice A m cA, .slice B l.length cB] 25
  have K13 : Loc (w1.alloc (.cells #[.slice A m cA, .slice B l.length cB] 25)) w.heap.size _ _ := K1.to
  have K23 : Loc (w1.alloc (.cells #[.slice A m cA, .slice B l.length cB] 25)) (w.heap.size + 1) _ _ := K2.to
  obtain ⟨a0, u0, HROW, HROW2⟩ := first_row (HA.out.keep (kp : Keep (fun _ => False) w (w1.alloc (.cells #[.slice A m cA, .slice B l.length cB] 25)))) HM.out ⟨w.heap.size + 1, 0, none⟩ (.int .u8 ua) (Loc.c 0 K23) K23.lt
  obtain ⟨n, hn⟩ : ∃ n, lens L 0 = n := ⟨_, rfl⟩
  have HN := Lib.hid hn
  rw [hn] at HROW2
  clear hn
  have hq1 : w.heap.size + 2 ≤ w1.heap.size := by omega
  have HAK : Hid (∀ W, Keep (fun _ => False) w W → RMat W (.slice A m cA) L) := fun W hW => HA.out.keep hW
  clear L1 L2 HA
  go_wp2_with fail
  clear e1 f1 l1 e2 f2 l2
  refine wp_region_noPanic ?_
  refine wp_region_held_drew (S := (fun W => (W.cell? ⟨w1.heap.size, 0, none⟩ = some (.slice A m cA) ∧ W.cell? ⟨w1.heap.size, 1, none⟩ = some (.slice B l.length cB)) ∧ W.cell? ⟨w.heap.size, 2, none⟩ = some (.slice C lc.length cC) ∧ W.cell? a0 = some u0 ∧ W.cell? ⟨w.heap.size + 1, 0, none⟩ = some (.int .u8 ua) ∧ W.cell? ⟨w.heap.size + 1, 1, none⟩ = some (.int .u8 ub))) (by kernel_rfl) ?_ (fun hHeld => ?_)
  · exact ⟨⟨Loc.c 0 K3, Loc.c 1 K3⟩, Loc.c 2 K13, HROW.out _ kp, Loc.c 0 K23, Loc.c 1 K23⟩
  refine takeT 0 hHeld ?_
  (try simp only [Act.put, List.getElem_toArray, List.getElem_cons_succ, List.getElem_cons_zero, List.setIfInBounds_toArray, List.set_cons_zero, List.set_cons_succ])
  refine wpAnyH_ready (rs := [1]) (by kernel_rfl) (by simp) ?_
  refine AllReadyH.cons rfl (fun K hK => ?_) AllReadyH.nil
  go_simp
  refine (few_any8 _ _ _ L l (HAK.out _ kp) (HB.out.keep kp)).mono ?_
  rintro e w3 ⟨⟨b, rfl, hb⟩, hb3⟩
  have y3 := hb3.size; (try simp only [World.size_alloc, size_set, size_drew, size_drewN] at y3)
  cases b
  · clear hb
    (try go_wp2_with fail)
    refine hK.out _ _ ?_ (fun hHeld => ?_)
    · (try dsimp only)
      exact ⟨⟨Loc.c 0 K3, Loc.c 1 K3⟩, Loc.c 2 K13, HROW.out _ kp, Loc.c 0 K23, Loc.c 1 K23⟩
    clear hK K
    (try simp only [Act.put, List.getElem_toArray, List.getElem_cons_succ, List.getElem_cons_zero, List.setIfInBounds_toArray, List.set_cons_zero, List.set_cons_succ])
    refine takeT 2 hHeld ?_
    (try simp only [Act.put, List.getElem_toArray, List.getElem_cons_succ, List.getElem_cons_zero, List.setIfInBounds_toArray, List.set_cons_zero, List.set_cons_succ])
    refine takeT 3 hHeld ?_
    (try simp only [Act.put, List.getElem_toArray, List.getElem_cons_succ, List.getElem_cons_zero, List.setIfInBounds_toArray, List.set_cons_zero, List.set_cons_succ])
    refine offT 4 hHeld ?_
    refine offT 5 hHeld ?_
    refine offT 6 hHeld ?_
    refine offT 7 hHeld ?_
    (try simp only [Act.put, List.getElem_toArray, List.getElem_cons_succ, List.getElem_cons_zero, List.setIfInBounds_toArray, List.set_cons_zero, List.set_cons_succ])
    refine takeT 8 hHeld ?_
    (try simp only [Act.put, List.getElem_toArray, List.getElem_cons_succ, List.getElem_cons_zero, List.setIfInBounds_toArray, List.set_cons_zero, List.set_cons_succ])
    refine takeT 9 hHeld ?_
    (try simp only [Act.put, List.getElem_toArray, List.getElem_cons_succ, List.getElem_cons_zero, List.setIfInBounds_toArray, List.set_cons_zero, List.set_cons_succ])
    refine offT 10 hHeld ?_
    refine offT 11 hHeld ?_
    refine offT 12 hHeld ?_
    refine offT 13 hHeld ?_
    (try simp only [Act.put, List.getElem_toArray, List.getElem_cons_succ, List.getElem_cons_zero, List.setIfInBounds_toArray, List.set_cons_zero, List.set_cons_succ])
    refine takeT 14 hHeld ?_
    (try simp only [Act.put, List.getElem_toArray, List.getElem_cons_succ, List.getElem_cons_zero, List.setIfInBounds_toArray, List.set_cons_zero, List.set_cons_succ])
    refine takeT 15 hHeld ?_
    (try simp only [Act.put, List.getElem_toArray, List.getElem_cons_succ, List.getElem_cons_zero, List.setIfInBounds_toArray, List.set_cons_zero, List.set_cons_succ])
    refine offT 16 hHeld ?_
    refine offT 17 hHeld ?_
    refine offT 18 hHeld ?_
    (try simp only [Act.put, List.getElem_toArray, List.getElem_cons_succ, List.getElem_cons_zero, List.setIfInBounds_toArray, List.set_cons_zero, List.set_cons_succ])
    refine takeT 19 hHeld ?_
    (try simp only [Act.put, List.getElem_toArray, List.getElem_cons_succ, List.getElem_cons_zero, List.setIfInBounds_toArray, List.set_cons_zero, List.set_cons_succ])
    refine takeT 20 hHeld ?_
    (try simp only [Act.put, List.getElem_toArray, List.getElem_cons_succ, List.getElem_cons_zero, List.setIfInBounds_toArray, List.set_cons_zero, List.set_cons_succ])
    refine offT 21 hHeld ?_
    refine offT 22 hHeld ?_
    refine offT 23 hHeld ?_
    refine offT 24 hHeld ?_
    refine offT 25 hHeld ?_
    refine offT 26 hHeld ?_
    refine offT 27 hHeld ?_
    refine offT 28 hHeld ?_
    refine offT 29 hHeld ?_
    (try simp only [Act.put, List.getElem_toArray, List.getElem_cons_succ, List.getElem_cons_zero, List.setIfInBounds_toArray, List.set_cons_zero, List.set_cons_succ])
    refine takeT 30 hHeld ?_
    (try simp only [Act.put, List.getElem_toArray, List.getElem_cons_succ, List.getElem_cons_zero, List.setIfInBounds_toArray, List.set_cons_zero, List.set_cons_succ])
    refine wpAnyH_done (by kernel_rfl) ?_ _
    refine NoPanic.normal ?_
    go_wp2_with fail
    go_ret
    exact ⟨rfl, bel⟩
  have HF : Hid (FewS L l) := hb.out.1 rfl
  clear hb
  (try go_wp2_with fail)
  refine hK.out _ _ ?_ (fun hHeld => ?_)
  · (try dsimp only)
    exact ⟨⟨Loc.c 0 K3, Loc.c 1 K3⟩, Loc.c 2 K13, HROW.out _ kp, Loc.c 0 K23, Loc.c 1 K23⟩
  clear hK K
  (try simp only [Act.put, List.getElem_toArray, List.getElem_cons_succ, List.getElem_cons_zero, List.setIfInBounds_toArray, List.set_cons_zero, List.set_cons_succ])
  refine takeT 2 hHeld ?_
  (try simp only [Act.put, List.getElem_toArray, List.getElem_cons_succ, List.getElem_cons_zero, List.setIfInBounds_toArray, List.set_cons_zero, List.set_cons_succ])
  refine takeT 3 hHeld ?_
  (try simp only [Act.put, List.getElem_toArray, List.getElem_cons_succ, List.getElem_cons_zero, List.setIfInBounds_toArray, List.set_cons_zero, List.set_cons_succ])
  refine takeT 4 hHeld ?_
  (try simp only [Act.put, List.getElem_toArray, List.getElem_cons_succ, List.getElem_cons_zero, List.setIfInBounds_toArray, List.set_cons_zero, List.set_cons_succ])
  refine takeT 5 hHeld ?_
  (try simp only [Act.put, List.getElem_toArray, List.getElem_cons_succ, List.getElem_cons_zero, List.setIfInBounds_toArray, List.set_cons_zero, List.set_cons_succ])
  refine takeT 6 hHeld ?_
  (try simp only [Act.put, List.getElem_toArray, List.getElem_cons_succ, List.getElem_cons_zero, List.setIfInBounds_toArray, List.set_cons_zero, List.set_cons_succ])
  by_cases h5 : 5 < m
  · have hd : decide ((5 : Int) < (m : Int)) = true := decide_eq_true (by omega)
    refine takeT 7 hHeld ?_
    (try simp only [Act.put, List.getElem_toArray, List.getElem_cons_succ, List.getElem_cons_zero, List.setIfInBounds_toArray, List.set_cons_zero, List.set_cons_succ])
    refine takeT 8 hHeld ?_
    (try simp only [Act.put, List.getElem_toArray, List.getElem_cons_succ, List.getElem_cons_zero, List.setIfInBounds_toArray, List.set_cons_zero, List.set_cons_succ])
    refine takeT 9 hHeld ?_
    (try simp only [Act.put, List.getElem_toArray, List.getElem_cons_succ, List.getElem_cons_zero, List.setIfInBounds_toArray, List.set_cons_zero, List.set_cons_succ])
    refine offT 10 hHeld ?_
    refine offT 11 hHeld ?_
    refine offT 12 hHeld ?_
    refine offT 13 hHeld ?_
    (try simp only [Act.put, List.getElem_toArray, List.getElem_cons_succ, List.getElem_cons_zero, List.setIfInBounds_toArray, List.set_cons_zero, List.set_cons_succ])
    refine takeT 14 hHeld ?_
    (try simp only [Act.put, List.getElem_toArray, List.getElem_cons_succ, List.getElem_cons_zero, List.setIfInBounds_toArray, List.set_cons_zero, List.set_cons_succ])
    refine takeT 15 hHeld ?_
    (try simp only [Act.put, List.getElem_toArray, List.getElem_cons_succ, List.getElem_cons_zero, List.setIfInBounds_toArray, List.set_cons_zero, List.set_cons_succ])
    refine offT 16 hHeld ?_
    refine offT 17 hHeld ?_
    refine offT 18 hHeld ?_
    (try simp only [Act.put, List.getElem_toArray, List.getElem_cons_succ, List.getElem_cons_zero, List.setIfInBounds_toArray, List.set_cons_zero, List.set_cons_succ])
    refine takeT 19 hHeld ?_
    (try simp only [Act.put, List.getElem_toArray, List.getElem_cons_succ, List.getElem_cons_zero, List.setIfInBounds_toArray, List.set_cons_zero, List.set_cons_succ])
    refine takeT 20 hHeld ?_
    (try simp only [Act.put, List.getElem_toArray, List.getElem_cons_succ, List.getElem_cons_zero, List.setIfInBounds_toArray, List.set_cons_zero, List.set_cons_succ])
    refine offT 21 hHeld ?_
    refine offT 22 hHeld ?_
    refine offT 23 hHeld ?_
    refine offT 24 hHeld ?_
    refine offT 25 hHeld ?_
    refine offT 26 hHeld ?_
    refine offT 27 hHeld ?_
    refine offT 28 hHeld ?_
    refine offT 29 hHeld ?_
    (try simp only [Act.put, List.getElem_toArray, List.getElem_cons_succ, List.getElem_cons_zero, List.setIfInBounds_toArray, List.set_cons_zero, List.set_cons_succ])
    refine takeT 30 hHeld ?_
    (try simp only [Act.put, List.getElem_toArray, List.getElem_cons_succ, List.getElem_cons_zero, List.setIfInBounds_toArray, List.set_cons_zero, List.set_cons_succ])
    refine wpAnyH_done (by kernel_rfl) ?_ _
    refine NoPanic.normal ?_
    go_wp2_with fail
    go_ret
    exact ⟨rfl, bel⟩
  have hd : decide ((5 : Int) < (m : Int)) = false := decide_eq_false (by omega)
  refine takeT 7 hHeld ?_
  (try simp only [Act.put, List.getElem_toArray, List.getElem_cons_succ, List.getElem_cons_zero, List.setIfInBounds_toArray, List.set_cons_zero, List.set_cons_succ])
  refine takeT 8 hHeld ?_
  (try simp only [Act.put, List.getElem_toArray, List.getElem_cons_succ, List.getElem_cons_zero, List.setIfInBounds_toArray, List.set_cons_zero, List.set_cons_succ])
  refine takeT 9 hHeld ?_
  (try simp only [Act.put, List.getElem_toArray, List.getElem_cons_succ, List.getElem_cons_zero, List.setIfInBounds_toArray, List.set_cons_zero, List.set_cons_succ])
  refine takeT 10 hHeld ?_
  (try simp only [Act.put, List.getElem_toArray, List.getElem_cons_succ, List.getElem_cons_zero, List.setIfInBounds_toArray, List.set_cons_zero, List.set_cons_succ])
  refine takeT 11 hHeld ?_
  (try simp only [Act.put, List.getElem_toArray, List.getElem_cons_succ, List.getElem_cons_zero, List.setIfInBounds_toArray, List.set_cons_zero, List.set_cons_succ])
  refine wpAnyH_ready (rs := [12]) (by kernel_rfl) (by simp) ?_
  refine AllReadyH.cons rfl (fun K hK => ?_) AllReadyH.nil
  go_simp
  refine (numbers_any _ _ lc 8 (HCC.out.keep kp) (by decide)).mono ?_
  rintro e w4 ⟨⟨b, rfl, hb⟩, hb4⟩
  have y4 := hb4.size; (try simp only [World.size_alloc, size_set, size_drew, size_drewN] at y4)
  cases b
  · clear hb
    (try go_wp2_with fail)
    refine hK.out _ _ ?_ (fun hHeld => ?_)
    · (try dsimp only)
      exact ⟨⟨Loc.c 0 K3, Loc.c 1 K3⟩, Loc.c 2 K13, HROW.out _ kp, Loc.c 0 K23, Loc.c 1 K23⟩
    clear hK K
    (try simp only [Act.put, List.getElem_toArray, List.getElem_cons_succ, List.getElem_cons_zero, List.setIfInBounds_toArray, List.set_cons_zero, List.set_cons_succ])
    refine takeT 13 hHeld ?_
    (try simp only [Act.put, List.getElem_toArray, List.getElem_cons_succ, List.getElem_cons_zero, List.setIfInBounds_toArray, List.set_cons_zero, List.set_cons_succ])
    refine takeT 14 hHeld ?_
    (try simp only [Act.put, List.getElem_toArray, List.getElem_cons_succ, List.getElem_cons_zero, List.setIfInBounds_toArray, List.set_cons_zero, List.set_cons_succ])
    refine takeT 15 hHeld ?_
    (try simp only [Act.put, List.getElem_toArray, List.getElem_cons_succ, List.getElem_cons_zero, List.setIfInBounds_toArray, List.set_cons_zero, List.set_cons_succ])
    refine offT 16 hHeld ?_
    refine offT 17 hHeld ?_
    refine offT 18 hHeld ?_
    (try simp only [Act.put, List.getElem_toArray, List.getElem_cons_succ, List.getElem_cons_zero, List.setIfInBounds_toArray, List.set_cons_zero, List.set_cons_succ])
    refine takeT 19 hHeld ?_
    (try simp only [Act.put, List.getElem_toArray, List.getElem_cons_succ, List.getElem_cons_zero, List.setIfInBounds_toArray, List.set_cons_zero, List.set_cons_succ])
    refine takeT 20 hHeld ?_
    (try simp only [Act.put, List.getElem_toArray, List.getElem_cons_succ, List.getElem_cons_zero, List.setIfInBounds_toArray, List.set_cons_zero, List.set_cons_succ])
    refine offT 21 hHeld ?_
    refine offT 22 hHeld ?_
    refine offT 23 hHeld ?_
    refine offT 24 hHeld ?_
    refine offT 25 hHeld ?_
    refine offT 26 hHeld ?_
    refine offT 27 hHeld ?_
    refine offT 28 hHeld ?_
    refine offT 29 hHeld ?_
    (try simp only [Act.put, List.getElem_toArray, List.getElem_cons_succ, List.getElem_cons_zero, List.setIfInBounds_toArray, List.set_cons_zero, List.set_cons_succ])
    refine takeT 30 hHeld ?_
    (try simp only [Act.put, List.getElem_toArray, List.getElem_cons_succ, List.getElem_cons_zero, List.setIfInBounds_toArray, List.set_cons_zero, List.set_cons_succ])
    refine wpAnyH_done (by kernel_rfl) ?_ _
    refine NoPanic.normal ?_
    go_wp2_with fail
    go_ret
    exact ⟨rfl, bel⟩
  have HNC : Hid (NB lc 8) := hb.out.1 rfl
  clear hb
  (try go_wp2_with fail)
  refine hK.out _ _ ?_ (fun hHeld => ?_)
  · (try dsimp only)
    exact ⟨⟨Loc.c 0 K3, Loc.c 1 K3⟩, Loc.c 2 K13, HROW.out _ kp, Loc.c 0 K23, Loc.c 1 K23⟩
  clear hK K
  (try simp only [Act.put, List.getElem_toArray, List.getElem_cons_succ, List.getElem_cons_zero, List.setIfInBounds_toArray, List.set_cons_zero, List.set_cons_succ])
  refine takeT 13 hHeld ?_
  (try simp only [Act.put, List.getElem_toArray, List.getElem_cons_succ, List.getElem_cons_zero, List.setIfInBounds_toArray, List.set_cons_zero, List.set_cons_succ])
  refine takeT 14 hHeld ?_
  (try simp only [Act.put, List.getElem_toArray, List.getElem_cons_succ, List.getElem_cons_zero, List.setIfInBounds_toArray, List.set_cons_zero, List.set_cons_succ])
  refine takeT 15 hHeld ?_
  (try simp only [Act.put, List.getElem_toArray, List.getElem_cons_succ, List.getElem_cons_zero, List.setIfInBounds_toArray, List.set_cons_zero, List.set_cons_succ])
  refine takeT 16 hHeld ?_
  (try simp only [Act.put, List.getElem_toArray, List.getElem_cons_succ, List.getElem_cons_zero, List.setIfInBounds_toArray, List.set_cons_zero, List.set_cons_succ])
  have HMA : Hid (∀ W, Keep (fun _ => False) w W → Mat 2 W (fun _ => False) (.slice A m cA) m (lens L) (qm L)) := fun W hW => by have := HF.out.mat (HAK.out W hW); rw [HM.out] at this; exact this
  have HMB : Hid (∀ W, Keep (fun _ => False) w W → Nums 2 W (fun _ => False) (.slice B l.length cB) l.length (qs l)) := fun W hW => HF.out.rhs (HB.out.keep hW)
  have HC : Hid (∀ W, Keep (fun _ => False) w W → Nums 2 W (fun _ => False) (.slice C lc.length cC) lc.length (qs lc)) := fun W hW => HNC.out.nums (HCC.out.keep hW)
  have HL8 : Hid (∀ i, i < m → lens L i ≤ 8) := fun i hi => HF.out.len8 i (by rw [HM.out]; exact hi)
  refine wpAnyH_ready (rs := [17]) (by kernel_rfl) (by simp) ?_
  refine AllReadyH.cons rfl (fun K hK => ?_) AllReadyH.nil
  go_simp
  refine (rvalid_any _ _ _ _ _ 2 _ _ _ (HMA.out _ kp) (HMB.out _ kp)).mono ?_
  rintro e w7 ⟨⟨b, rfl, hb⟩, hb7⟩
  have y7 := hb7.size; (try simp only [World.size_alloc, size_set, size_drew, size_drewN] at y7)
  cases b
  · clear hb
    (try go_wp2_with fail)
    refine hK.out _ _ ?_ (fun hHeld => ?_)
    · (try dsimp only)
      exact ⟨⟨Loc.c 0 K3, Loc.c 1 K3⟩, Loc.c 2 K13, HROW.out _ kp, Loc.c 0 K23, Loc.c 1 K23⟩
    clear hK K
    (try simp only [Act.put, List.getElem_toArray, List.getElem_cons_succ, List.getElem_cons_zero, List.setIfInBounds_toArray, List.set_cons_zero, List.set_cons_succ])
    refine takeT 18 hHeld ?_
    (try simp only [Act.put, List.getElem_toArray, List.getElem_cons_succ, List.getElem_cons_zero, List.setIfInBounds_toArray, List.set_cons_zero, List.set_cons_succ])
    refine takeT 19 hHeld ?_
    (try simp only [Act.put, List.getElem_toArray, List.getElem_cons_succ, List.getElem_cons_zero, List.setIfInBounds_toArray, List.set_cons_zero, List.set_cons_succ])
    refine takeT 20 hHeld ?_
    (try simp only [Act.put, List.getElem_toArray, List.getElem_cons_succ, List.getElem_cons_zero, List.setIfInBounds_toArray, List.set_cons_zero, List.set_cons_succ])
    refine offT 21 hHeld ?_
    refine offT 22 hHeld ?_
    refine offT 23 hHeld ?_
    refine offT 24 hHeld ?_
    refine offT 25 hHeld ?_
    refine offT 26 hHeld ?_
    refine offT 27 hHeld ?_
    refine offT 28 hHeld ?_
    refine offT 29 hHeld ?_
    (try simp only [Act.put, List.getElem_toArray, List.getElem_cons_succ, List.getElem_cons_zero, List.setIfInBounds_toArray, List.set_cons_zero, List.set_cons_succ])
    refine takeT 30 hHeld ?_
    (try simp only [Act.put, List.getElem_toArray, List.getElem_cons_succ, List.getElem_cons_zero, List.setIfInBounds_toArray, List.set_cons_zero, List.set_cons_succ])
    refine wpAnyH_done (by kernel_rfl) ?_ _
    refine NoPanic.normal ?_
    go_wp2_with fail
    go_ret
    exact ⟨rfl, bel⟩
  have HVS : Hid (VS m l.length (lens L)) := hb.out.1 rfl
  clear hb
  (try go_wp2_with fail)
  refine hK.out _ _ ?_ (fun hHeld => ?_)
  · (try dsimp only)
    exact ⟨⟨Loc.c 0 K3, Loc.c 1 K3⟩, Loc.c 2 K13, HROW.out _ kp, Loc.c 0 K23, Loc.c 1 K23⟩
  clear hK K
  (try simp only [Act.put, List.getElem_toArray, List.getElem_cons_succ, List.getElem_cons_zero, List.setIfInBounds_toArray, List.set_cons_zero, List.set_cons_succ])
  have hpos : 0 < m := HVS.out.1
  obtain ⟨rfl, D, d, rfl⟩ := HROW2.out hpos
  have q0 : (0 : Int) < (m : Int) := by omega
  refine takeT 18 hHeld ?_
  (try simp only [Act.put, List.getElem_toArray, List.getElem_cons_succ, List.getElem_cons_zero, List.setIfInBounds_toArray, List.set_cons_zero, List.set_cons_succ])
  refine takeT 19 hHeld ?_
  (try simp only [Act.put, List.getElem_toArray, List.getElem_cons_succ, List.getElem_cons_zero, List.setIfInBounds_toArray, List.set_cons_zero, List.set_cons_succ])
  refine takeT 20 hHeld ?_
  (try simp only [Act.put, List.getElem_toArray, List.getElem_cons_succ, List.getElem_cons_zero, List.setIfInBounds_toArray, List.set_cons_zero, List.set_cons_succ])
  refine takeT 21 hHeld ?_
  (try simp only [Act.put, List.getElem_toArray, List.getElem_cons_succ, List.getElem_cons_zero, List.setIfInBounds_toArray, List.set_cons_zero, List.set_cons_succ])
  refine takeT 22 hHeld ?_
  (try simp only [Act.put, List.getElem_toArray, List.getElem_cons_succ, List.getElem_cons_zero, List.setIfInBounds_toArray, List.set_cons_zero, List.set_cons_succ])
  refine takeT 23 hHeld ?_
  (try simp only [Act.put, List.getElem_toArray, List.getElem_cons_succ, List.getElem_cons_zero, List.setIfInBounds_toArray, List.set_cons_zero, List.set_cons_succ])
  refine takeT 24 hHeld ?_
  (try simp only [Act.put, List.getElem_toArray, List.getElem_cons_succ, List.getElem_cons_zero, List.setIfInBounds_toArray, List.set_cons_zero, List.set_cons_succ])
  refine takeT 25 hHeld ?_
  (try simp only [Act.put, List.getElem_toArray, List.getElem_cons_succ, List.getElem_cons_zero, List.setIfInBounds_toArray, List.set_cons_zero, List.set_cons_succ])
  refine takeT 26 hHeld ?_
  (try simp only [Act.put, List.getElem_toArray, List.getElem_cons_succ, List.getElem_cons_zero, List.setIfInBounds_toArray, List.set_cons_zero, List.set_cons_succ])
  refine takeT 27 hHeld ?_
  (try simp only [Act.put, List.getElem_toArray, List.getElem_cons_succ, List.getElem_cons_zero, List.setIfInBounds_toArray, List.set_cons_zero, List.set_cons_succ])
  refine takeT 28 hHeld ?_
  (try simp only [Act.put, List.getElem_toArray, List.getElem_cons_succ, List.getElem_cons_zero, List.setIfInBounds_toArray, List.set_cons_zero, List.set_cons_succ])
  by_cases hnc : lc.length ≠ n
  · have h7 : ((lc.length : Int) == (n : Int)) = false := beq_eq_false_iff_ne.2 (by omega)
    have h8 : ((lc.length : Int) != (n : Int)) = true := bne_iff_ne.2 (by omega)
    refine takeT 29 hHeld ?_
    (try simp only [Act.put, List.getElem_toArray, List.getElem_cons_succ, List.getElem_cons_zero, List.setIfInBounds_toArray, List.set_cons_zero, List.set_cons_succ])
    refine takeT 30 hHeld ?_
    (try simp only [Act.put, List.getElem_toArray, List.getElem_cons_succ, List.getElem_cons_zero, List.setIfInBounds_toArray, List.set_cons_zero, List.set_cons_succ])
    refine wpAnyH_done (by kernel_rfl) ?_ _
    refine NoPanic.normal ?_
    go_wp2_with fail
    go_ret
    exact ⟨rfl, bel⟩
  have hnc2 : lc.length = n := Classical.not_not.1 hnc
  have h7 : ((lc.length : Int) == (n : Int)) = true := beq_iff_eq.2 (by omega)
  have h8 : ((lc.length : Int) != (n : Int)) = false := by simp only [bne, h7]; rfl
  refine takeT 29 hHeld ?_
  (try simp only [Act.put, List.getElem_toArray, List.getElem_cons_succ, List.getElem_cons_zero, List.setIfInBounds_toArray, List.set_cons_zero, List.set_cons_succ])
  refine takeT 30 hHeld ?_
  (try simp only [Act.put, List.getElem_toArray, List.getElem_cons_succ, List.getElem_cons_zero, List.setIfInBounds_toArray, List.set_cons_zero, List.set_cons_succ])
  refine wpAnyH_done (by kernel_rfl) ?_ _
  refine NoPanic.normal ?_
  have HNC2 : Hid (lc.length = lens L 0) := hnc2.trans HN.out.symm
  have HM5 : Hid (m ≤ 5) := by show _ ≤ _; omega
  have HLM : Hid (l.length = m) := HVS.out.2.2.1
  have K37 : Loc w7 w1.heap.size _ _ := K3.to
  have K17 : Loc w7 w.heap.size _ _ := K13.to
  have K27 : Loc w7 (w.heap.size + 1) _ _ := K23.to
  have hkw7 : Keep (fun _ => False) w w7 := kp
  have HW7 : Hid (Below w.heap.size w w7) := bel
  have HS : Hid (∀ W, Keep (fun _ => False) w W → Sys 2 W (.agg #[.slice (some a0) m cA, .slice B l.length cB]) m l.length (lens L) (qm L) (qs l)) := fun W hW => ⟨_, _, _, _, rfl, HMA.out W hW, HMB.out W hW⟩
  obtain ⟨⟨s0, s1⟩, s2, s7, s8, s9⟩ := hHeld
  obtain ⟨i, hi⟩ : ∃ i : Nat, i = ua.toNat % m := ⟨_, rfl⟩
  obtain ⟨k, hk⟩ : ∃ k : Nat, k = ub.toNat % m := ⟨_, rfl⟩
  have HI : Hid (i < m) := by show _ < _; rw [hi]; exact Nat.mod_lt _ hpos
  have HK : Hid (k < m) := by show _ < _; rw [hk]; exact Nat.mod_lt _ hpos
  have hti : ua.tmod (m : Int) = (i : Int) := by rw [tmod_eq_if, if_pos HUA.out.1, hi, Int.natCast_emod, Int.toNat_of_nonneg HUA.out.1]
  have htk : ub.tmod (m : Int) = (k : Int) := by rw [tmod_eq_if, if_pos HUB0.out.1, hk, Int.natCast_emod, Int.toNat_of_nonneg HUB0.out.1]
  have hwi : IntKind.i64.wrap (i : Int) = i := by rw [IntKind.wrap_i64]; have := HI.out; have := HM5.out; omega
  have hwk : IntKind.i64.wrap (k : Int) = k := by rw [IntKind.wrap_i64]; have := HK.out; have := HM5.out; omega
  have hwa : IntKind.i64.wrap ua = ua := by rw [IntKind.wrap_i64]; have := HUA.out; omega
  have hwb : IntKind.i64.wrap ub = ub := by rw [IntKind.wrap_i64]; have := HUB0.out; omega
  have hm0 : ¬ ((m : Int) = 0) := by omega
  have hm1 : ((m : Int) == 0) = false := beq_eq_false_iff_ne.2 hm0
  have hi0 : (0 : Int) ≤ (i : Int) := by omega
  have hi1 : (i : Int) < (m : Int) := by have := HI.out; omega
  have hk0 : (0 : Int) ≤ (k : Int) := by omega
  have hk1 : (k : Int) < (m : Int) := by have := HK.out; omega
  clear hi hk hnc hnc2 h7 h8 hd h5 hb1 hb3 hb4 hb7 HAK HB HCC HNC HROW2 HF HROW
  go_wp2_with fail
  obtain ⟨a1, Di, di, ea, habi, -, hcelli, hnumi, li1, li2⟩ := Mat.at (HMA.out w (Keep.refl _ _)) HI.out
  injection ea with ea
  subst ea
  obtain ⟨a1, Dk, dk, ea, habk, -, hcellk, hnumk, lk1, lk2⟩ := Mat.at (HMA.out w (Keep.refl _ _)) HK.out
  injection ea with ea
  subst ea
  have hni : lens L i = n := (HVS.out.2.2.2.2.2 i HI.out).trans HN.out
  have hnk : lens L k = n := (HVS.out.2.2.2.2.2 k HK.out).trans HN.out
  rw [hni] at hcelli hnumi li1
  rw [hnk] at hcellk hnumk lk1
  have HNI := Lib.hid hnumi
  have HNK := Lib.hid hnumk
  have HCI : Hid (∀ W, Keep (fun _ => False) w W → W.cell? (a0.add i) = some (.slice Di n di)) := fun W hW => cell_keep hcelli (by rw [add_block]; exact habi) id hW
  have HCK : Hid (∀ W, Keep (fun _ => False) w W → W.cell? (a0.add k) = some (.slice Dk n dk)) := fun W hW => cell_keep hcellk (by rw [add_block]; exact habk) id hW
  have hn8 : n ≤ 8 := by rw [← hni]; exact HL8.out i HI.out
  have hn1 : 1 ≤ n := by rw [← HN.out]; exact HVS.out.2.2.2.1
  have r7 := HCI.out _ hkw7
  clear hcelli hcellk hnumi hnumk hni hnk
  go_quiet (fail)
  go_wp2_with fail
  clear s0 s1 s2 s7 s8 s9 hti htk hwi hwk hwa hwb hm0 hm1 r7
  have hlt3 := K37.lt
  go_loopw [10, 72] (fun v j wr => ∃ (c : Nat) (rs : List R4), c ≤ n ∧ j = .int .i64 c ∧ OwnR wr w7.heap.size v rs ∧ rs.length = c ∧ ValL 7 wr (fun b => v.ownBlock = some b) rs (fun j => qm L i j + (bz : Rat) * qm L k j) ∧ Below w7.heap.size w7 wr) (fun _ j _ => n - (intOf j).toNat)
  case atStart => exact ⟨0, [], by omega, rfl, OwnR.nil _ _, rfl, fun i r hr => by simp at hr, bel⟩
  case round =>
    obtain ⟨c, rs, hc, rfl, hown, hrl, hv, hB⟩ := hrel
    obtain ⟨wo, rfl⟩ : ∃ wo : World, wo = wr := ⟨_, rfl⟩
    have y9 := hB.size
    by_cases hlt : c < n
    · have hKF : Keep (fun _ => False) w wo := hkw7.trans (.of_below hB)
      obtain ⟨ai, b3, A3, m3, c3, b3', A3', m3', c3', ei, hai, -, x0, x1, x2, x3, r3⟩ := Nums.at HNI.out hlt
      obtain ⟨ak, b4, A4, m4, c4, b4', A4', m4', c4', ek, hak, -, t0, t1, t2, t3, r4⟩ := Nums.at HNK.out hlt
      subst ei ek
      have HLI : Hid (∀ W, Keep (fun _ => False) w W → (W.cell? (ai.add (c * 4)) = some (.bool b3) ∧ W.cell? ⟨(ai.add (c * 4)).block, (ai.add (c * 4)).off + 1, none⟩ = some (.slice A3 m3 c3)) ∧ W.cell? ⟨(ai.add (c * 4)).block, (ai.add (c * 4)).off + 2, none⟩ = some (.bool b3') ∧ W.cell? ⟨(ai.add (c * 4)).block, (ai.add (c * 4)).off + 3, none⟩ = some (.slice A3' m3' c3')) := fun W hW => ⟨⟨cell_keep x0 (by rw [add_block]; exact hai) id hW, cell_keep x1 (by simp only [add_block]; exact hai) id hW⟩, cell_keep x2 (by simp only [add_block]; exact hai) id hW, cell_keep x3 (by simp only [add_block]; exact hai) id hW⟩
      have HLK : Hid (∀ W, Keep (fun _ => False) w W → (W.cell? (ak.add (c * 4)) = some (.bool b4) ∧ W.cell? ⟨(ak.add (c * 4)).block, (ak.add (c * 4)).off + 1, none⟩ = some (.slice A4 m4 c4)) ∧ W.cell? ⟨(ak.add (c * 4)).block, (ak.add (c * 4)).off + 2, none⟩ = some (.bool b4') ∧ W.cell? ⟨(ak.add (c * 4)).block, (ak.add (c * 4)).off + 3, none⟩ = some (.slice A4' m4' c4')) := fun W hW => ⟨⟨cell_keep t0 (by rw [add_block]; exact hak) id hW, cell_keep t1 (by simp only [add_block]; exact hak) id hW⟩, cell_keep t2 (by simp only [add_block]; exact hak) id hW, cell_keep t3 (by simp only [add_block]; exact hak) id hW⟩
      have HLW : Hid (∀ W, Below w7.heap.size w7 W → W.cell? ⟨w1.heap.size, 0, none⟩ = some (.slice (some a0) m cA) ∧ (W.cell? (a0.add i) = some (.slice (some ai) n di) ∧ W.cell? (a0.add k) = some (.slice (some ak) n dk)) ∧ ((W.cell? (ai.add (c * 4)) = some (.bool b3) ∧ W.cell? ⟨(ai.add (c * 4)).block, (ai.add (c * 4)).off + 1, none⟩ = some (.slice A3 m3 c3)) ∧ W.cell? ⟨(ai.add (c * 4)).block, (ai.add (c * 4)).off + 2, none⟩ = some (.bool b3') ∧ W.cell? ⟨(ai.add (c * 4)).block, (ai.add (c * 4)).off + 3, none⟩ = some (.slice A3' m3' c3')) ∧ (W.cell? (ak.add (c * 4)) = some (.bool b4) ∧ W.cell? ⟨(ak.add (c * 4)).block, (ak.add (c * 4)).off + 1, none⟩ = some (.slice A4 m4 c4)) ∧ W.cell? ⟨(ak.add (c * 4)).block, (ak.add (c * 4)).off + 2, none⟩ = some (.bool b4') ∧ W.cell? ⟨(ak.add (c * 4)).block, (ak.add (c * 4)).off + 3, none⟩ = some (.slice A4' m4' c4')) := fun W hW => ⟨Loc.cell (K37.below hW) 0, ⟨HCI.out W (hkw7.trans (.of_below hW)), HCK.out W (hkw7.trans (.of_below hW))⟩, HLI.out W (hkw7.trans (.of_below hW)), HLK.out W (hkw7.trans (.of_below hW))⟩
      have HR3 : Hid (∀ W, Below wo.heap.size wo W → RatL 2 W (fun _ => False) (.agg #[.bool b3, .slice A3 m3 c3, .bool b3', .slice A3' m3' c3']) (qm L i c)) := fun W hW => r3.keep (hKF.trans (.of_below hW))
      have HR4 : Hid (∀ W, Below wo.heap.size wo W → RatL 2 W (fun _ => False) (.agg #[.bool b4, .slice A4 m4 c4, .bool b4', .slice A4' m4' c4']) (qm L k c)) := fun W hW => r4.keep (hKF.trans (.of_below hW))
      have HS3 : Hid (Rsz 2 (qm L i c)) := HNI.out.rsz (by decide) c hlt
      have HS4 : Hid (Rsz 2 (qm L k c)) := HNK.out.rsz (by decide) c hlt
      have HSB : Hid (Rsz 2 ((bz : Int) : Rat)) := rsz_int (by have := HBZ.out; omega) (by have := HBZ.out; omega)
      have k0 : (0 : Int) ≤ (c : Int) := by omega
      have k1 : (c : Int) < (n : Int) := by omega
      have hwz : IntKind.i64.wrap bz = bz := by rw [IntKind.wrap_i64]; have := HBZ.out; omega
      have hown7 : Hid (∀ b, u10.ownBlock = some b → b < wo.heap.size) := fun b hb => (hown.lt hb).1
      have HB7 := Lib.hid hB
      clear x0 x1 x2 x3 t0 t1 t2 t3 r3 r4 hB
      go_wp2_with fail
      go_region_held3 (fun W => W.cell? ⟨w1.heap.size, 0, none⟩ = some (.slice (some a0) m cA) ∧ (W.cell? (a0.add i) = some (.slice (some ai) n di) ∧ W.cell? (a0.add k) = some (.slice (some ak) n dk)) ∧ ((W.cell? (ai.add (c * 4)) = some (.bool b3) ∧ W.cell? ⟨(ai.add (c * 4)).block, (ai.add (c * 4)).off + 1, none⟩ = some (.slice A3 m3 c3)) ∧ W.cell? ⟨(ai.add (c * 4)).block, (ai.add (c * 4)).off + 2, none⟩ = some (.bool b3') ∧ W.cell? ⟨(ai.add (c * 4)).block, (ai.add (c * 4)).off + 3, none⟩ = some (.slice A3' m3' c3')) ∧ (W.cell? (ak.add (c * 4)) = some (.bool b4) ∧ W.cell? ⟨(ak.add (c * 4)).block, (ak.add (c * 4)).off + 1, none⟩ = some (.slice A4 m4 c4)) ∧ W.cell? ⟨(ak.add (c * 4)).block, (ak.add (c * 4)).off + 2, none⟩ = some (.bool b4') ∧ W.cell? ⟨(ak.add (c * 4)).block, (ak.add (c * 4)).off + 3, none⟩ = some (.slice A4' m4' c4'))
        (first | exact HLW.out _ hb99 | exact HLW.out _ (HB7.out.trans ((bel : Below wo.heap.size wo _).mono y9)))
        (first
          | (go_at_call 23; refine (rwholeN_any _ bz (by have := HBZ.out; omega) (by have := HBZ.out; omega)).mono ?_; rintro e u1 ⟨v6, rfl, i6, hb6⟩; obtain ⟨b6, A6, m6, c6, b6', A6', m6', c6', rfl, i6, -, -⟩ := i6.op; have y6 := hb6.size; (try simp only [World.size_alloc, size_set, size_drew, size_drewN] at y6))
          | (go_at_call 22; refine (rmul_rat _ (fun _ => False) _ _ ((bz : Int) : Rat) (qm L k c) (RatL.to (i6.len (HSB.out.mono (by decide)))) ((HR4.out _ bel).mono (by decide))).mono ?_; rintro e u2 ⟨v7, rfl, i7, hb7⟩; obtain ⟨b7, A7, m7, c7, b7', A7', m7', c7', rfl, i7, -, -⟩ := i7.op; have y7 := hb7.size; (try simp only [World.size_alloc, size_set, size_drew, size_drewN] at y7))
          | (go_at_call 21; refine (radd_rat _ (fun _ => False) _ _ (qm L i c) (((bz : Int) : Rat) * qm L k c) ((HR3.out _ bel).mono (by decide)) (RatL.to (i7.len ((HSB.out.mul HS4.out).mono (by decide))))).mono ?_; rintro e u9 ⟨v8, rfl, i9, hb9⟩; obtain ⟨b8, A8, m8, c8, b8', A8', m8', c8', rfl, i9, -, -⟩ := i9.op; have y11 := hb9.size; (try simp only [World.size_alloc, size_set, size_drew, size_drewN] at y11))
          | (refine step_pushR _ rfl _ _ rfl w7.heap.size u10 rs rfl (hown.below (bel : Below wo.heap.size wo (u9.alloc (.cells #[.bool b8, .slice A8 m8 c8, .bool b8', .slice A8' m8' c8'] 44)))) _ ⟨b8, A8, m8, c8, b8', A8', m8', c8'⟩ rfl (heap_alloc_new u9 _) (by omega) (by simp only [World.size_alloc]; omega) ?_; intro g cap w9 hown9 hg9 ho9 hl9; have hb99 : Below w7.heap.size w7 w9 := below_own (HB7.out.trans ((bel : Below wo.heap.size wo (u9.alloc (.cells #[.bool b8, .slice A8 m8 c8, .bool b8', .slice A8' m8' c8'] 44))).mono y9)) (hown.below (bel : Below wo.heap.size wo (u9.alloc (.cells #[.bool b8, .slice A8 m8 c8, .bool b8', .slice A8' m8' c8'] 44)))) hg9 (Nat.le_refl _) (by simp only [World.size_alloc]; omega)))
      all_goals
        have hvv : ValL 7 (u9.alloc (.cells #[.bool b8, .slice A8 m8 c8, .bool b8', .slice A8' m8' c8'] 44)) (fun b => u10.ownBlock = some b) rs (fun j => qm L i j + (bz : Rat) * qm L k j) := hv.keep (Keep.of_below (bel : Below wo.heap.size wo (u9.alloc (.cells #[.bool b8, .slice A8 m8 c8, .bool b8', .slice A8' m8' c8'] 44))))
        have hrr9 : RatL 7 (u9.alloc (.cells #[.bool b8, .slice A8 m8 c8, .bool b8', .slice A8' m8' c8'] 44)) (fun b => u10.ownBlock = some b) (R4.v ⟨b8, A8, m8, c8, b8', A8', m8', c8'⟩) (qm L i rs.length + (bz : Rat) * qm L k rs.length) := by
          rw [hrl]
          exact RatL.keep (RatL.weak (i9.len (HS3.out.add (HSB.out.mul HS4.out))) (fun b _ hb => by have := hown7.out b hb; show b < _; omega)) kp
        have hg3 := ValL.grow hvv hrr9 hg9 (ho9.imp id fun h => by rw [h, World.size_alloc])
        clear hvv hrr9 hb6 hb7 hb9
        go_wp2_with fail
        go_roundw
        case rel =>
          refine ⟨c + 1, rs ++ [⟨b8, A8, m8, c8, b8', A8', m8', c8'⟩], by omega, by go_num, (by first | exact hown9 | (rw [hrl] at hown9; exact hown9)), by simp [hrl], hg3.weak (fun b _ hb => ?_), hb99⟩
          injection hb with hb
          exact hb.symm
        case measure => simp only [intOf]; omega
    · obtain rfl : c = n := by omega
      go_wp2_with fail
      subst hrl
      obtain ⟨X, cX, rfl, hsum, -, -⟩ := (hown.nums hv (Y := fun _ => False) (fun _ _ h => h.elim) (fun _ _ h => h)).op
      have HSUM := Lib.hid hsum
      have HWO : Hid (Below w.heap.size w wo) := HW7.out.trans (hB.mono HW7.out.size)
      have hkwo : Keep (fun _ => False) w wo := .of_below HWO.out
      have K3o : Loc wo w1.heap.size _ _ := K37.below hB
      have K1o : Loc wo w.heap.size _ _ := K17.below hB
      obtain ⟨us, hul, hub, huc, hun, hui⟩ := Mat.rows (HMA.out w (Keep.refl _ _)) hpos
      have HUN : Hid (∀ W, Keep (fun _ => False) w W → ∀ i u, us[i]? = some u → Nums 2 W (fun _ => False) u (lens L i) (qm L i)) := fun W hW i u hu => (hun i u hu).keep hW
      have hlm := HLM.out
      obtain ⟨b0, bi, Ai, mi, ci, bi', Ai', mi', ci', eb, hbi, -, p0, p1, p2, p3, ri⟩ := Nums.at (HMB.out w (Keep.refl _ _)) (show i < l.length by have := HI.out; omega)
      obtain ⟨b1, bk, Ak, mk, ck, bk', Ak', mk', ck', eb1, hbk, -, g0, g1, g2, g3, rk⟩ := Nums.at (HMB.out w (Keep.refl _ _)) (show k < l.length by have := HK.out; omega)
      subst eb
      injection eb1 with eb1
      subst eb1
      have hwz : IntKind.i64.wrap bz = bz := by rw [IntKind.wrap_i64]; have := HBZ.out; omega
      clear hv hown hsum
      go_wp2_with fail
      refine Reg13r.reg13r (ri := ⟨bi, Ai, mi, ci, bi', Ai', mi', ci'⟩) (rk := ⟨bk, Ak, mk, ck, bk', Ak', mk', ck'⟩) (us := us) (f1 := qs l) (f2 := Bx l.length (qs l) (qs l i + (bz : Rat) * qs l k)) (fi := qs l i) (fk := qs l k) hwz hi0 (by omega) hk0 (by omega)
        (fun W hW => ⟨⟨Loc.cell (K3o.below hW) 0, Loc.cell (K3o.below hW) 1⟩, ⟨⟨cell_keep p0 (by rw [add_block]; exact hbi) id (hkwo.trans (.of_below hW)), cell_keep p1 (by simp only [add_block]; exact hbi) id (hkwo.trans (.of_below hW))⟩, cell_keep p2 (by simp only [add_block]; exact hbi) id (hkwo.trans (.of_below hW)), cell_keep p3 (by simp only [add_block]; exact hbi) id (hkwo.trans (.of_below hW))⟩, ⟨cell_keep g0 (by rw [add_block]; exact hbk) id (hkwo.trans (.of_below hW)), cell_keep g1 (by simp only [add_block]; exact hbk) id (hkwo.trans (.of_below hW))⟩, cell_keep g2 (by simp only [add_block]; exact hbk) id (hkwo.trans (.of_below hW)), cell_keep g3 (by simp only [add_block]; exact hbk) id (hkwo.trans (.of_below hW))⟩)
        (fun W hW i u hu => cell_keep (huc i u hu) (by rw [add_block]; exact hub) id (hkwo.trans (.of_below hW))) (Nat.lt_of_lt_of_le hub hkwo.size) (Lib.hid hui) (Lib.hid hul) (Lib.hid ⟨hpos, by have := HM5.out; omega⟩)
        (fun W hW => (((HMB.out w (Keep.refl _ _)).weak (Y := fun b => wo.heap.size ≤ b) (fun b hb h => absurd hb (by have h9 : wo.heap.size ≤ b := h; have := HWO.out.size; omega))).keep (.of_below (HWO.out.trans (hW.mono HWO.out.size)))))
        (Lib.hid ⟨by omega, by have := HM5.out; omega⟩) (fun W hW => ri.keep (hkwo.trans (.of_below hW))) (fun W hW => rk.keep (hkwo.trans (.of_below hW)))
        (Lib.hid ⟨fun j hj => by unfold Bx; rw [if_pos hj], bx_last⟩) (Lib.hid ⟨(HMB.out w (Keep.refl _ _)).rsz (by decide) i (by have := HI.out; omega), (HMB.out w (Keep.refl _ _)).rsz (by decide) k (by have := HK.out; omega), HBZ.out.1, HBZ.out.2⟩) ?_
      intro W hd gP cP gQ cQ v100 v101 v102 v103 v104 v105 v106 v107 v108 v109 v110 v111 v112 v113 v114 v115 v116 v117 v118 v119 v120 v121 v122 v123 v124 v125 v126 hld hO hN hb
      have hkW : Keep (fun _ => False) w W := hkwo.trans (.of_below hb)
      have HSX : Hid (Sys 7 W (.agg #[.slice (some ⟨gP, 0, none⟩) (m + 1) cP, .slice (some ⟨gQ, 0, none⟩) (l.length + 1) cQ]) (m + 1) (l.length + 1) (Nx m (lens L) rs.length) (Fx m (qm L) (fun j => qm L i j + (bz : Rat) * qm L k j)) (Bx l.length (qs l) (qs l i + (bz : Rat) * qs l k))) := ⟨_, _, _, _, rfl, OwnL.more hO hul (fun i u hu => (HUN.out W hkW i u hu).mono (by decide)) (HSUM.out.keep (.of_below hb)), hN⟩
      have HRL : Hid (rs.length = lens L 0) := HN.out.symm
      have hext := ext_of (F := qm L) (Bv := qs l) (f := fun j => qm L i j + (bz : Rat) * qm L k j) (b := qs l i + (bz : Rat) * qs l k) (by have h9 := HVS.out; rw [hlm] at h9; exact h9) (by have := HM5.out; omega)
      have HEX := Lib.hid hext
      have HVS2 : Hid (VS (m + 1) (l.length + 1) (Nx m (lens L) rs.length)) := by show VS _ _ _; rw [hlm, HRL.out]; exact hext.vs
      have HNC5 : Hid (lc.length = Nx m (lens L) rs.length 0) := by show _ = _; unfold Nx; rw [if_pos hpos]; exact HNC2.out
      have HN8 : Hid (∀ i, i < m + 1 → Nx m (lens L) rs.length i ≤ 8) := fun i _ => (if hi : i < m then (by unfold Nx; rw [if_pos hi]; exact HL8.out i hi) else (by unfold Nx; rw [if_neg hi]; exact hn8))
      have HWW : Hid (Below w.heap.size w W) := HWO.out.trans (hb.mono HWO.out.size)
      have K3w : Loc W w1.heap.size _ _ := K3o.below hb
      have K1w : Loc W w.heap.size _ _ := K1o.below hb
      have hq3 := K3w.lt
      obtain ⟨e1, f1, l1⟩ := K3w.all (w' := W)
      obtain ⟨e2, f2, l2⟩ := K1w.all (w' := W)
      clear hlm hN hO hb hB K37 K17 K27 K3o K1o hext huc hun hui hub p0 p1 p2 p3 g0 g1 g2 g3 ri rk hbi hbk
      go_wp2_with fail
      refine (minimizeTop_any _ _ _ m l.length 2 126 779 1568 lc.length (lens L) (qm L) (qs l) (qs lc) (HS.out _ kp) (HC.out _ kp) (by decide) (by decide) (by decide) (by decide) (by decide) (by decide) (by decide) (by decide) (fun h _ => (HS.out w (Keep.refl _ _)).sz1 (by decide) (by have := HM5.out; omega) HL8.out (by decide) (by decide) h) ((HS.out w (Keep.refl _ _)).sz2 (HC.out w (Keep.refl _ _)) (by decide) (by have := HM5.out; omega) HL8.out (by decide) (by decide))).mono ?_
      rintro e w14 ⟨vO, code, kind, nx, ny, nr, f, y, r, val, rfl, HO, hs, hb14⟩
      have y14 := hb14.size; (try simp only [World.size_alloc, size_set, size_drew, size_drewN] at y14)
      obtain ⟨rfl, hop⟩ := hs.out.2.2 HVS.out HNC2.out
      obtain ⟨X2, Y2, R2, cX2, cY2, cR2, bn, EA2, en, ec2, bn', EB2, en', ed2, rfl, -, -, -, hv14⟩ := HO.out
      have HOP := Lib.hid hop
      have HVA := Lib.hid hv14
      clear HO hs hop hv14 e1 f1 l1 e2 f2 l2
      have LO := made1 w14 #[.int .i64 kind, .slice X2 nx cX2, .slice Y2 ny cY2, .slice R2 nr cR2, .bool bn, .slice EA2 en ec2, .bool bn', .slice EB2 en' ed2] 51
      have K14 : Loc (w14.alloc (.cells #[.int .i64 kind, .slice X2 nx cX2, .slice Y2 ny cY2, .slice R2 nr cR2, .bool bn, .slice EA2 en ec2, .bool bn', .slice EB2 en' ed2] 51)) w.heap.size _ _ := K1w.to
      have D14 : Loc (w14.alloc (.cells #[.int .i64 kind, .slice X2 nx cX2, .slice Y2 ny cY2, .slice R2 nr cR2, .bool bn, .slice EA2 en ec2, .bool bn', .slice EB2 en' ed2] 51)) hd _ _ := hld.to
      obtain ⟨e1, f1, l1⟩ := K14.all
      obtain ⟨e2, f2, l2⟩ := D14.all
      go_wp2_with fail
      refine (minimizeTop_any _ _ _ (m + 1) (l.length + 1) 7 426 2614 5238 lc.length (Nx m (lens L) rs.length) (Fx m (qm L) (fun j => qm L i j + (bz : Rat) * qm L k j)) (Bx l.length (qs l) (qs l i + (bz : Rat) * qs l k)) (qs lc) (HSX.out.keep kp) ((HC.out _ kp).mono (by decide)) (by decide) (by decide) (by decide) (by decide) (by decide) (by decide) (by decide) (by decide) (fun h _ => HSX.out.sz1 (by decide) (by have := HM5.out; omega) HN8.out (by decide) (by decide) h) (HSX.out.sz2 ((HC.out W hkW).mono (by decide)) (by decide) (by have := HM5.out; omega) HN8.out (by decide) (by decide))).mono ?_
      rintro e w15 ⟨vO5, code5, kind5, nx5, ny5, nr5, f5, y5, r5, val5, rfl, HO5, hs5, hb15⟩
      have y15 := hb15.size; (try simp only [World.size_alloc, size_set, size_drew, size_drewN] at y15)
      obtain ⟨rfl, hop5⟩ := hs5.out.2.2 HVS2.out HNC5.out
      obtain ⟨X5, Y5, R5, cX5, cY5, cR5, bn5, EA5, en5, ec5, bn5', EB5, en5', ed5, rfl, -, -, -, hv15⟩ := HO5.out
      have HVB := Lib.hid hv15
      have hopA : OP kind m m (lens L) (qm L) (qs l) lc.length (qs lc) nx f ny y nr r val := by have h9 := HOP.out; rw [HLM.out] at h9; exact h9
      rw [HLM.out, HRL.out] at hop5
      obtain ⟨ek, ev⟩ := HEX.out.same HI.out HK.out (fun j _ => by unfold Fx; rw [if_neg (Nat.lt_irrefl m)]) bx_last hopA hop5
      subst ek ev
      clear HO5 hs5 hop5 hv15 hopA e1 f1 l1 e2 f2 l2 HOP HEX HSX HRL HVS2 HNC5 HN8 HS HC HMA HMB HL8
      have LO5 := made1 w15 #[.int .i64 kind, .slice X5 nx5 cX5, .slice Y5 ny5 cY5, .slice R5 nr5 cR5, .bool bn5, .slice EA5 en5 ec5, .bool bn5', .slice EB5 en5' ed5] 51
      have LO15 : Loc (w15.alloc (.cells #[.int .i64 kind, .slice X5 nx5 cX5, .slice Y5 ny5 cY5, .slice R5 nr5 cR5, .bool bn5, .slice EA5 en5 ec5, .bool bn5', .slice EB5 en5' ed5] 51)) w14.heap.size _ _ := LO.to
      obtain ⟨e1, f1, l1⟩ := LO15.all
      obtain ⟨e2, f2, l2⟩ := LO5.all
      go_wp2_with fail
      refine (equal_any _ (fun _ => False) _ _ val val ((HVA.out.keep kp).mono (by decide)) ((HVB.out.keep kp).mono (by decide))).mono ?_
      rintro e w16 ⟨he, hb16⟩
      have he := he.eq (b := true) ⟨fun _ => rfl, fun _ => rfl⟩
      subst he
      go_wp2_with fail
      go_ret
      exact ⟨rfl, HWW.out.trans ((bel : Below W.heap.size W _).mono HWW.out.size)⟩
end Go.Proofs.YtpeglenapmkdfaaGreat

/- The statement 'LinearRedundant' out of its walk. The frame is the guide's own (proof-skeleton), printed by lawgen.py. -/
namespace Go.Proofs.YtpeglenapmkdfaaGreat.linearRedundant
open Go.ChangeShapes Go.WideShapes Go.ChangeAt Go.RowKit Go.Proofs.YtpeglenapmkdfaaGreat
open Go.ChangeMaps (open_string shut_string)
set_option linter.unusedVariables false

set_option maxRecDepth 100000 in
theorem lifted (os : Os) (started : os.Started) (H : Type) (enc : TypeId × Value → H) :
    ReturnsInHanded {} Tryz.checked os 5 .any (Rows.linearRedundantSpec.pre6 enc Tryz.prog Tryz.f5 Rows.linearRedundantRow.domain false) (Rows.linearRedundantSpec.post enc Tryz.prog Tryz.f5 false true false false) := by
  refine returnsInHanded_of_change (C := Tryz.checked) own started (by kernel_rfl) Tryz.func5
    (ChangeSpec.witness6 (enc := enc) (C := Tryz.checked) false ⟨#[], #[.agg #[.slice none 0 0, .slice none 0 0, .slice none 0 0], .agg #[.int .u8 0, .int .u8 0], .int .i8 0], []⟩ 8 (by kernel_rfl) (by kernel_rfl) (by kernel_rfl) (by kernel_rfl)) ?_
  intro W base args ds gs before hval0 hW hcnd _
  have hval : ∀ (j : Nat) t v, Tryz.f5.params[j]? = some t → args[j]? = some v → Value.okWide Tryz.prog W .any base t v := hval0
  have hW' := hW
  obtain ⟨p, q, hA0, hV, rfl, hfz, hnd⟩ := hW
  have hA : DataW.TrodAll enc Tryz.prog W 0 (fun _ => true) true Tryz.f5.params.toList args.toList ds p := hA0
  rw [Tryz.params5] at hA hval
  obtain ⟨v0, vs0, d0, ds0, p0, q0, hargs, rfl, rfl, h0, r0⟩ := trodAll_cons hA
  obtain ⟨v1, vs1, d1, ds1, p1, q1, rfl, rfl, rfl, h1, r1⟩ := trodAll_cons r0
  obtain ⟨v2, vs2, d2, ds2, p2, q2, rfl, rfl, rfl, h2, r2⟩ := trodAll_cons r1
  obtain ⟨rfl, rfl, rfl⟩ := trodAll_nil r2
  obtain rfl : args = #[v0, v1, v2] := by cases args; simp_all
  obtain ⟨rfl, rfl⟩ := trodVars_none hV
  have lt0 : ∀ x ∈ p0, x.block < W.heap.size := by obtain ⟨m, hm⟩ := h0; exact DataW.trod_lt m _ _ _ hm
  have k0 := fun (W' : World) (bel : Below W.heap.size W W') => Below.trod laidOut (by kernel_rfl) (of_decide_eq_true (by kernel_rfl)) h0 bel lt0
  obtain ⟨va0, vb0, vc0, L0, l0, lc0, e0, ha0, hb0, hc0⟩ := open_Problem (hval 0 37 v0 rfl rfl) h0
  have lt1 : ∀ x ∈ p1, x.block < W.heap.size := by obtain ⟨m, hm⟩ := h1; exact DataW.trod_lt m _ _ _ hm
  have k1 := fun (W' : World) (bel : Below W.heap.size W W') => Below.trod laidOut (by kernel_rfl) (of_decide_eq_true (by kernel_rfl)) h1 bel lt1
  obtain ⟨a1, b1, e1, wa1, wb1⟩ := open_At (hval 1 38 v1 rfl rfl) h1
  have lt2 : ∀ x ∈ p2, x.block < W.heap.size := by obtain ⟨m, hm⟩ := h2; exact DataW.trod_lt m _ _ _ hm
  have k2 := fun (W' : World) (bel : Below W.heap.size W W') => Below.trod laidOut (by kernel_rfl) (of_decide_eq_true (by kernel_rfl)) h2 bel lt2
  obtain ⟨a2, e2, _, _, w2⟩ := open_int Tryz.underlying39 (hval 2 39 v2 rfl rfl) h2
  have b2 := bounds_i8 w2
  subst e0
  subst e1
  subst e2
  refine (redundant_walk _ _ _ _ _ _ _ _ _ _ ha0 hb0 hc0 (by have := bounds_u8 wa1; omega) (by have := bounds_u8 wb1; omega) b2).mono fun e W' ⟨he, bel⟩ => ?_
  subst he
  exact ⟨_, rfl, _, _, _, [], _, [], hW', trodAll_mk1 (shut_bool Tryz.underlying4 _), (trodAll_cons_mk (k0 _ bel) (trodAll_cons_mk (k1 _ bel) (trodAll_cons_mk (k2 _ bel) trodAll_mk0))), rfl, bel.frame _, fun h => by cases h⟩

theorem over : Rows.linearRedundantRow.holds Tryz.pinned (OpenSpec.ofChange Rows.linearRedundantSpec) :=
  OpenClaim.holds_of_wide 5 Tryz.f5 rfl rfl rfl rfl rfl rfl rfl ⟨rfl, rfl, rfl, rfl, rfl⟩ rfl rfl rfl rfl rfl (by kernel_rfl) Tryz.func5 (by kernel_rfl)
    (of_decide_eq_true (by kernel_rfl)) (by unfold Func.isWrapper; first | (rw [if_pos (by decide +kernel)]; kernel_rfl) | (rw [if_neg (by decide +kernel)]; exact ⟨rfl, rfl⟩))
    (fun os started H enc _ => lifted os started H enc)

/-- The statement: for every input the law returns true; each argument reads behind the call as it read before. -/
theorem proved : Rows.LinearRedundantSaid := over
end Go.Proofs.YtpeglenapmkdfaaGreat.linearRedundant

