/- For every input the law returns true: the law's walk, and the statement out of it. -/
import Derived.Test.YtpeglenapmkdfaaGreatRows
import Derived.Test.YtpeglenapmkdfaaGreatM2
import Derived.Test.YtpeglenapmkdfaaGreatM14
import Derived.Test.YtpeglenapmkdfaaGreatM17
import Derived.Test.YtpeglenapmkdfaaGreatM46
import Derived.Test.YtpeglenapmkdfaaGreatM47
set_option linter.unusedSimpArgs false
set_option linter.unusedVariables false

/- LinearTighter: the law's walk. -/
namespace Go.Proofs.YtpeglenapmkdfaaGreat
open Go.RowKit
attribute [local go_sem ↓] Go.wp_at_zero Go.wp_at_succ
attribute [local go_sem] beq_self_eq_true

set_option maxRecDepth 100000 in
set_option maxHeartbeats 32000000 in
theorem tighter_walk (w : World) (v0 v1 v2 vm vb : Value) (L : List (List RF)) (l lc lm : List RF) (n1 n2 : Bool) (xs ys : List Nat) (hA : RMat w v0 L) (hB : Rats w (fun _ => False) v1 l) (hC : Rats w (fun _ => False) v2 lc) (hm : Rats w (fun _ => False) vm lm) (hb : RatR w (fun _ => False) vb n1 xs n2 ys) :
    Calls Tryz.prog 6 #[.agg #[v0, v1, v2], vm, vb] w fun e w' => e = .returned (.bool true) ∧ Below w.heap.size w w' := by
  have HA := Lib.hid hA
  have HB := Lib.hid hB
  have HCC := Lib.hid hC
  have HMM := Lib.hid hm
  have HRB := Lib.hid hb
  obtain ⟨A, cA, rfl, hA, la1, la2⟩ := hA.op
  obtain ⟨B, cB, rfl, hB, lb1, lb2⟩ := hB.op
  obtain ⟨C, cC, rfl, hC, lc1, lc2⟩ := hC.op
  obtain ⟨X, cX, rfl, hm, lm1, lm2⟩ := hm.op
  obtain ⟨EA, ec, EB, ed, rfl, -, -⟩ := hb
  clear hA hB hC hm
  obtain ⟨m, hmm⟩ : ∃ m, L.length = m := ⟨_, rfl⟩
  have HM := Lib.hid hmm
  obtain ⟨p, hp⟩ : ∃ p, xs.length = p := ⟨_, rfl⟩
  obtain ⟨q, hq⟩ : ∃ q, ys.length = q := ⟨_, rfl⟩
  have HV1 : Hid (∀ W g, Keep (fun _ => False) w W → Loc W g 44 #[.bool n1, .slice EA p ec, .bool n2, .slice EB q ed] → Rats W (fun _ => False) (.slice (some ⟨g, 0, none⟩) 1 1) [⟨n1, xs, n2, ys⟩]) := fun W g hW hL => by
    subst hp hq
    exact Rats.one (e := ⟨n1, xs, n2, ys⟩) hL (HRB.out.keep hW)
  have HV2 : Hid (∀ W, Keep (fun _ => False) w W → (RF.mk n1 xs n2 ys).few → RatL 2 W (fun _ => False) (.agg #[.bool n1, .slice EA p ec, .bool n2, .slice EB q ed]) (rv n1 xs n2 ys)) := fun W hW hf => by
    subst hp hq
    exact ⟨_, _, _, _, HRB.out.keep hW, hf.1, hf.2, rfl⟩
  rw [hmm] at HA ⊢
  rw [hp, hq]
  clear hp hq HRB hmm
  have L1 := made1 w #[.slice A m cA, .slice B l.length cB, .slice C lc.length cC] 37
  have L2 := made2 w (.cells #[.slice A m cA, .slice B l.length cB, .slice C lc.length cC] 37) #[.bool n1, .slice EA p ec, .bool n2, .slice EB q ed] 44
  go_enter Tryz.func6, Tryz.ntmps6
  go_wp2_with fail
  refine (known08_any _).mono ?_
  rintro e w1 ⟨rfl, hb1⟩
  obtain ⟨z1, z2⟩ := sz2 hb1
  obtain ⟨e1, f1, l1⟩ := L1.all (w' := w1)
  obtain ⟨e2, f2, l2⟩ := L2.all (w' := w1)
  have K1 : Loc w1 w.heap.size _ _ := L1.to
  have K2 : Loc w1 (w.heap.size + 1) _ _ := L2.to
  have K3 := made1 w1 #[.slice A m cA, .slice B l.length cB] 25
  have K13 : Loc (w1.alloc (.cells #[.slice A m cA, .slice B l.length cB] 25)) w.heap.size _ _ := K1.to
  have K23 : Loc (w1.alloc (.cells #[.slice A m cA, .slice B l.length cB] 25)) (w.heap.size + 1) _ _ := K2.to
  obtain ⟨a0, u0, HROW, HROW2⟩ := first_row (HA.out.keep (kp : Keep (fun _ => False) w (w1.alloc (.cells #[.slice A m cA, .slice B l.length cB] 25)))) HM.out ⟨w.heap.size + 1, 0, none⟩ (.bool n1) (Loc.c 0 K23) K23.lt
  obtain ⟨n, hn⟩ : ∃ n, lens L 0 = n := ⟨_, rfl⟩
  have HN := Lib.hid hn
  rw [hn] at HROW2
  clear hn
  have hq1 : w.heap.size + 2 ≤ w1.heap.size := by omega
  have HAK : Hid (∀ W, Keep (fun _ => False) w W → RMat W (.slice A m cA) L) := fun W hW => HA.out.keep hW
  clear L1 L2 HA
  go_wp2_with fail
  clear e1 f1 l1 e2 f2 l2
  refine wp_region_noPanic ?_
  refine wp_region_held_drew (S := (fun W => (W.cell? ⟨w1.heap.size, 0, none⟩ = some (.slice A m cA) ∧ W.cell? ⟨w1.heap.size, 1, none⟩ = some (.slice B l.length cB)) ∧ W.cell? ⟨w.heap.size, 2, none⟩ = some (.slice C lc.length cC) ∧ ((W.cell? ⟨w.heap.size + 1, 0, none⟩ = some (.bool n1) ∧ W.cell? ⟨w.heap.size + 1, 1, none⟩ = some (.slice EA p ec)) ∧ W.cell? ⟨w.heap.size + 1, 2, none⟩ = some (.bool n2) ∧ W.cell? ⟨w.heap.size + 1, 3, none⟩ = some (.slice EB q ed)) ∧ W.cell? a0 = some u0)) (by kernel_rfl) ?_ (fun hHeld => ?_)
  · exact ⟨⟨Loc.c 0 K3, Loc.c 1 K3⟩, Loc.c 2 K13, ⟨⟨Loc.c 0 K23, Loc.c 1 K23⟩, Loc.c 2 K23, Loc.c 3 K23⟩, HROW.out _ kp⟩
  refine takeT 0 hHeld ?_
  (try simp only [Act.put, List.getElem_toArray, List.getElem_cons_succ, List.getElem_cons_zero, List.setIfInBounds_toArray, List.set_cons_zero, List.set_cons_succ])
  refine wpAnyH_ready (rs := [1]) (by kernel_rfl) (by simp) ?_
  refine AllReadyH.cons rfl (fun K hK => ?_) AllReadyH.nil
  go_simp
  refine (few_any8 _ _ _ L l (HAK.out _ kp) (HB.out.keep kp)).mono ?_
  rintro e w3 ⟨⟨b, rfl, hb⟩, hb3⟩
  have y3 := hb3.size; (try simp only [World.size_alloc, size_set, size_drew, size_drewN] at y3)
  cases b
  · clear hb
    (try go_wp2_with fail)
    refine hK.out _ _ ?_ (fun hHeld => ?_)
    · (try dsimp only)
      exact ⟨⟨Loc.c 0 K3, Loc.c 1 K3⟩, Loc.c 2 K13, ⟨⟨Loc.c 0 K23, Loc.c 1 K23⟩, Loc.c 2 K23, Loc.c 3 K23⟩, HROW.out _ kp⟩
    clear hK K
    (try simp only [Act.put, List.getElem_toArray, List.getElem_cons_succ, List.getElem_cons_zero, List.setIfInBounds_toArray, List.set_cons_zero, List.set_cons_succ])
    refine takeT 2 hHeld ?_
    (try simp only [Act.put, List.getElem_toArray, List.getElem_cons_succ, List.getElem_cons_zero, List.setIfInBounds_toArray, List.set_cons_zero, List.set_cons_succ])
    refine takeT 3 hHeld ?_
    (try simp only [Act.put, List.getElem_toArray, List.getElem_cons_succ, List.getElem_cons_zero, List.setIfInBounds_toArray, List.set_cons_zero, List.set_cons_succ])
    refine offT 4 hHeld ?_
    refine offT 5 hHeld ?_
    refine offT 6 hHeld ?_
    refine offT 7 hHeld ?_
    (try simp only [Act.put, List.getElem_toArray, List.getElem_cons_succ, List.getElem_cons_zero, List.setIfInBounds_toArray, List.set_cons_zero, List.set_cons_succ])
    refine takeT 8 hHeld ?_
    (try simp only [Act.put, List.getElem_toArray, List.getElem_cons_succ, List.getElem_cons_zero, List.setIfInBounds_toArray, List.set_cons_zero, List.set_cons_succ])
    refine takeT 9 hHeld ?_
    (try simp only [Act.put, List.getElem_toArray, List.getElem_cons_succ, List.getElem_cons_zero, List.setIfInBounds_toArray, List.set_cons_zero, List.set_cons_succ])
    refine offT 10 hHeld ?_
    refine offT 11 hHeld ?_
    refine offT 12 hHeld ?_
    refine offT 13 hHeld ?_
    (try simp only [Act.put, List.getElem_toArray, List.getElem_cons_succ, List.getElem_cons_zero, List.setIfInBounds_toArray, List.set_cons_zero, List.set_cons_succ])
    refine takeT 14 hHeld ?_
    (try simp only [Act.put, List.getElem_toArray, List.getElem_cons_succ, List.getElem_cons_zero, List.setIfInBounds_toArray, List.set_cons_zero, List.set_cons_succ])
    refine takeT 15 hHeld ?_
    (try simp only [Act.put, List.getElem_toArray, List.getElem_cons_succ, List.getElem_cons_zero, List.setIfInBounds_toArray, List.set_cons_zero, List.set_cons_succ])
    refine offT 16 hHeld ?_
    refine offT 17 hHeld ?_
    refine offT 18 hHeld ?_
    (try simp only [Act.put, List.getElem_toArray, List.getElem_cons_succ, List.getElem_cons_zero, List.setIfInBounds_toArray, List.set_cons_zero, List.set_cons_succ])
    refine takeT 19 hHeld ?_
    (try simp only [Act.put, List.getElem_toArray, List.getElem_cons_succ, List.getElem_cons_zero, List.setIfInBounds_toArray, List.set_cons_zero, List.set_cons_succ])
    refine takeT 20 hHeld ?_
    (try simp only [Act.put, List.getElem_toArray, List.getElem_cons_succ, List.getElem_cons_zero, List.setIfInBounds_toArray, List.set_cons_zero, List.set_cons_succ])
    refine offT 21 hHeld ?_
    refine offT 22 hHeld ?_
    refine offT 23 hHeld ?_
    refine offT 24 hHeld ?_
    (try simp only [Act.put, List.getElem_toArray, List.getElem_cons_succ, List.getElem_cons_zero, List.setIfInBounds_toArray, List.set_cons_zero, List.set_cons_succ])
    refine takeT 25 hHeld ?_
    (try simp only [Act.put, List.getElem_toArray, List.getElem_cons_succ, List.getElem_cons_zero, List.setIfInBounds_toArray, List.set_cons_zero, List.set_cons_succ])
    refine takeT 26 hHeld ?_
    (try simp only [Act.put, List.getElem_toArray, List.getElem_cons_succ, List.getElem_cons_zero, List.setIfInBounds_toArray, List.set_cons_zero, List.set_cons_succ])
    refine offT 27 hHeld ?_
    refine offT 28 hHeld ?_
    refine offT 29 hHeld ?_
    (try simp only [Act.put, List.getElem_toArray, List.getElem_cons_succ, List.getElem_cons_zero, List.setIfInBounds_toArray, List.set_cons_zero, List.set_cons_succ])
    refine takeT 30 hHeld ?_
    (try simp only [Act.put, List.getElem_toArray, List.getElem_cons_succ, List.getElem_cons_zero, List.setIfInBounds_toArray, List.set_cons_zero, List.set_cons_succ])
    refine takeT 31 hHeld ?_
    (try simp only [Act.put, List.getElem_toArray, List.getElem_cons_succ, List.getElem_cons_zero, List.setIfInBounds_toArray, List.set_cons_zero, List.set_cons_succ])
    refine offT 32 hHeld ?_
    refine offT 33 hHeld ?_
    refine offT 34 hHeld ?_
    refine offT 35 hHeld ?_
    refine offT 36 hHeld ?_
    refine offT 37 hHeld ?_
    refine offT 38 hHeld ?_
    refine offT 39 hHeld ?_
    refine offT 40 hHeld ?_
    (try simp only [Act.put, List.getElem_toArray, List.getElem_cons_succ, List.getElem_cons_zero, List.setIfInBounds_toArray, List.set_cons_zero, List.set_cons_succ])
    refine takeT 41 hHeld ?_
    (try simp only [Act.put, List.getElem_toArray, List.getElem_cons_succ, List.getElem_cons_zero, List.setIfInBounds_toArray, List.set_cons_zero, List.set_cons_succ])
    refine takeT 42 hHeld ?_
    (try simp only [Act.put, List.getElem_toArray, List.getElem_cons_succ, List.getElem_cons_zero, List.setIfInBounds_toArray, List.set_cons_zero, List.set_cons_succ])
    refine offT 43 hHeld ?_
    refine offT 44 hHeld ?_
    refine offT 45 hHeld ?_
    refine offT 46 hHeld ?_
    refine offT 47 hHeld ?_
    refine offT 48 hHeld ?_
    (try simp only [Act.put, List.getElem_toArray, List.getElem_cons_succ, List.getElem_cons_zero, List.setIfInBounds_toArray, List.set_cons_zero, List.set_cons_succ])
    refine takeT 49 hHeld ?_
    (try simp only [Act.put, List.getElem_toArray, List.getElem_cons_succ, List.getElem_cons_zero, List.setIfInBounds_toArray, List.set_cons_zero, List.set_cons_succ])
    refine wpAnyH_done (by kernel_rfl) ?_ _
    refine NoPanic.normal ?_
    go_wp2_with fail
    go_ret
    exact ⟨rfl, bel⟩
  have HF : Hid (FewS L l) := hb.out.1 rfl
  clear hb
  (try go_wp2_with fail)
  refine hK.out _ _ ?_ (fun hHeld => ?_)
  · (try dsimp only)
    exact ⟨⟨Loc.c 0 K3, Loc.c 1 K3⟩, Loc.c 2 K13, ⟨⟨Loc.c 0 K23, Loc.c 1 K23⟩, Loc.c 2 K23, Loc.c 3 K23⟩, HROW.out _ kp⟩
  clear hK K
  (try simp only [Act.put, List.getElem_toArray, List.getElem_cons_succ, List.getElem_cons_zero, List.setIfInBounds_toArray, List.set_cons_zero, List.set_cons_succ])
  refine takeT 2 hHeld ?_
  (try simp only [Act.put, List.getElem_toArray, List.getElem_cons_succ, List.getElem_cons_zero, List.setIfInBounds_toArray, List.set_cons_zero, List.set_cons_succ])
  refine takeT 3 hHeld ?_
  (try simp only [Act.put, List.getElem_toArray, List.getElem_cons_succ, List.getElem_cons_zero, List.setIfInBounds_toArray, List.set_cons_zero, List.set_cons_succ])
  refine takeT 4 hHeld ?_
  (try simp only [Act.put, List.getElem_toArray, List.getElem_cons_succ, List.getElem_cons_zero, List.setIfInBounds_toArray, List.set_cons_zero, List.set_cons_succ])
  refine takeT 5 hHeld ?_
  (try simp only [Act.put, List.getElem_toArray, List.getElem_cons_succ, List.getElem_cons_zero, List.setIfInBounds_toArray, List.set_cons_zero, List.set_cons_succ])
  refine takeT 6 hHeld ?_
  (try simp only [Act.put, List.getElem_toArray, List.getElem_cons_succ, List.getElem_cons_zero, List.setIfInBounds_toArray, List.set_cons_zero, List.set_cons_succ])
  by_cases h5 : 5 < m
  · have hd : decide ((5 : Int) < (m : Int)) = true := decide_eq_true (by omega)
    refine takeT 7 hHeld ?_
    (try simp only [Act.put, List.getElem_toArray, List.getElem_cons_succ, List.getElem_cons_zero, List.setIfInBounds_toArray, List.set_cons_zero, List.set_cons_succ])
    refine takeT 8 hHeld ?_
    (try simp only [Act.put, List.getElem_toArray, List.getElem_cons_succ, List.getElem_cons_zero, List.setIfInBounds_toArray, List.set_cons_zero, List.set_cons_succ])
    refine takeT 9 hHeld ?_
    (try simp only [Act.put, List.getElem_toArray, List.getElem_cons_succ, List.getElem_cons_zero, List.setIfInBounds_toArray, List.set_cons_zero, List.set_cons_succ])
    refine offT 10 hHeld ?_
    refine offT 11 hHeld ?_
    refine offT 12 hHeld ?_
    refine offT 13 hHeld ?_
    (try simp only [Act.put, List.getElem_toArray, List.getElem_cons_succ, List.getElem_cons_zero, List.setIfInBounds_toArray, List.set_cons_zero, List.set_cons_succ])
    refine takeT 14 hHeld ?_
    (try simp only [Act.put, List.getElem_toArray, List.getElem_cons_succ, List.getElem_cons_zero, List.setIfInBounds_toArray, List.set_cons_zero, List.set_cons_succ])
    refine takeT 15 hHeld ?_
    (try simp only [Act.put, List.getElem_toArray, List.getElem_cons_succ, List.getElem_cons_zero, List.setIfInBounds_toArray, List.set_cons_zero, List.set_cons_succ])
    refine offT 16 hHeld ?_
    refine offT 17 hHeld ?_
    refine offT 18 hHeld ?_
    (try simp only [Act.put, List.getElem_toArray, List.getElem_cons_succ, List.getElem_cons_zero, List.setIfInBounds_toArray, List.set_cons_zero, List.set_cons_succ])
    refine takeT 19 hHeld ?_
    (try simp only [Act.put, List.getElem_toArray, List.getElem_cons_succ, List.getElem_cons_zero, List.setIfInBounds_toArray, List.set_cons_zero, List.set_cons_succ])
    refine takeT 20 hHeld ?_
    (try simp only [Act.put, List.getElem_toArray, List.getElem_cons_succ, List.getElem_cons_zero, List.setIfInBounds_toArray, List.set_cons_zero, List.set_cons_succ])
    refine offT 21 hHeld ?_
    refine offT 22 hHeld ?_
    refine offT 23 hHeld ?_
    refine offT 24 hHeld ?_
    (try simp only [Act.put, List.getElem_toArray, List.getElem_cons_succ, List.getElem_cons_zero, List.setIfInBounds_toArray, List.set_cons_zero, List.set_cons_succ])
    refine takeT 25 hHeld ?_
    (try simp only [Act.put, List.getElem_toArray, List.getElem_cons_succ, List.getElem_cons_zero, List.setIfInBounds_toArray, List.set_cons_zero, List.set_cons_succ])
    refine takeT 26 hHeld ?_
    (try simp only [Act.put, List.getElem_toArray, List.getElem_cons_succ, List.getElem_cons_zero, List.setIfInBounds_toArray, List.set_cons_zero, List.set_cons_succ])
    refine offT 27 hHeld ?_
    refine offT 28 hHeld ?_
    refine offT 29 hHeld ?_
    (try simp only [Act.put, List.getElem_toArray, List.getElem_cons_succ, List.getElem_cons_zero, List.setIfInBounds_toArray, List.set_cons_zero, List.set_cons_succ])
    refine takeT 30 hHeld ?_
    (try simp only [Act.put, List.getElem_toArray, List.getElem_cons_succ, List.getElem_cons_zero, List.setIfInBounds_toArray, List.set_cons_zero, List.set_cons_succ])
    refine takeT 31 hHeld ?_
    (try simp only [Act.put, List.getElem_toArray, List.getElem_cons_succ, List.getElem_cons_zero, List.setIfInBounds_toArray, List.set_cons_zero, List.set_cons_succ])
    refine offT 32 hHeld ?_
    refine offT 33 hHeld ?_
    refine offT 34 hHeld ?_
    refine offT 35 hHeld ?_
    refine offT 36 hHeld ?_
    refine offT 37 hHeld ?_
    refine offT 38 hHeld ?_
    refine offT 39 hHeld ?_
    refine offT 40 hHeld ?_
    (try simp only [Act.put, List.getElem_toArray, List.getElem_cons_succ, List.getElem_cons_zero, List.setIfInBounds_toArray, List.set_cons_zero, List.set_cons_succ])
    refine takeT 41 hHeld ?_
    (try simp only [Act.put, List.getElem_toArray, List.getElem_cons_succ, List.getElem_cons_zero, List.setIfInBounds_toArray, List.set_cons_zero, List.set_cons_succ])
    refine takeT 42 hHeld ?_
    (try simp only [Act.put, List.getElem_toArray, List.getElem_cons_succ, List.getElem_cons_zero, List.setIfInBounds_toArray, List.set_cons_zero, List.set_cons_succ])
    refine offT 43 hHeld ?_
    refine offT 44 hHeld ?_
    refine offT 45 hHeld ?_
    refine offT 46 hHeld ?_
    refine offT 47 hHeld ?_
    refine offT 48 hHeld ?_
    (try simp only [Act.put, List.getElem_toArray, List.getElem_cons_succ, List.getElem_cons_zero, List.setIfInBounds_toArray, List.set_cons_zero, List.set_cons_succ])
    refine takeT 49 hHeld ?_
    (try simp only [Act.put, List.getElem_toArray, List.getElem_cons_succ, List.getElem_cons_zero, List.setIfInBounds_toArray, List.set_cons_zero, List.set_cons_succ])
    refine wpAnyH_done (by kernel_rfl) ?_ _
    refine NoPanic.normal ?_
    go_wp2_with fail
    go_ret
    exact ⟨rfl, bel⟩
  have hd : decide ((5 : Int) < (m : Int)) = false := decide_eq_false (by omega)
  refine takeT 7 hHeld ?_
  (try simp only [Act.put, List.getElem_toArray, List.getElem_cons_succ, List.getElem_cons_zero, List.setIfInBounds_toArray, List.set_cons_zero, List.set_cons_succ])
  refine takeT 8 hHeld ?_
  (try simp only [Act.put, List.getElem_toArray, List.getElem_cons_succ, List.getElem_cons_zero, List.setIfInBounds_toArray, List.set_cons_zero, List.set_cons_succ])
  refine takeT 9 hHeld ?_
  (try simp only [Act.put, List.getElem_toArray, List.getElem_cons_succ, List.getElem_cons_zero, List.setIfInBounds_toArray, List.set_cons_zero, List.set_cons_succ])
  refine takeT 10 hHeld ?_
  (try simp only [Act.put, List.getElem_toArray, List.getElem_cons_succ, List.getElem_cons_zero, List.setIfInBounds_toArray, List.set_cons_zero, List.set_cons_succ])
  refine takeT 11 hHeld ?_
  (try simp only [Act.put, List.getElem_toArray, List.getElem_cons_succ, List.getElem_cons_zero, List.setIfInBounds_toArray, List.set_cons_zero, List.set_cons_succ])
  refine wpAnyH_ready (rs := [12]) (by kernel_rfl) (by simp) ?_
  refine AllReadyH.cons rfl (fun K hK => ?_) AllReadyH.nil
  go_simp
  refine (numbers_any _ _ lc 8 (HCC.out.keep kp) (by decide)).mono ?_
  rintro e w4 ⟨⟨b, rfl, hb⟩, hb4⟩
  have y4 := hb4.size; (try simp only [World.size_alloc, size_set, size_drew, size_drewN] at y4)
  cases b
  · clear hb
    (try go_wp2_with fail)
    refine hK.out _ _ ?_ (fun hHeld => ?_)
    · (try dsimp only)
      exact ⟨⟨Loc.c 0 K3, Loc.c 1 K3⟩, Loc.c 2 K13, ⟨⟨Loc.c 0 K23, Loc.c 1 K23⟩, Loc.c 2 K23, Loc.c 3 K23⟩, HROW.out _ kp⟩
    clear hK K
    (try simp only [Act.put, List.getElem_toArray, List.getElem_cons_succ, List.getElem_cons_zero, List.setIfInBounds_toArray, List.set_cons_zero, List.set_cons_succ])
    refine takeT 13 hHeld ?_
    (try simp only [Act.put, List.getElem_toArray, List.getElem_cons_succ, List.getElem_cons_zero, List.setIfInBounds_toArray, List.set_cons_zero, List.set_cons_succ])
    refine takeT 14 hHeld ?_
    (try simp only [Act.put, List.getElem_toArray, List.getElem_cons_succ, List.getElem_cons_zero, List.setIfInBounds_toArray, List.set_cons_zero, List.set_cons_succ])
    refine takeT 15 hHeld ?_
    (try simp only [Act.put, List.getElem_toArray, List.getElem_cons_succ, List.getElem_cons_zero, List.setIfInBounds_toArray, List.set_cons_zero, List.set_cons_succ])
    refine offT 16 hHeld ?_
    refine offT 17 hHeld ?_
    refine offT 18 hHeld ?_
    (try simp only [Act.put, List.getElem_toArray, List.getElem_cons_succ, List.getElem_cons_zero, List.setIfInBounds_toArray, List.set_cons_zero, List.set_cons_succ])
    refine takeT 19 hHeld ?_
    (try simp only [Act.put, List.getElem_toArray, List.getElem_cons_succ, List.getElem_cons_zero, List.setIfInBounds_toArray, List.set_cons_zero, List.set_cons_succ])
    refine takeT 20 hHeld ?_
    (try simp only [Act.put, List.getElem_toArray, List.getElem_cons_succ, List.getElem_cons_zero, List.setIfInBounds_toArray, List.set_cons_zero, List.set_cons_succ])
    refine offT 21 hHeld ?_
    refine offT 22 hHeld ?_
    refine offT 23 hHeld ?_
    refine offT 24 hHeld ?_
    (try simp only [Act.put, List.getElem_toArray, List.getElem_cons_succ, List.getElem_cons_zero, List.setIfInBounds_toArray, List.set_cons_zero, List.set_cons_succ])
    refine takeT 25 hHeld ?_
    (try simp only [Act.put, List.getElem_toArray, List.getElem_cons_succ, List.getElem_cons_zero, List.setIfInBounds_toArray, List.set_cons_zero, List.set_cons_succ])
    refine takeT 26 hHeld ?_
    (try simp only [Act.put, List.getElem_toArray, List.getElem_cons_succ, List.getElem_cons_zero, List.setIfInBounds_toArray, List.set_cons_zero, List.set_cons_succ])
    refine offT 27 hHeld ?_
    refine offT 28 hHeld ?_
    refine offT 29 hHeld ?_
    (try simp only [Act.put, List.getElem_toArray, List.getElem_cons_succ, List.getElem_cons_zero, List.setIfInBounds_toArray, List.set_cons_zero, List.set_cons_succ])
    refine takeT 30 hHeld ?_
    (try simp only [Act.put, List.getElem_toArray, List.getElem_cons_succ, List.getElem_cons_zero, List.setIfInBounds_toArray, List.set_cons_zero, List.set_cons_succ])
    refine takeT 31 hHeld ?_
    (try simp only [Act.put, List.getElem_toArray, List.getElem_cons_succ, List.getElem_cons_zero, List.setIfInBounds_toArray, List.set_cons_zero, List.set_cons_succ])
    refine offT 32 hHeld ?_
    refine offT 33 hHeld ?_
    refine offT 34 hHeld ?_
    refine offT 35 hHeld ?_
    refine offT 36 hHeld ?_
    refine offT 37 hHeld ?_
    refine offT 38 hHeld ?_
    refine offT 39 hHeld ?_
    refine offT 40 hHeld ?_
    (try simp only [Act.put, List.getElem_toArray, List.getElem_cons_succ, List.getElem_cons_zero, List.setIfInBounds_toArray, List.set_cons_zero, List.set_cons_succ])
    refine takeT 41 hHeld ?_
    (try simp only [Act.put, List.getElem_toArray, List.getElem_cons_succ, List.getElem_cons_zero, List.setIfInBounds_toArray, List.set_cons_zero, List.set_cons_succ])
    refine takeT 42 hHeld ?_
    (try simp only [Act.put, List.getElem_toArray, List.getElem_cons_succ, List.getElem_cons_zero, List.setIfInBounds_toArray, List.set_cons_zero, List.set_cons_succ])
    refine offT 43 hHeld ?_
    refine offT 44 hHeld ?_
    refine offT 45 hHeld ?_
    refine offT 46 hHeld ?_
    refine offT 47 hHeld ?_
    refine offT 48 hHeld ?_
    (try simp only [Act.put, List.getElem_toArray, List.getElem_cons_succ, List.getElem_cons_zero, List.setIfInBounds_toArray, List.set_cons_zero, List.set_cons_succ])
    refine takeT 49 hHeld ?_
    (try simp only [Act.put, List.getElem_toArray, List.getElem_cons_succ, List.getElem_cons_zero, List.setIfInBounds_toArray, List.set_cons_zero, List.set_cons_succ])
    refine wpAnyH_done (by kernel_rfl) ?_ _
    refine NoPanic.normal ?_
    go_wp2_with fail
    go_ret
    exact ⟨rfl, bel⟩
  have HNC : Hid (NB lc 8) := hb.out.1 rfl
  clear hb
  (try go_wp2_with fail)
  refine hK.out _ _ ?_ (fun hHeld => ?_)
  · (try dsimp only)
    exact ⟨⟨Loc.c 0 K3, Loc.c 1 K3⟩, Loc.c 2 K13, ⟨⟨Loc.c 0 K23, Loc.c 1 K23⟩, Loc.c 2 K23, Loc.c 3 K23⟩, HROW.out _ kp⟩
  clear hK K
  (try simp only [Act.put, List.getElem_toArray, List.getElem_cons_succ, List.getElem_cons_zero, List.setIfInBounds_toArray, List.set_cons_zero, List.set_cons_succ])
  refine takeT 13 hHeld ?_
  (try simp only [Act.put, List.getElem_toArray, List.getElem_cons_succ, List.getElem_cons_zero, List.setIfInBounds_toArray, List.set_cons_zero, List.set_cons_succ])
  refine takeT 14 hHeld ?_
  (try simp only [Act.put, List.getElem_toArray, List.getElem_cons_succ, List.getElem_cons_zero, List.setIfInBounds_toArray, List.set_cons_zero, List.set_cons_succ])
  refine takeT 15 hHeld ?_
  (try simp only [Act.put, List.getElem_toArray, List.getElem_cons_succ, List.getElem_cons_zero, List.setIfInBounds_toArray, List.set_cons_zero, List.set_cons_succ])
  refine takeT 16 hHeld ?_
  (try simp only [Act.put, List.getElem_toArray, List.getElem_cons_succ, List.getElem_cons_zero, List.setIfInBounds_toArray, List.set_cons_zero, List.set_cons_succ])
  refine wpAnyH_ready (rs := [17]) (by kernel_rfl) (by simp) ?_
  refine AllReadyH.cons rfl (fun K hK => ?_) AllReadyH.nil
  go_simp
  refine (numbers_any _ _ lm 8 (HMM.out.keep kp) (by decide)).mono ?_
  rintro e w5 ⟨⟨b, rfl, hb⟩, hb5⟩
  have y5 := hb5.size; (try simp only [World.size_alloc, size_set, size_drew, size_drewN] at y5)
  cases b
  · clear hb
    (try go_wp2_with fail)
    refine hK.out _ _ ?_ (fun hHeld => ?_)
    · (try dsimp only)
      exact ⟨⟨Loc.c 0 K3, Loc.c 1 K3⟩, Loc.c 2 K13, ⟨⟨Loc.c 0 K23, Loc.c 1 K23⟩, Loc.c 2 K23, Loc.c 3 K23⟩, HROW.out _ kp⟩
    clear hK K
    (try simp only [Act.put, List.getElem_toArray, List.getElem_cons_succ, List.getElem_cons_zero, List.setIfInBounds_toArray, List.set_cons_zero, List.set_cons_succ])
    refine takeT 18 hHeld ?_
    (try simp only [Act.put, List.getElem_toArray, List.getElem_cons_succ, List.getElem_cons_zero, List.setIfInBounds_toArray, List.set_cons_zero, List.set_cons_succ])
    refine takeT 19 hHeld ?_
    (try simp only [Act.put, List.getElem_toArray, List.getElem_cons_succ, List.getElem_cons_zero, List.setIfInBounds_toArray, List.set_cons_zero, List.set_cons_succ])
    refine takeT 20 hHeld ?_
    (try simp only [Act.put, List.getElem_toArray, List.getElem_cons_succ, List.getElem_cons_zero, List.setIfInBounds_toArray, List.set_cons_zero, List.set_cons_succ])
    refine offT 21 hHeld ?_
    refine offT 22 hHeld ?_
    refine offT 23 hHeld ?_
    refine offT 24 hHeld ?_
    (try simp only [Act.put, List.getElem_toArray, List.getElem_cons_succ, List.getElem_cons_zero, List.setIfInBounds_toArray, List.set_cons_zero, List.set_cons_succ])
    refine takeT 25 hHeld ?_
    (try simp only [Act.put, List.getElem_toArray, List.getElem_cons_succ, List.getElem_cons_zero, List.setIfInBounds_toArray, List.set_cons_zero, List.set_cons_succ])
    refine takeT 26 hHeld ?_
    (try simp only [Act.put, List.getElem_toArray, List.getElem_cons_succ, List.getElem_cons_zero, List.setIfInBounds_toArray, List.set_cons_zero, List.set_cons_succ])
    refine offT 27 hHeld ?_
    refine offT 28 hHeld ?_
    refine offT 29 hHeld ?_
    (try simp only [Act.put, List.getElem_toArray, List.getElem_cons_succ, List.getElem_cons_zero, List.setIfInBounds_toArray, List.set_cons_zero, List.set_cons_succ])
    refine takeT 30 hHeld ?_
    (try simp only [Act.put, List.getElem_toArray, List.getElem_cons_succ, List.getElem_cons_zero, List.setIfInBounds_toArray, List.set_cons_zero, List.set_cons_succ])
    refine takeT 31 hHeld ?_
    (try simp only [Act.put, List.getElem_toArray, List.getElem_cons_succ, List.getElem_cons_zero, List.setIfInBounds_toArray, List.set_cons_zero, List.set_cons_succ])
    refine offT 32 hHeld ?_
    refine offT 33 hHeld ?_
    refine offT 34 hHeld ?_
    refine offT 35 hHeld ?_
    refine offT 36 hHeld ?_
    refine offT 37 hHeld ?_
    refine offT 38 hHeld ?_
    refine offT 39 hHeld ?_
    refine offT 40 hHeld ?_
    (try simp only [Act.put, List.getElem_toArray, List.getElem_cons_succ, List.getElem_cons_zero, List.setIfInBounds_toArray, List.set_cons_zero, List.set_cons_succ])
    refine takeT 41 hHeld ?_
    (try simp only [Act.put, List.getElem_toArray, List.getElem_cons_succ, List.getElem_cons_zero, List.setIfInBounds_toArray, List.set_cons_zero, List.set_cons_succ])
    refine takeT 42 hHeld ?_
    (try simp only [Act.put, List.getElem_toArray, List.getElem_cons_succ, List.getElem_cons_zero, List.setIfInBounds_toArray, List.set_cons_zero, List.set_cons_succ])
    refine offT 43 hHeld ?_
    refine offT 44 hHeld ?_
    refine offT 45 hHeld ?_
    refine offT 46 hHeld ?_
    refine offT 47 hHeld ?_
    refine offT 48 hHeld ?_
    (try simp only [Act.put, List.getElem_toArray, List.getElem_cons_succ, List.getElem_cons_zero, List.setIfInBounds_toArray, List.set_cons_zero, List.set_cons_succ])
    refine takeT 49 hHeld ?_
    (try simp only [Act.put, List.getElem_toArray, List.getElem_cons_succ, List.getElem_cons_zero, List.setIfInBounds_toArray, List.set_cons_zero, List.set_cons_succ])
    refine wpAnyH_done (by kernel_rfl) ?_ _
    refine NoPanic.normal ?_
    go_wp2_with fail
    go_ret
    exact ⟨rfl, bel⟩
  have HNM : Hid (NB lm 8) := hb.out.1 rfl
  clear hb
  (try go_wp2_with fail)
  refine hK.out _ _ ?_ (fun hHeld => ?_)
  · (try dsimp only)
    exact ⟨⟨Loc.c 0 K3, Loc.c 1 K3⟩, Loc.c 2 K13, ⟨⟨Loc.c 0 K23, Loc.c 1 K23⟩, Loc.c 2 K23, Loc.c 3 K23⟩, HROW.out _ kp⟩
  clear hK K
  (try simp only [Act.put, List.getElem_toArray, List.getElem_cons_succ, List.getElem_cons_zero, List.setIfInBounds_toArray, List.set_cons_zero, List.set_cons_succ])
  refine takeT 18 hHeld ?_
  (try simp only [Act.put, List.getElem_toArray, List.getElem_cons_succ, List.getElem_cons_zero, List.setIfInBounds_toArray, List.set_cons_zero, List.set_cons_succ])
  refine takeT 19 hHeld ?_
  (try simp only [Act.put, List.getElem_toArray, List.getElem_cons_succ, List.getElem_cons_zero, List.setIfInBounds_toArray, List.set_cons_zero, List.set_cons_succ])
  refine takeT 20 hHeld ?_
  (try simp only [Act.put, List.getElem_toArray, List.getElem_cons_succ, List.getElem_cons_zero, List.setIfInBounds_toArray, List.set_cons_zero, List.set_cons_succ])
  refine takeT 21 hHeld ?_
  (try simp only [Act.put, List.getElem_toArray, List.getElem_cons_succ, List.getElem_cons_zero, List.setIfInBounds_toArray, List.set_cons_zero, List.set_cons_succ])
  refine wpAnyH_ready (rs := [22]) (by kernel_rfl) (by simp) ?_
  refine AllReadyH.cons rfl (fun K hK => ?_) AllReadyH.nil
  go_simp
  (try go_wp2_with fail)
  refine hK.out _ _ ?_ (fun hHeld => ?_)
  · (try dsimp only)
    exact ⟨⟨Loc.c 0 K3, Loc.c 1 K3⟩, Loc.c 2 K13, ⟨⟨Loc.c 0 K23, Loc.c 1 K23⟩, Loc.c 2 K23, Loc.c 3 K23⟩, HROW.out _ kp⟩
  clear hK K
  (try simp only [Act.put, List.getElem_toArray, List.getElem_cons_succ, List.getElem_cons_zero, List.setIfInBounds_toArray, List.set_cons_zero, List.set_cons_succ])
  refine wpAnyH_ready (rs := [23]) (by kernel_rfl) (by simp) ?_
  refine AllReadyH.cons rfl (fun K hK => ?_) AllReadyH.nil
  go_simp
  refine (numbers_any _ _ [⟨n1, xs, n2, ys⟩] 1 (HV1.out _ _ kp (made1 w5 _ _)) (by decide)).mono ?_
  rintro e w6 ⟨⟨b, rfl, hb⟩, hb6⟩
  have y6 := hb6.size; (try simp only [World.size_alloc, size_set, size_drew, size_drewN] at y6)
  cases b
  · clear hb
    (try go_wp2_with fail)
    refine hK.out _ _ ?_ (fun hHeld => ?_)
    · (try dsimp only)
      exact ⟨⟨Loc.c 0 K3, Loc.c 1 K3⟩, Loc.c 2 K13, ⟨⟨Loc.c 0 K23, Loc.c 1 K23⟩, Loc.c 2 K23, Loc.c 3 K23⟩, HROW.out _ kp⟩
    clear hK K
    (try simp only [Act.put, List.getElem_toArray, List.getElem_cons_succ, List.getElem_cons_zero, List.setIfInBounds_toArray, List.set_cons_zero, List.set_cons_succ])
    refine takeT 24 hHeld ?_
    (try simp only [Act.put, List.getElem_toArray, List.getElem_cons_succ, List.getElem_cons_zero, List.setIfInBounds_toArray, List.set_cons_zero, List.set_cons_succ])
    refine takeT 25 hHeld ?_
    (try simp only [Act.put, List.getElem_toArray, List.getElem_cons_succ, List.getElem_cons_zero, List.setIfInBounds_toArray, List.set_cons_zero, List.set_cons_succ])
    refine takeT 26 hHeld ?_
    (try simp only [Act.put, List.getElem_toArray, List.getElem_cons_succ, List.getElem_cons_zero, List.setIfInBounds_toArray, List.set_cons_zero, List.set_cons_succ])
    refine offT 27 hHeld ?_
    refine offT 28 hHeld ?_
    refine offT 29 hHeld ?_
    (try simp only [Act.put, List.getElem_toArray, List.getElem_cons_succ, List.getElem_cons_zero, List.setIfInBounds_toArray, List.set_cons_zero, List.set_cons_succ])
    refine takeT 30 hHeld ?_
    (try simp only [Act.put, List.getElem_toArray, List.getElem_cons_succ, List.getElem_cons_zero, List.setIfInBounds_toArray, List.set_cons_zero, List.set_cons_succ])
    refine takeT 31 hHeld ?_
    (try simp only [Act.put, List.getElem_toArray, List.getElem_cons_succ, List.getElem_cons_zero, List.setIfInBounds_toArray, List.set_cons_zero, List.set_cons_succ])
    refine offT 32 hHeld ?_
    refine offT 33 hHeld ?_
    refine offT 34 hHeld ?_
    refine offT 35 hHeld ?_
    refine offT 36 hHeld ?_
    refine offT 37 hHeld ?_
    refine offT 38 hHeld ?_
    refine offT 39 hHeld ?_
    refine offT 40 hHeld ?_
    (try simp only [Act.put, List.getElem_toArray, List.getElem_cons_succ, List.getElem_cons_zero, List.setIfInBounds_toArray, List.set_cons_zero, List.set_cons_succ])
    refine takeT 41 hHeld ?_
    (try simp only [Act.put, List.getElem_toArray, List.getElem_cons_succ, List.getElem_cons_zero, List.setIfInBounds_toArray, List.set_cons_zero, List.set_cons_succ])
    refine takeT 42 hHeld ?_
    (try simp only [Act.put, List.getElem_toArray, List.getElem_cons_succ, List.getElem_cons_zero, List.setIfInBounds_toArray, List.set_cons_zero, List.set_cons_succ])
    refine offT 43 hHeld ?_
    refine offT 44 hHeld ?_
    refine offT 45 hHeld ?_
    refine offT 46 hHeld ?_
    refine offT 47 hHeld ?_
    refine offT 48 hHeld ?_
    (try simp only [Act.put, List.getElem_toArray, List.getElem_cons_succ, List.getElem_cons_zero, List.setIfInBounds_toArray, List.set_cons_zero, List.set_cons_succ])
    refine takeT 49 hHeld ?_
    (try simp only [Act.put, List.getElem_toArray, List.getElem_cons_succ, List.getElem_cons_zero, List.setIfInBounds_toArray, List.set_cons_zero, List.set_cons_succ])
    refine wpAnyH_done (by kernel_rfl) ?_ _
    refine NoPanic.normal ?_
    go_wp2_with fail
    go_ret
    exact ⟨rfl, bel⟩
  have HFB : Hid (RF.mk n1 xs n2 ys).few := (hb.out.1 rfl).2 0 _ rfl
  clear hb
  (try go_wp2_with fail)
  refine hK.out _ _ ?_ (fun hHeld => ?_)
  · (try dsimp only)
    exact ⟨⟨Loc.c 0 K3, Loc.c 1 K3⟩, Loc.c 2 K13, ⟨⟨Loc.c 0 K23, Loc.c 1 K23⟩, Loc.c 2 K23, Loc.c 3 K23⟩, HROW.out _ kp⟩
  clear hK K
  (try simp only [Act.put, List.getElem_toArray, List.getElem_cons_succ, List.getElem_cons_zero, List.setIfInBounds_toArray, List.set_cons_zero, List.set_cons_succ])
  refine takeT 24 hHeld ?_
  (try simp only [Act.put, List.getElem_toArray, List.getElem_cons_succ, List.getElem_cons_zero, List.setIfInBounds_toArray, List.set_cons_zero, List.set_cons_succ])
  refine takeT 25 hHeld ?_
  (try simp only [Act.put, List.getElem_toArray, List.getElem_cons_succ, List.getElem_cons_zero, List.setIfInBounds_toArray, List.set_cons_zero, List.set_cons_succ])
  refine takeT 26 hHeld ?_
  (try simp only [Act.put, List.getElem_toArray, List.getElem_cons_succ, List.getElem_cons_zero, List.setIfInBounds_toArray, List.set_cons_zero, List.set_cons_succ])
  refine takeT 27 hHeld ?_
  (try simp only [Act.put, List.getElem_toArray, List.getElem_cons_succ, List.getElem_cons_zero, List.setIfInBounds_toArray, List.set_cons_zero, List.set_cons_succ])
  have HMA : Hid (∀ W, Keep (fun _ => False) w W → Mat 2 W (fun _ => False) (.slice A m cA) m (lens L) (qm L)) := fun W hW => by have := HF.out.mat (HAK.out W hW); rw [HM.out] at this; exact this
  have HMB : Hid (∀ W, Keep (fun _ => False) w W → Nums 2 W (fun _ => False) (.slice B l.length cB) l.length (qs l)) := fun W hW => HF.out.rhs (HB.out.keep hW)
  have HC : Hid (∀ W, Keep (fun _ => False) w W → Nums 2 W (fun _ => False) (.slice C lc.length cC) lc.length (qs lc)) := fun W hW => HNC.out.nums (HCC.out.keep hW)
  have HMX : Hid (∀ W, Keep (fun _ => False) w W → Nums 2 W (fun _ => False) (.slice X lm.length cX) lm.length (qs lm)) := fun W hW => HNM.out.nums (HMM.out.keep hW)
  have HMV : Hid (∀ W, Keep (fun _ => False) w W → RatL 2 W (fun _ => False) (.agg #[.bool n1, .slice EA p ec, .bool n2, .slice EB q ed]) (rv n1 xs n2 ys)) := fun W hW => HV2.out W hW HFB.out
  have HL8 : Hid (∀ i, i < m → lens L i ≤ 8) := fun i hi => HF.out.len8 i (by rw [HM.out]; exact hi)
  refine wpAnyH_ready (rs := [28]) (by kernel_rfl) (by simp) ?_
  refine AllReadyH.cons rfl (fun K hK => ?_) AllReadyH.nil
  go_simp
  refine (rvalid_any _ _ _ _ _ 2 _ _ _ (HMA.out _ kp) (HMB.out _ kp)).mono ?_
  rintro e w7 ⟨⟨b, rfl, hb⟩, hb7⟩
  have y7 := hb7.size; (try simp only [World.size_alloc, size_set, size_drew, size_drewN] at y7)
  cases b
  · clear hb
    (try go_wp2_with fail)
    refine hK.out _ _ ?_ (fun hHeld => ?_)
    · (try dsimp only)
      exact ⟨⟨Loc.c 0 K3, Loc.c 1 K3⟩, Loc.c 2 K13, ⟨⟨Loc.c 0 K23, Loc.c 1 K23⟩, Loc.c 2 K23, Loc.c 3 K23⟩, HROW.out _ kp⟩
    clear hK K
    (try simp only [Act.put, List.getElem_toArray, List.getElem_cons_succ, List.getElem_cons_zero, List.setIfInBounds_toArray, List.set_cons_zero, List.set_cons_succ])
    refine takeT 29 hHeld ?_
    (try simp only [Act.put, List.getElem_toArray, List.getElem_cons_succ, List.getElem_cons_zero, List.setIfInBounds_toArray, List.set_cons_zero, List.set_cons_succ])
    refine takeT 30 hHeld ?_
    (try simp only [Act.put, List.getElem_toArray, List.getElem_cons_succ, List.getElem_cons_zero, List.setIfInBounds_toArray, List.set_cons_zero, List.set_cons_succ])
    refine takeT 31 hHeld ?_
    (try simp only [Act.put, List.getElem_toArray, List.getElem_cons_succ, List.getElem_cons_zero, List.setIfInBounds_toArray, List.set_cons_zero, List.set_cons_succ])
    refine offT 32 hHeld ?_
    refine offT 33 hHeld ?_
    refine offT 34 hHeld ?_
    refine offT 35 hHeld ?_
    refine offT 36 hHeld ?_
    refine offT 37 hHeld ?_
    refine offT 38 hHeld ?_
    refine offT 39 hHeld ?_
    refine offT 40 hHeld ?_
    (try simp only [Act.put, List.getElem_toArray, List.getElem_cons_succ, List.getElem_cons_zero, List.setIfInBounds_toArray, List.set_cons_zero, List.set_cons_succ])
    refine takeT 41 hHeld ?_
    (try simp only [Act.put, List.getElem_toArray, List.getElem_cons_succ, List.getElem_cons_zero, List.setIfInBounds_toArray, List.set_cons_zero, List.set_cons_succ])
    refine takeT 42 hHeld ?_
    (try simp only [Act.put, List.getElem_toArray, List.getElem_cons_succ, List.getElem_cons_zero, List.setIfInBounds_toArray, List.set_cons_zero, List.set_cons_succ])
    refine offT 43 hHeld ?_
    refine offT 44 hHeld ?_
    refine offT 45 hHeld ?_
    refine offT 46 hHeld ?_
    refine offT 47 hHeld ?_
    refine offT 48 hHeld ?_
    (try simp only [Act.put, List.getElem_toArray, List.getElem_cons_succ, List.getElem_cons_zero, List.setIfInBounds_toArray, List.set_cons_zero, List.set_cons_succ])
    refine takeT 49 hHeld ?_
    (try simp only [Act.put, List.getElem_toArray, List.getElem_cons_succ, List.getElem_cons_zero, List.setIfInBounds_toArray, List.set_cons_zero, List.set_cons_succ])
    refine wpAnyH_done (by kernel_rfl) ?_ _
    refine NoPanic.normal ?_
    go_wp2_with fail
    go_ret
    exact ⟨rfl, bel⟩
  have HVS : Hid (VS m l.length (lens L)) := hb.out.1 rfl
  clear hb
  (try go_wp2_with fail)
  refine hK.out _ _ ?_ (fun hHeld => ?_)
  · (try dsimp only)
    exact ⟨⟨Loc.c 0 K3, Loc.c 1 K3⟩, Loc.c 2 K13, ⟨⟨Loc.c 0 K23, Loc.c 1 K23⟩, Loc.c 2 K23, Loc.c 3 K23⟩, HROW.out _ kp⟩
  clear hK K
  (try simp only [Act.put, List.getElem_toArray, List.getElem_cons_succ, List.getElem_cons_zero, List.setIfInBounds_toArray, List.set_cons_zero, List.set_cons_succ])
  have hpos : 0 < m := HVS.out.1
  obtain ⟨rfl, D, d, rfl⟩ := HROW2.out hpos
  obtain ⟨a1, D1, dd, ea, hab, -, hcell, -, l9, l10⟩ := Mat.at (HMA.out w (Keep.refl _ _)) hpos
  injection ea with ea
  subst ea
  have q0 : (0 : Int) < (m : Int) := by omega
  refine takeT 29 hHeld ?_
  (try simp only [Act.put, List.getElem_toArray, List.getElem_cons_succ, List.getElem_cons_zero, List.setIfInBounds_toArray, List.set_cons_zero, List.set_cons_succ])
  refine takeT 30 hHeld ?_
  (try simp only [Act.put, List.getElem_toArray, List.getElem_cons_succ, List.getElem_cons_zero, List.setIfInBounds_toArray, List.set_cons_zero, List.set_cons_succ])
  refine takeT 31 hHeld ?_
  (try simp only [Act.put, List.getElem_toArray, List.getElem_cons_succ, List.getElem_cons_zero, List.setIfInBounds_toArray, List.set_cons_zero, List.set_cons_succ])
  refine takeT 32 hHeld ?_
  (try simp only [Act.put, List.getElem_toArray, List.getElem_cons_succ, List.getElem_cons_zero, List.setIfInBounds_toArray, List.set_cons_zero, List.set_cons_succ])
  refine takeT 33 hHeld ?_
  (try simp only [Act.put, List.getElem_toArray, List.getElem_cons_succ, List.getElem_cons_zero, List.setIfInBounds_toArray, List.set_cons_zero, List.set_cons_succ])
  refine takeT 34 hHeld ?_
  (try simp only [Act.put, List.getElem_toArray, List.getElem_cons_succ, List.getElem_cons_zero, List.setIfInBounds_toArray, List.set_cons_zero, List.set_cons_succ])
  refine takeT 35 hHeld ?_
  (try simp only [Act.put, List.getElem_toArray, List.getElem_cons_succ, List.getElem_cons_zero, List.setIfInBounds_toArray, List.set_cons_zero, List.set_cons_succ])
  refine takeT 36 hHeld ?_
  (try simp only [Act.put, List.getElem_toArray, List.getElem_cons_succ, List.getElem_cons_zero, List.setIfInBounds_toArray, List.set_cons_zero, List.set_cons_succ])
  refine takeT 37 hHeld ?_
  (try simp only [Act.put, List.getElem_toArray, List.getElem_cons_succ, List.getElem_cons_zero, List.setIfInBounds_toArray, List.set_cons_zero, List.set_cons_succ])
  refine takeT 38 hHeld ?_
  (try simp only [Act.put, List.getElem_toArray, List.getElem_cons_succ, List.getElem_cons_zero, List.setIfInBounds_toArray, List.set_cons_zero, List.set_cons_succ])
  refine takeT 39 hHeld ?_
  (try simp only [Act.put, List.getElem_toArray, List.getElem_cons_succ, List.getElem_cons_zero, List.setIfInBounds_toArray, List.set_cons_zero, List.set_cons_succ])
  by_cases hnc : lc.length ≠ n
  · have h7 : ((lc.length : Int) == (n : Int)) = false := beq_eq_false_iff_ne.2 (by omega)
    have h8 : ((lc.length : Int) != (n : Int)) = true := bne_iff_ne.2 (by omega)
    refine takeT 40 hHeld ?_
    (try simp only [Act.put, List.getElem_toArray, List.getElem_cons_succ, List.getElem_cons_zero, List.setIfInBounds_toArray, List.set_cons_zero, List.set_cons_succ])
    refine takeT 41 hHeld ?_
    (try simp only [Act.put, List.getElem_toArray, List.getElem_cons_succ, List.getElem_cons_zero, List.setIfInBounds_toArray, List.set_cons_zero, List.set_cons_succ])
    refine takeT 42 hHeld ?_
    (try simp only [Act.put, List.getElem_toArray, List.getElem_cons_succ, List.getElem_cons_zero, List.setIfInBounds_toArray, List.set_cons_zero, List.set_cons_succ])
    refine offT 43 hHeld ?_
    refine offT 44 hHeld ?_
    refine offT 45 hHeld ?_
    refine offT 46 hHeld ?_
    refine offT 47 hHeld ?_
    refine offT 48 hHeld ?_
    (try simp only [Act.put, List.getElem_toArray, List.getElem_cons_succ, List.getElem_cons_zero, List.setIfInBounds_toArray, List.set_cons_zero, List.set_cons_succ])
    refine takeT 49 hHeld ?_
    (try simp only [Act.put, List.getElem_toArray, List.getElem_cons_succ, List.getElem_cons_zero, List.setIfInBounds_toArray, List.set_cons_zero, List.set_cons_succ])
    refine wpAnyH_done (by kernel_rfl) ?_ _
    refine NoPanic.normal ?_
    go_wp2_with fail
    go_ret
    exact ⟨rfl, bel⟩
  have hnc2 : lc.length = n := Classical.not_not.1 hnc
  have h7 : ((lc.length : Int) == (n : Int)) = true := beq_iff_eq.2 (by omega)
  have h8 : ((lc.length : Int) != (n : Int)) = false := by simp only [bne, h7]; rfl
  refine takeT 40 hHeld ?_
  (try simp only [Act.put, List.getElem_toArray, List.getElem_cons_succ, List.getElem_cons_zero, List.setIfInBounds_toArray, List.set_cons_zero, List.set_cons_succ])
  refine takeT 41 hHeld ?_
  (try simp only [Act.put, List.getElem_toArray, List.getElem_cons_succ, List.getElem_cons_zero, List.setIfInBounds_toArray, List.set_cons_zero, List.set_cons_succ])
  refine takeT 42 hHeld ?_
  (try simp only [Act.put, List.getElem_toArray, List.getElem_cons_succ, List.getElem_cons_zero, List.setIfInBounds_toArray, List.set_cons_zero, List.set_cons_succ])
  refine takeT 43 hHeld ?_
  (try simp only [Act.put, List.getElem_toArray, List.getElem_cons_succ, List.getElem_cons_zero, List.setIfInBounds_toArray, List.set_cons_zero, List.set_cons_succ])
  refine takeT 44 hHeld ?_
  (try simp only [Act.put, List.getElem_toArray, List.getElem_cons_succ, List.getElem_cons_zero, List.setIfInBounds_toArray, List.set_cons_zero, List.set_cons_succ])
  refine takeT 45 hHeld ?_
  (try simp only [Act.put, List.getElem_toArray, List.getElem_cons_succ, List.getElem_cons_zero, List.setIfInBounds_toArray, List.set_cons_zero, List.set_cons_succ])
  refine takeT 46 hHeld ?_
  (try simp only [Act.put, List.getElem_toArray, List.getElem_cons_succ, List.getElem_cons_zero, List.setIfInBounds_toArray, List.set_cons_zero, List.set_cons_succ])
  refine takeT 47 hHeld ?_
  (try simp only [Act.put, List.getElem_toArray, List.getElem_cons_succ, List.getElem_cons_zero, List.setIfInBounds_toArray, List.set_cons_zero, List.set_cons_succ])
  by_cases hmc : lm.length ≠ lc.length
  · have h9 : ((lm.length : Int) == (lc.length : Int)) = false := beq_eq_false_iff_ne.2 (by omega)
    have h10 : ((lm.length : Int) != (lc.length : Int)) = true := bne_iff_ne.2 (by omega)
    refine takeT 48 hHeld ?_
    (try simp only [Act.put, List.getElem_toArray, List.getElem_cons_succ, List.getElem_cons_zero, List.setIfInBounds_toArray, List.set_cons_zero, List.set_cons_succ])
    refine takeT 49 hHeld ?_
    (try simp only [Act.put, List.getElem_toArray, List.getElem_cons_succ, List.getElem_cons_zero, List.setIfInBounds_toArray, List.set_cons_zero, List.set_cons_succ])
    refine wpAnyH_done (by kernel_rfl) ?_ _
    refine NoPanic.normal ?_
    go_wp2_with fail
    go_ret
    exact ⟨rfl, bel⟩
  have hmc2 : lm.length = lc.length := Classical.not_not.1 hmc
  have h9 : ((lm.length : Int) == (lc.length : Int)) = true := beq_iff_eq.2 (by omega)
  have h10 : ((lm.length : Int) != (lc.length : Int)) = false := by simp only [bne, h9]; rfl
  refine takeT 48 hHeld ?_
  (try simp only [Act.put, List.getElem_toArray, List.getElem_cons_succ, List.getElem_cons_zero, List.setIfInBounds_toArray, List.set_cons_zero, List.set_cons_succ])
  refine takeT 49 hHeld ?_
  (try simp only [Act.put, List.getElem_toArray, List.getElem_cons_succ, List.getElem_cons_zero, List.setIfInBounds_toArray, List.set_cons_zero, List.set_cons_succ])
  refine wpAnyH_done (by kernel_rfl) ?_ _
  refine NoPanic.normal ?_
  have HNC2 : Hid (lc.length = lens L 0) := hnc2.trans HN.out.symm
  have HMC2 : Hid (lm.length = lens L 0) := (hmc2.trans hnc2).trans HN.out.symm
  have HM5 : Hid (m ≤ 5) := by show _ ≤ _; omega
  have K37 : Loc w7 w1.heap.size _ _ := K3.to
  have K17 : Loc w7 w.heap.size _ _ := K13.to
  have K27 : Loc w7 (w.heap.size + 1) _ _ := K23.to
  have hkw7 : Keep (fun _ => False) w w7 := kp
  have hw7 : Below w.heap.size w w7 := bel
  have HS : Hid (∀ W, Keep (fun _ => False) w W → Sys 2 W (.agg #[.slice (some a0) m cA, .slice B l.length cB]) m l.length (lens L) (qm L) (qs l)) := fun W hW => ⟨_, _, _, _, rfl, HMA.out W hW, HMB.out W hW⟩
  obtain ⟨⟨s0, s1⟩, s2, ⟨⟨s3, s4⟩, s5, s6⟩, s7⟩ := hHeld
  clear hnc hmc hnc2 hmc2 h7 h8 h9 h10 hd h5 hcell hb1 hb3 hb4 hb5 hb6 hb7 HAK HB HCC HMM HV1 HV2 HNC HNM HFB HROW2 HF HROW
  go_wp2_with fail
  refine (minimizeTop_any _ _ _ m l.length 2 126 779 1568 lc.length (lens L) (qm L) (qs l) (qs lc) (HS.out _ kp) (HC.out _ kp) (by decide) (by decide) (by decide) (by decide) (by decide) (by decide) (by decide) (by decide) (fun h _ => (HS.out w (Keep.refl _ _)).sz1 (by decide) (by have := HM5.out; omega) HL8.out (by decide) (by decide) h) ((HS.out w (Keep.refl _ _)).sz2 (HC.out w (Keep.refl _ _)) (by decide) (by have := HM5.out; omega) HL8.out (by decide) (by decide))).mono ?_
  rintro e w8 ⟨vO, code, kind, nx, ny, nr, f, y, r, val, rfl, HO, hs, hb8⟩
  have y8 := hb8.size; (try simp only [World.size_alloc, size_set, size_drew, size_drewN] at y8)
  obtain ⟨rfl, hop⟩ := hs.out.2.2 HVS.out HNC2.out
  obtain ⟨X2, Y2, R2, cX2, cY2, cR2, bn, EA2, en, ec2, bn', EB2, en', ed2, rfl, -, -, -, hv⟩ := HO.out
  have HOP := Lib.hid hop
  have HVA := Lib.hid hv
  clear HO hs hop hv s0 s1 s2 s3 s4 s5 s6 s7
  have LO := made1 w8 #[.int .i64 kind, .slice X2 nx cX2, .slice Y2 ny cY2, .slice R2 nr cR2, .bool bn, .slice EA2 en ec2, .bool bn', .slice EB2 en' ed2] 51
  have K39 : Loc (w8.alloc (.cells #[.int .i64 kind, .slice X2 nx cX2, .slice Y2 ny cY2, .slice R2 nr cR2, .bool bn, .slice EA2 en ec2, .bool bn', .slice EB2 en' ed2] 51)) w1.heap.size _ _ := K37.to
  have K19 : Loc (w8.alloc (.cells #[.int .i64 kind, .slice X2 nx cX2, .slice Y2 ny cY2, .slice R2 nr cR2, .bool bn, .slice EA2 en ec2, .bool bn', .slice EB2 en' ed2] 51)) w.heap.size _ _ := K17.to
  have K29 : Loc (w8.alloc (.cells #[.int .i64 kind, .slice X2 nx cX2, .slice Y2 ny cY2, .slice R2 nr cR2, .bool bn, .slice EA2 en ec2, .bool bn', .slice EB2 en' ed2] 51)) (w.heap.size + 1) _ _ := K27.to
  have hkw9 : Keep (fun _ => False) w (w8.alloc (.cells #[.int .i64 kind, .slice X2 nx cX2, .slice Y2 ny cY2, .slice R2 nr cR2, .bool bn, .slice EA2 en ec2, .bool bn', .slice EB2 en' ed2] 51)) := kp
  have HW9 : Hid (Below w.heap.size w (w8.alloc (.cells #[.int .i64 kind, .slice X2 nx cX2, .slice Y2 ny cY2, .slice R2 nr cR2, .bool bn, .slice EA2 en ec2, .bool bn', .slice EB2 en' ed2] 51))) := hw7.trans ((bel : Below w7.heap.size w7 (w8.alloc (.cells #[.int .i64 kind, .slice X2 nx cX2, .slice Y2 ny cY2, .slice R2 nr cR2, .bool bn, .slice EA2 en ec2, .bool bn', .slice EB2 en' ed2] 51))).mono hw7.size)
  have hs9 : (w8.alloc (.cells #[.int .i64 kind, .slice X2 nx cX2, .slice Y2 ny cY2, .slice R2 nr cR2, .bool bn, .slice EA2 en ec2, .bool bn', .slice EB2 en' ed2] 51)).heap.size = w8.heap.size + 1 := World.size_alloc _ _
  have hl3 := K37.lt
  have K38 : Loc w8 w1.heap.size _ _ := K37.to
  have K18 : Loc w8 w.heap.size _ _ := K17.to
  have K28 : Loc w8 (w.heap.size + 1) _ _ := K27.to
  obtain ⟨us, hul, hub, huc, hun, hui⟩ := Mat.rows (HMA.out w (Keep.refl _ _)) hpos
  have HUC : Hid (∀ W, Keep (fun _ => False) w W → ∀ i u, us[i]? = some u → W.cell? (a0.add i) = some u) := fun W hW i u hu => cell_keep (huc i u hu) (by rw [add_block]; exact hub) id hW
  have HUN : Hid (∀ W, Keep (fun _ => False) w W → ∀ i u, us[i]? = some u → Nums 2 W (fun _ => False) u (lens L i) (qm L i)) := fun W hW i u hu => (hun i u hu).keep hW
  have HUB : Hid (∀ W, Keep (fun _ => False) w W → a0.block < W.heap.size) := fun W hW => Nat.lt_of_lt_of_le hub hW.size
  have HUI := Lib.hid hui
  have HLM : Hid (l.length = m) := HVS.out.2.2.1
  have HMV3 : Hid (∀ W, Below w.heap.size w W → RatL 2 W (fun b => w.heap.size ≤ b) (.agg #[.bool n1, .slice EA p ec, .bool n2, .slice EB q ed]) (rv n1 xs n2 ys)) := fun W hW => ((HMV.out w (Keep.refl _ _)).weak (Y := fun b => w.heap.size ≤ b) (fun b hb h => absurd hb (by have : w.heap.size ≤ b := h; omega))).keep (.of_below hW)
  have HVS2 : Hid (VS (m + 1) (l.length + 1) (Nx m (lens L) lm.length)) := by show VS _ _ _; rw [HLM.out, HMC2.out]; exact (ext_of (F := qm L) (Bv := qs l) (f := qs lm) (b := rv n1 xs n2 ys) (by have := HVS.out; rw [HLM.out] at this; exact this) (by have := HM5.out; omega)).vs
  have HNC5 : Hid (lc.length = Nx m (lens L) lm.length 0) := by show _ = _; unfold Nx; rw [if_pos hpos]; exact HNC2.out
  have HN8 : Hid (∀ i, i < m + 1 → Nx m (lens L) lm.length i ≤ 8) := fun i _ => (if hi : i < m then (by unfold Nx; rw [if_pos hi]; exact HL8.out i hi) else (by unfold Nx; rw [if_neg hi, HMC2.out]; exact HL8.out 0 hpos))
  clear huc hun hui hub hb8 hw7 hkw7
  go_wp2_with fail
  refine Reg7t.reg7t (r := ⟨n1, EA, p, ec, n2, EB, q, ed⟩) (us := us) (f2 := (Bx l.length (qs l) (rv n1 xs n2 ys))) (PF := fun kind5 val5 => ∃ (nx' ny' nr' : Nat) (f' y' r' : Nat → Rat), OP kind5 (m + 1) (l.length + 1) (Nx m (lens L) lm.length) (Fx m (qm L) (qs lm)) (Bx l.length (qs l) (rv n1 xs n2 ys)) lc.length (qs lc) nx' f' ny' y' nr' r' val5)
    (fun W hW => ⟨⟨Loc.cell (K39.below hW) 0, Loc.cell (K39.below hW) 1⟩, Loc.cell (K19.below hW) 2, ⟨Loc.cell (K29.below hW) 0, Loc.cell (K29.below hW) 1⟩, Loc.cell (K29.below hW) 2, Loc.cell (K29.below hW) 3⟩)
    (fun W hW => HUC.out W (hkw9.trans (.of_below hW))) (HUB.out _ hkw9) HUI (Lib.hid hul) (Lib.hid ⟨hpos, by have := HM5.out; omega⟩)
    (fun W hW => (((HMB.out w (Keep.refl _ _)).weak (Y := fun b => (w8.alloc (.cells #[.int .i64 kind, .slice X2 nx cX2, .slice Y2 ny cY2, .slice R2 nr cR2, .bool bn, .slice EA2 en ec2, .bool bn', .slice EB2 en' ed2] 51)).heap.size ≤ b) (fun b hb h => absurd hb (by have h9 : (w8.alloc (.cells #[.int .i64 kind, .slice X2 nx cX2, .slice Y2 ny cY2, .slice R2 nr cR2, .bool bn, .slice EA2 en ec2, .bool bn', .slice EB2 en' ed2] 51)).heap.size ≤ b := h; have := HW9.out.size; omega))).keep (.of_below (HW9.out.trans (hW.mono HW9.out.size)))).congr (fun i hi => by unfold Bx; rw [if_pos hi]))
    (Lib.hid ⟨by have := HLM.out; omega, by have := HLM.out; have := HM5.out; omega⟩)
    (fun W hW => by rw [bx_last]; exact (HMV3.out W (HW9.out.trans (hW.mono HW9.out.size))).weak (fun b _ h => Nat.le_trans HW9.out.size h))
    ?_ ?_
  · intro W gP cP gQ cQ hb hO hN
    have hk : Keep (fun _ => False) w W := hkw9.trans (.of_below hb)
    have HSX : Hid (Sys 2 W (.agg #[.slice (some ⟨gP, 0, none⟩) (m + 1) cP, .slice (some ⟨gQ, 0, none⟩) (l.length + 1) cQ]) (m + 1) (l.length + 1) (Nx m (lens L) lm.length) (Fx m (qm L) (qs lm)) (Bx l.length (qs l) (rv n1 xs n2 ys))) := ⟨_, _, _, _, rfl, OwnL.more hO hul (HUN.out W hk) (HMX.out W hk), hN⟩
    refine (minimizeTop_any _ _ _ (m + 1) (l.length + 1) 2 126 779 1568 lc.length (Nx m (lens L) lm.length) (Fx m (qm L) (qs lm)) (Bx l.length (qs l) (rv n1 xs n2 ys)) (qs lc) HSX.out (HC.out W hk) (by decide) (by decide) (by decide) (by decide) (by decide) (by decide) (by decide) (by decide) (fun h _ => HSX.out.sz1 (by decide) (by have := HM5.out; omega) HN8.out (by decide) (by decide) h) (HSX.out.sz2 (HC.out W hk) (by decide) (by have := HM5.out; omega) HN8.out (by decide) (by decide))).mono ?_
    rintro e u5 ⟨vO5, code5, kind5, nx5, ny5, nr5, f5, y5, r5, val5, rfl, HO5, hs5, hb15⟩
    obtain ⟨X5, Y5, R5, cX5, cY5, cR5, bn5, EA5, en5, ec5, bn5', EB5, en5', ed5, rfl, -, -, -, hv5⟩ := HO5.out
    obtain ⟨rfl, hop5⟩ := hs5.out.2.2 HVS2.out HNC5.out
    exact ⟨_, _, _, _, _, _, _, _, _, _, _, _, _, _, _, _, _, _, _, rfl, ⟨_, _, _, _, _, _, hop5⟩, hv5, hb15⟩
  intro W hd kind5 X5 Y5 R5 EA5 EB5 nx5 ny5 nr5 cX5 cY5 cR5 en5 ec5 en5' ed5 bn5 bn5' val5 v73 v74 v75 v76 v77 v78 v79 v80 v81 v82 v83 v84 v85 v86 v87 v88 v89 v90 v91 hpf hvr hld hb
  obtain ⟨nx', ny', nr', f', y', r', hop5⟩ := hpf.out
  have hopA : OP kind m m (lens L) (qm L) (qs l) lc.length (qs lc) nx f ny y nr r val := by have h9 := HOP.out; rw [HLM.out] at h9; exact h9
  rw [HLM.out, HMC2.out] at hop5
  have hless := (ext_of (F := qm L) (Bv := qs l) (f := qs lm) (b := rv n1 xs n2 ys) (by have h9 := HVS.out; rw [HLM.out] at h9; exact h9) (by have := HM5.out; omega)).less hopA hop5
  have HLE := Lib.hid hless.2.2
  have h02 := hless.1
  have h21 := hless.2.1
  have hkA := hopA.kinds
  have hkB := hop5.kinds
  have HRA : Hid (∀ V, Keep (fun _ => False) W V → RatL 1568 V (fun _ => False) (.agg #[.bool bn, .slice EA2 en ec2, .bool bn', .slice EB2 en' ed2]) val) := fun V hV => HVA.out.keep (((kp : Keep (fun _ => False) w8 (w8.alloc (.cells #[.int .i64 kind, .slice X2 nx cX2, .slice Y2 ny cY2, .slice R2 nr cR2, .bool bn, .slice EA2 en ec2, .bool bn', .slice EB2 en' ed2] 51))).trans (.of_below hb)).trans hV)
  have HRB : Hid (∀ V, Keep (fun _ => False) W V → RatL 1568 V (fun _ => False) (.agg #[.bool bn5, .slice EA5 en5 ec5, .bool bn5', .slice EB5 en5' ed5]) val5) := fun V hV => hvr.keep hV
  have LOW : Loc W w8.heap.size _ _ := LO.below hb
  obtain ⟨e1, f1, l1⟩ := LOW.all (w' := W)
  obtain ⟨e2, f2, l2⟩ := hld.all (w' := W)
  have hwW : Below w.heap.size w W := HW9.out.trans (hb.mono HW9.out.size)
  clear hpf hop5 hless hopA hvr hb HOP HVA K37 K17 K27 K38 K18 K28 K39 K19 K29 LO HW9 HUC HUN HUB HUI HMV3 hkw9 HMA HMB HC HMX HMV HS K3 K1 K2 K13 K23
  have hfin : (kind = 0 ∧ kind5 = 0) ∨ (kind = 1 ∧ kind5 = 0) ∨ (kind = 1 ∧ kind5 = 1) ∨ (kind = 1 ∧ kind5 = 2) ∨ (kind = 2 ∧ kind5 = 0) ∨ (kind = 2 ∧ kind5 = 2) := by omega
  clear h02 h21 hkA hkB
  rcases hfin with ⟨rfl, rfl⟩ | ⟨rfl, rfl⟩ | ⟨rfl, rfl⟩ | ⟨rfl, rfl⟩ | ⟨rfl, rfl⟩ | ⟨rfl, rfl⟩
  · clear HLE
    go_wp2_with fail
    go_ret
    exact ⟨rfl, hwW⟩
  · clear HLE
    go_wp2_with fail
    go_ret
    exact ⟨rfl, hwW⟩
  · clear HLE
    go_wp2_with fail
    go_ret
    exact ⟨rfl, hwW⟩
  · clear HLE
    go_wp2_with fail
    go_ret
    exact ⟨rfl, hwW⟩
  · clear HLE
    go_wp2_with fail
    go_ret
    exact ⟨rfl, hwW⟩
  · have hle : val ≤ val5 := HLE.out rfl rfl
    obtain ⟨qq, hqq⟩ : ∃ qq, rcmp val5 val = qq := ⟨_, rfl⟩
    have hq0 : 0 ≤ qq := by rw [← hqq]; exact rcmp_nonneg hle
    have HQQ := Lib.hid hqq
    clear hqq hle HLE
    go_wp2_with fail
    refine (rcompare_rat _ (fun _ => False) _ _ val5 val ((HRB.out _ kp).mono (by decide)) ((HRA.out _ kp).mono (by decide))).mono ?_
    rintro e w12 ⟨he, hb12⟩
    rw [HQQ.out] at he
    subst he
    go_wp2_with fail
    go_ret
    exact ⟨rfl, hwW.trans ((bel : Below W.heap.size W _).mono hwW.size)⟩
end Go.Proofs.YtpeglenapmkdfaaGreat

/- The statement 'LinearTighter' out of its walk. The frame is the guide's own (proof-skeleton), printed by lawgen.py. -/
namespace Go.Proofs.YtpeglenapmkdfaaGreat.linearTighter
open Go.ChangeShapes Go.WideShapes Go.ChangeAt Go.RowKit Go.Proofs.YtpeglenapmkdfaaGreat
open Go.ChangeMaps (open_string shut_string)
set_option linter.unusedVariables false

set_option maxRecDepth 100000 in
theorem lifted (os : Os) (started : os.Started) (H : Type) (enc : TypeId × Value → H) :
    ReturnsInHanded {} Tryz.checked os 6 .any (Rows.linearTighterSpec.pre6 enc Tryz.prog Tryz.f6 Rows.linearTighterRow.domain false) (Rows.linearTighterSpec.post enc Tryz.prog Tryz.f6 false true false false) := by
  refine returnsInHanded_of_change (C := Tryz.checked) own started (by kernel_rfl) Tryz.func6
    (ChangeSpec.witness6 (enc := enc) (C := Tryz.checked) false ⟨#[], #[.agg #[.slice none 0 0, .slice none 0 0, .slice none 0 0], .slice none 0 0, .agg #[.bool false, .slice none 0 0, .bool false, .slice none 0 0]], []⟩ 8 (by kernel_rfl) (by kernel_rfl) (by kernel_rfl) (by kernel_rfl)) ?_
  intro W base args ds gs before hval0 hW hcnd _
  have hval : ∀ (j : Nat) t v, Tryz.f6.params[j]? = some t → args[j]? = some v → Value.okWide Tryz.prog W .any base t v := hval0
  have hW' := hW
  obtain ⟨p, q, hA0, hV, rfl, hfz, hnd⟩ := hW
  have hA : DataW.TrodAll enc Tryz.prog W 0 (fun _ => true) true Tryz.f6.params.toList args.toList ds p := hA0
  rw [Tryz.params6] at hA hval
  obtain ⟨v0, vs0, d0, ds0, p0, q0, hargs, rfl, rfl, h0, r0⟩ := trodAll_cons hA
  obtain ⟨v1, vs1, d1, ds1, p1, q1, rfl, rfl, rfl, h1, r1⟩ := trodAll_cons r0
  obtain ⟨v2, vs2, d2, ds2, p2, q2, rfl, rfl, rfl, h2, r2⟩ := trodAll_cons r1
  obtain ⟨rfl, rfl, rfl⟩ := trodAll_nil r2
  obtain rfl : args = #[v0, v1, v2] := by cases args; simp_all
  obtain ⟨rfl, rfl⟩ := trodVars_none hV
  have lt0 : ∀ x ∈ p0, x.block < W.heap.size := by obtain ⟨m, hm⟩ := h0; exact DataW.trod_lt m _ _ _ hm
  have k0 := fun (W' : World) (bel : Below W.heap.size W W') => Below.trod laidOut (by kernel_rfl) (of_decide_eq_true (by kernel_rfl)) h0 bel lt0
  obtain ⟨va0, vb0, vc0, L0, l0, lc0, e0, ha0, hb0, hc0⟩ := open_Problem (hval 0 37 v0 rfl rfl) h0
  have lt1 : ∀ x ∈ p1, x.block < W.heap.size := by obtain ⟨m, hm⟩ := h1; exact DataW.trod_lt m _ _ _ hm
  have k1 := fun (W' : World) (bel : Below W.heap.size W W') => Below.trod laidOut (by kernel_rfl) (of_decide_eq_true (by kernel_rfl)) h1 bel lt1
  obtain ⟨l1, o1⟩ := open_RatsV (hval 1 23 v1 rfl rfl) h1
  have lt2 : ∀ x ∈ p2, x.block < W.heap.size := by obtain ⟨m, hm⟩ := h2; exact DataW.trod_lt m _ _ _ hm
  have k2 := fun (W' : World) (bel : Below W.heap.size W W') => Below.trod laidOut (by kernel_rfl) (of_decide_eq_true (by kernel_rfl)) h2 bel lt2
  obtain ⟨n2, x2, m2, y2, o2⟩ := open_Rat (hval 2 44 v2 rfl rfl) h2
  subst e0
  refine (tighter_walk _ _ _ _ _ _ _ _ _ _ _ _ _ _ ha0 hb0 hc0 o1 o2).mono fun e W' ⟨he, bel⟩ => ?_
  subst he
  exact ⟨_, rfl, _, _, _, [], _, [], hW', trodAll_mk1 (shut_bool Tryz.underlying4 _), (trodAll_cons_mk (k0 _ bel) (trodAll_cons_mk (k1 _ bel) (trodAll_cons_mk (k2 _ bel) trodAll_mk0))), rfl, bel.frame _, fun h => by cases h⟩

theorem over : Rows.linearTighterRow.holds Tryz.pinned (OpenSpec.ofChange Rows.linearTighterSpec) :=
  OpenClaim.holds_of_wide 6 Tryz.f6 rfl rfl rfl rfl rfl rfl rfl ⟨rfl, rfl, rfl, rfl, rfl⟩ rfl rfl rfl rfl rfl (by kernel_rfl) Tryz.func6 (by kernel_rfl)
    (of_decide_eq_true (by kernel_rfl)) (by unfold Func.isWrapper; first | (rw [if_pos (by decide +kernel)]; kernel_rfl) | (rw [if_neg (by decide +kernel)]; exact ⟨rfl, rfl⟩))
    (fun os started H enc _ => lifted os started H enc)

/-- The statement: for every input the law returns true; each argument reads behind the call as it read before. -/
theorem proved : Rows.LinearTighterSaid := over
end Go.Proofs.YtpeglenapmkdfaaGreat.linearTighter

