/- For every input the law returns true: the law's walk, and the statement out of it. -/
import Derived.Test.YtbdcjhoedhhabaaGreatRows
import Derived.Test.YtbdcjhoedhhabaaGreatB19
import Derived.Test.YtbdcjhoedhhabaaGreatB20
import Derived.Test.YtbdcjhoedhhabaaGreatB31
import Derived.Test.YtbdcjhoedhhabaaGreatB32
import Derived.Test.YtbdcjhoedhhabaaGreatB33
set_option linter.unusedSimpArgs false
set_option linter.unusedVariables false

/- CheckerSegments: the law's walk. -/
namespace Go.Proofs.YtbdcjhoedhhabaaGreat
open Go.RowKit
attribute [local go_sem ↓] Go.wp_at_zero Go.wp_at_succ
attribute [local go_sem] beq_self_eq_true

set_option maxHeartbeats 4000000 in
theorem klong1_any (w : World) (A : Option Addr) (m c : Nat) :
 Calls Tryz.prog 44 (#[.slice A m c] ++ #[]) w fun e w' => Tells (12 < m) e ∧ Below w.heap.size w w' := by
 by_cases h : 12 < m
 ·have H := Lib.hid h
  have d1 : decide ((12 : Int) < (m : Int)) = true := decide_eq_true (by omega)
  have d2 : decide (12 < m) = true := decide_eq_true h
  clear h
  go_enter Tryz.func44, Tryz.ntmps44
  go_wp2_with fail
  go_ret
  exact ⟨by first | exact Tells.yes H.out | (rw [d1]; exact Tells.yes H.out), bel⟩
 ·have H : Hid (¬ 12 < m) := h
  have d1 : decide ((12 : Int) < (m : Int)) = false := decide_eq_false (by omega)
  have d2 : decide (12 < m) = false := decide_eq_false h
  clear h
  go_enter Tryz.func44, Tryz.ntmps44
  go_wp2_with fail
  go_ret
  exact ⟨by first | exact Tells.no H.out | (rw [d1]; exact Tells.no H.out), bel⟩

set_option maxRecDepth 100000 in
set_option maxHeartbeats 16000000 in
theorem segments48_walk (w : World) (vl vm vt : Value) (k cost : Int) (l : List (Int × Int)) (M L : List (List Int)) (hl : Tims w vl l) (hM : IMat w vm M) (hL : IMat w vt L) (hk0 : -9223372036854775808 ≤ k) (hk1 : k ≤ 9223372036854775807) :
 Calls Tryz.prog 10 #[vl, vm, .agg #[.int .i64 k, vt, .int .i64 cost]] w fun e w' => e = .returned (.bool true) ∧ Below w.heap.size w w' := by
 have HL := Lib.hid hl
 have HM := Lib.hid hM
 have HT := Lib.hid hL
 obtain ⟨A, cA, rfl, hl, la1, la2⟩ := hl.op
 obtain ⟨B, cB, rfl, hM, lb1, lb2⟩ := hM.op
 obtain ⟨C, cC, rfl, hL, lc1, lc2⟩ := hL.op
 clear hl hM hL
 obtain ⟨n, hn⟩ : ∃ n, l.length = n := ⟨_, rfl⟩
 have HL2 : Hid (Tims w (.slice A n cA) l) := by have h9 := HL.out; rw [hn] at h9; exact h9
 obtain ⟨m, hm⟩ : ∃ m, M.length = m := ⟨_, rfl⟩
 have HM2 : Hid (IMat w (.slice B m cB) M) := by have h9 := HM.out; rw [hm] at h9; exact h9
 obtain ⟨t, ht⟩ : ∃ t, L.length = t := ⟨_, rfl⟩
 have HT2 : Hid (IMat w (.slice C t cC) L) := by have h9 := HT.out; rw [ht] at h9; exact h9
 rw [hn, hm, ht]
 rw [hn] at la1
 rw [hm] at lb1
 rw [ht] at lc1
 clear hn hm ht HL HM HT
 have L1 := made1 w #[.int .i64 k, .slice C t cC, .int .i64 cost] 93
 go_enter Tryz.func10, Tryz.ntmps10
 go_wp2_with fail
 refine (known48_any _).mono ?_
 rintro e w1 ⟨rfl, hb1⟩
 have y1 := hb1.size; (try simp only [zs] at y1)
 obtain ⟨e1, f1, l1⟩ := L1.all (w' := w1)
 by_cases h1 : 10 < n
 ·have d1 : decide ((10 : Int) < (n : Int)) = true := decide_eq_true (by omega)
  have d1' : decide (10 < n) = true := decide_eq_true h1
  go_wp2_with fail
  go_ret
  exact ⟨rfl, bel⟩
 have d1 : decide ((10 : Int) < (n : Int)) = false := decide_eq_false (by omega)
 have d1' : decide (10 < n) = false := decide_eq_false h1
 by_cases h2 : 10 < m
 ·have d2 : decide ((10 : Int) < (m : Int)) = true := decide_eq_true (by omega)
  have d2' : decide (10 < m) = true := decide_eq_true h2
  go_wp2_with fail
  go_ret
  exact ⟨rfl, bel⟩
 have d2 : decide ((10 : Int) < (m : Int)) = false := decide_eq_false (by omega)
 have d2' : decide (10 < m) = false := decide_eq_false h2
 clear h1 h2
 go_wp2_with fail
 refine (containsLo_any _ 44 #[] (fun l => 12 < l.length) _ M (HM2.out.keep kp) (enters Tryz.func44 (by kernel_rfl) (by kernel_rfl)) (fun W A c l hW hl _ => klong1_any W A l.length c)).mono ?_
 rintro e w2 ⟨⟨b, rfl, -⟩, hb2⟩
 have y2 := hb2.size; (try simp only [zs] at y2)
 clear e1 f1 l1
 obtain ⟨e1, f1, l1⟩ := L1.all (w' := w2)
 cases b
 case true =>
  go_wp2_with fail
  go_ret
  exact ⟨rfl, bel⟩
 by_cases h3 : 12 < t
 ·have d3 : decide ((12 : Int) < (t : Int)) = true := decide_eq_true (by omega)
  have d3' : decide (12 < t) = true := decide_eq_true h3
  go_wp2_with fail
  go_ret
  exact ⟨rfl, bel⟩
 have d3 : decide ((12 : Int) < (t : Int)) = false := decide_eq_false (by omega)
 have d3' : decide (12 < t) = false := decide_eq_false h3
 clear h3
 go_wp2_with fail
 refine (containsSe_any _ 44 #[] (fun l => 12 < l.length) _ L (HT2.out.keep kp) (enters Tryz.func44 (by kernel_rfl) (by kernel_rfl)) (fun W A c l hW hl _ => klong1_any W A l.length c)).mono ?_
 rintro e w3 ⟨⟨b, rfl, -⟩, hb3⟩
 have y3 := hb3.size; (try simp only [zs] at y3)
 clear e1 f1 l1
 have LW : Hid (∀ W, Below w3.heap.size w3 W → W.cell? ⟨w.heap.size, 0, none⟩ = some (.int .i64 k) ∧ W.cell? ⟨w.heap.size, 1, none⟩ = some (.slice C t cC) ∧ W.cell? ⟨w.heap.size, 2, none⟩ = some (.int .i64 cost)) := fun W hW => by
  have L3 : Loc w3 w.heap.size 93 #[.int .i64 k, .slice C t cC, .int .i64 cost] := L1.to
  have L4 := Loc.below L3 hW
  exact ⟨Loc.cell L4 0, Loc.cell L4 1, Loc.cell L4 2⟩
 cases b
 case true =>
  go_wp2_with fail
  go_ret
  exact ⟨rfl, bel⟩
 clear d1 d1' d2 d2' d3 d3'
 go_wp2_with fail
 refine wp_region_noPanic ?_
 refine wp_region_held_drew (S := (fun W => W.cell? ⟨w.heap.size, 0, none⟩ = some (.int .i64 k) ∧ W.cell? ⟨w.heap.size, 1, none⟩ = some (.slice C t cC) ∧ W.cell? ⟨w.heap.size, 2, none⟩ = some (.int .i64 cost))) (by kernel_rfl) ?_ (fun hHeld => ?_)
 ·exact LW.out _ bel
 refine takeT 0 hHeld ?_
 (try simp only [Act.put, ly])
 refine takeT 1 hHeld ?_
 (try simp only [Act.put, ly])
 refine takeT 2 hHeld ?_
 (try simp only [Act.put, ly])
 refine takeT 3 hHeld ?_
 (try simp only [Act.put, ly])
 refine takeT 4 hHeld ?_
 (try simp only [Act.put, ly])
 refine takeT 5 hHeld ?_
 (try simp only [Act.put, ly])
 refine takeT 6 hHeld ?_
 (try simp only [Act.put, ly])
 refine takeT 8 hHeld ?_
 (try simp only [Act.put, ly])
 refine takeT 9 hHeld ?_
 (try simp only [Act.put, ly])
 refine takeT 10 hHeld ?_
 (try simp only [Act.put, ly])
 refine takeT 11 hHeld ?_
 (try simp only [Act.put, ly])
 refine takeT 12 hHeld ?_
 (try simp only [Act.put, ly])
 refine takeT 13 hHeld ?_
 (try simp only [Act.put, ly])
 refine takeT 14 hHeld ?_
 (try simp only [Act.put, ly])
 refine wpAnyH_ready (rs := [7]) (by kernel_rfl) (by simp) ?_
 refine AllReadyH.cons rfl (fun K hK => ?_) AllReadyH.nil
 go_simp
 refine (kbuckets_any _ _ _ l L k cost (HL2.out.keep kp) (HT2.out.keep kp) hk0 hk1).mono ?_
 rintro e w4 ⟨⟨r1, rfl, hr1⟩, hb4⟩
 have y4 := hb4.size; (try simp only [zs] at y4)
 (try go_wp2_with fail)
 refine hK.out _ _ ?_ (fun hHeld => ?_)
 ·(try dsimp only)
  exact LW.out _ bel
 clear hK K
 (try simp only [Act.put, ly])
 refine wpAnyH_ready (rs := [15]) (by kernel_rfl) (by simp) ?_
 refine AllReadyH.cons rfl (fun K hK => ?_) AllReadyH.nil
 go_simp
 refine (bprove_any _ _ _ l L k cost (HL2.out.keep kp) (HT2.out.keep kp) hk0 hk1).mono ?_
 rintro e w5 ⟨⟨r2, rfl, hr2⟩, hb5⟩
 have y5 := hb5.size; (try simp only [zs] at y5)
 obtain rfl := hr1.out.eq hr2.out
 clear hr1 hr2
 (try go_wp2_with fail)
 refine hK.out _ _ ?_ (fun hHeld => ?_)
 ·(try dsimp only)
  exact LW.out _ bel
 clear hK K
 (try simp only [Act.put, ly])
 refine takeT 16 hHeld ?_
 (try simp only [Act.put, ly])
 refine takeT 17 hHeld ?_
 (try simp only [Act.put, ly])
 refine takeT 18 hHeld ?_
 (try simp only [Act.put, ly])
 refine takeT 19 hHeld ?_
 (try simp only [Act.put, ly])
 refine takeT 20 hHeld ?_
 (try simp only [Act.put, ly])
 refine takeT 21 hHeld ?_
 (try simp only [Act.put, ly])
 refine takeT 22 hHeld ?_
 (try simp only [Act.put, ly])
 refine takeT 23 hHeld ?_
 (try simp only [Act.put, ly])
 refine takeT 24 hHeld ?_
 (try simp only [Act.put, ly])
 refine takeT 26 hHeld ?_
 (try simp only [Act.put, ly])
 refine takeT 27 hHeld ?_
 (try simp only [Act.put, ly])
 refine takeT 28 hHeld ?_
 (try simp only [Act.put, ly])
 refine takeT 29 hHeld ?_
 (try simp only [Act.put, ly])
 refine takeT 30 hHeld ?_
 (try simp only [Act.put, ly])
 refine takeT 31 hHeld ?_
 (try simp only [Act.put, ly])
 refine takeT 32 hHeld ?_
 (try simp only [Act.put, ly])
 refine wpAnyH_ready (rs := [25]) (by kernel_rfl) (by simp) ?_
 refine AllReadyH.cons rfl (fun K hK => ?_) AllReadyH.nil
 go_simp
 refine (kmerges_any _ _ _ M L k cost (HM2.out.keep kp) (HT2.out.keep kp) hk0 hk1).mono ?_
 rintro e w6 ⟨⟨r3, rfl, hr3⟩, hb6⟩
 have y6 := hb6.size; (try simp only [zs] at y6)
 (try go_wp2_with fail)
 refine hK.out _ _ ?_ (fun hHeld => ?_)
 ·(try dsimp only)
  exact LW.out _ bel
 clear hK K
 (try simp only [Act.put, ly])
 refine wpAnyH_ready (rs := [33]) (by kernel_rfl) (by simp) ?_
 refine AllReadyH.cons rfl (fun K hK => ?_) AllReadyH.nil
 go_simp
 refine (mprove_any _ _ _ M L k cost (HM2.out.keep kp) (HT2.out.keep kp) hk0 hk1).mono ?_
 rintro e w7 ⟨⟨r4, rfl, hr4⟩, hb7⟩
 have y7 := hb7.size; (try simp only [zs] at y7)
 obtain rfl := hr3.out.eq hr4.out
 clear hr3 hr4
 (try go_wp2_with fail)
 refine hK.out _ _ ?_ (fun hHeld => ?_)
 ·(try dsimp only)
  exact LW.out _ bel
 clear hK K
 (try simp only [Act.put, ly])
 refine takeT 34 hHeld ?_
 (try simp only [Act.put, ly])
 refine takeT 35 hHeld ?_
 (try simp only [Act.put, ly])
 refine takeT 36 hHeld ?_
 (try simp only [Act.put, ly])
 refine wpAnyH_done (by kernel_rfl) ?_ _
 refine NoPanic.normal ?_
 go_wp2_with fail
 go_ret
 exact ⟨rfl, bel⟩
end Go.Proofs.YtbdcjhoedhhabaaGreat

/- The statement 'CheckerSegments' out of its walk. The frame is the guide's own (proof-skeleton), printed by lawgen.py. -/
namespace Go.Proofs.YtbdcjhoedhhabaaGreat.checkerSegments
open Go.ChangeShapes Go.WideShapes Go.ChangeAt Go.RowKit Go.Proofs.YtbdcjhoedhhabaaGreat
open Go.ChangeMaps (open_string shut_string)
set_option linter.unusedVariables false

set_option maxRecDepth 100000 in
theorem lifted (os : Os) (started : os.Started) (H : Type) (enc : TypeId × Value → H) :
 ReturnsInHanded {} Tryz.checked os 10 .any (Rows.checkerSegmentsSpec.pre6 enc Tryz.prog Tryz.f10 Rows.checkerSegmentsRow.domain false) (Rows.checkerSegmentsSpec.post enc Tryz.prog Tryz.f10 false true false false) := by
 refine returnsInHanded_of_change (C := Tryz.checked) own started (by kernel_rfl) Tryz.func10
  (ChangeSpec.witness6 (enc := enc) (C := Tryz.checked) false ⟨#[], #[.slice none 0 0, .slice none 0 0, .agg #[.int .i64 0, .slice none 0 0, .int .i64 0]], []⟩ 8 (by kernel_rfl) (by kernel_rfl) (by kernel_rfl) (by kernel_rfl)) ?_
 intro W base args ds gs before hval0 hW hcnd _
 have hval : ∀ (j : Nat) t v, Tryz.f10.params[j]? = some t → args[j]? = some v → Value.okWide Tryz.prog W .any base t v := hval0
 have hW' := hW
 obtain ⟨p, q, hA0, hV, rfl, hfz, hnd⟩ := hW
 have hA : DataW.TrodAll enc Tryz.prog W 0 (fun _ => true) true Tryz.f10.params.toList args.toList ds p := hA0
 rw [Tryz.params10] at hA hval
 obtain ⟨v0, vs0, d0, ds0, p0, q0, hargs, rfl, rfl, h0, r0⟩ := trodAll_cons hA
 obtain ⟨v1, vs1, d1, ds1, p1, q1, rfl, rfl, rfl, h1, r1⟩ := trodAll_cons r0
 obtain ⟨v2, vs2, d2, ds2, p2, q2, rfl, rfl, rfl, h2, r2⟩ := trodAll_cons r1
 obtain ⟨rfl, rfl, rfl⟩ := trodAll_nil r2
 obtain rfl : args = #[v0, v1, v2] := by cases args; simp_all
 obtain ⟨rfl, rfl⟩ := trodVars_none hV
 have lt0 : ∀ x ∈ p0, x.block < W.heap.size := by obtain ⟨m, hm⟩ := h0; exact DataW.trod_lt m _ _ _ hm
 have k0 := fun (W' : World) (bel : Below W.heap.size W W') => Below.trod laidOut (by kernel_rfl) (of_decide_eq_true (by kernel_rfl)) h0 bel lt0
 obtain ⟨l0, ha0⟩ := open_Timeds (hval 0 89 v0 rfl rfl) h0
 have lt1 : ∀ x ∈ p1, x.block < W.heap.size := by obtain ⟨m, hm⟩ := h1; exact DataW.trod_lt m _ _ _ hm
 have k1 := fun (W' : World) (bel : Below W.heap.size W W') => Below.trod laidOut (by kernel_rfl) (of_decide_eq_true (by kernel_rfl)) h1 bel lt1
 obtain ⟨L1, ha1⟩ := open_Losses (hval 1 90 v1 rfl rfl) h1
 have lt2 : ∀ x ∈ p2, x.block < W.heap.size := by obtain ⟨m, hm⟩ := h2; exact DataW.trod_lt m _ _ _ hm
 have k2 := fun (W' : World) (bel : Below W.heap.size W W') => Below.trod laidOut (by kernel_rfl) (of_decide_eq_true (by kernel_rfl)) h2 bel lt2
 obtain ⟨k2_, c2, u2, L2, e2, ha2, ba2, bb2⟩ := open_Grouped (hval 2 93 v2 rfl rfl) h2
 subst e2
 refine (segments48_walk _ _ _ _ _ _ _ _ _ ha0 ha1 ha2 ba2 bb2).mono fun e W' ⟨he, bel⟩ => ?_
 subst he
 exact ⟨_, rfl, _, _, _, [], _, [], hW', trodAll_mk1 (shut_bool Tryz.underlying4 _), (trodAll_cons_mk (k0 _ bel) (trodAll_cons_mk (k1 _ bel) (trodAll_cons_mk (k2 _ bel) trodAll_mk0))), rfl, bel.frame _, fun h => by cases h⟩

theorem in_place : (Rows.checkerSegmentsRow.inPlace == Tryz.prog.inPlace 10) = true := by kernel_rfl
theorem unfollowed : (Rows.checkerSegmentsRow.unfollowed == Tryz.prog.unfollowed 10) = true := by kernel_rfl
theorem recurses : (Rows.checkerSegmentsRow.recurses == Tryz.prog.recurses 10) = true := by kernel_rfl
theorem named : (Rows.checkerSegmentsRow.named == Tryz.prog.varsNamed 10) = true := by kernel_rfl
theorem cheap : cheapFacts Tryz.prog Tryz.f10 Rows.checkerSegmentsSpec Rows.checkerSegmentsRow = true := by kernel_rfl

theorem over : Rows.checkerSegmentsRow.holds Tryz.pinned (OpenSpec.ofChange Rows.checkerSegmentsSpec) :=
 OpenClaim.holds_of_wide 10 Tryz.f10 rfl rfl rfl rfl rfl rfl rfl ⟨rfl, rfl, rfl, rfl, rfl⟩ rfl rfl rfl rfl rfl (by kernel_rfl) Tryz.func10 (joined_mk laidOut rowed in_place unfollowed recurses named cheap)
  (of_decide_eq_true (by kernel_rfl)) (by unfold Func.isWrapper; first | (rw [if_pos (by decide +kernel)]; kernel_rfl) | (rw [if_neg (by decide +kernel)]; exact ⟨rfl, rfl⟩))
  (fun os started H enc _ => lifted os started H enc)

/-- The statement: for every input the law returns true; each argument reads behind the call as it read before. -/
theorem proved : Rows.CheckerSegmentsSaid := over
end Go.Proofs.YtbdcjhoedhhabaaGreat.checkerSegments

