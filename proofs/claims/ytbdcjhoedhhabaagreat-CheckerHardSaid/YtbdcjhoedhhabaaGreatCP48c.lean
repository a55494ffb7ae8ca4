/- For every input the law returns true: the law's walk, and the statement out of it. -/
import Derived.Test.YtbdcjhoedhhabaaGreatRows
import Derived.Test.YtbdcjhoedhhabaaGreatC19
import Derived.Test.YtbdcjhoedhhabaaGreatC22
import Derived.Test.YtbdcjhoedhhabaaGreatC30
import Derived.Test.YtbdcjhoedhhabaaGreatC31
set_option linter.unusedSimpArgs false
set_option linter.unusedVariables false

/- CheckerHard: the law's walk. -/
namespace Go.Proofs.YtbdcjhoedhhabaaGreat
open Go.RowKit
attribute [local go_sem ↓] Go.wp_at_zero Go.wp_at_succ
attribute [local go_sem] beq_self_eq_true

set_option maxHeartbeats 4000000 in
theorem lmenu1_any (w : World) (A : Option Addr) (m c : Nat) :
 Calls Tryz.prog 118 (#[.slice A m c] ++ #[]) w fun e w' => Tells (70 < m) e ∧ Below w.heap.size w w' := by
 by_cases h : 70 < m
 ·have H := Lib.hid h
  have d1 : decide ((70 : Int) < (m : Int)) = true := decide_eq_true (by omega)
  have d2 : decide (70 < m) = true := decide_eq_true h
  clear h
  go_enter Tryz.func118, Tryz.ntmps118
  go_wp2_with fail
  go_ret
  exact ⟨by first | exact Tells.yes H.out | (rw [d1]; exact Tells.yes H.out), bel⟩
 ·have H : Hid (¬ 70 < m) := h
  have d1 : decide ((70 : Int) < (m : Int)) = false := decide_eq_false (by omega)
  have d2 : decide (70 < m) = false := decide_eq_false h
  clear h
  go_enter Tryz.func118, Tryz.ntmps118
  go_wp2_with fail
  go_ret
  exact ⟨by first | exact Tells.no H.out | (rw [d1]; exact Tells.no H.out), bel⟩

set_option maxHeartbeats 8000000 in
theorem lmenu_any (w : World) (ns : Int) (v : Value) (L : List (List Int)) (h : IMat w v L) :
 Calls Tryz.prog 41 #[.agg #[.int .i64 ns, v]] w fun e w' => (∃ b : Bool, e = .returned (.bool b)) ∧ Below w.heap.size w w' := by
 have H := Lib.hid h
 obtain ⟨A, cap, rfl, h, l1, l2⟩ := h.op
 clear h
 obtain ⟨m, hm⟩ : ∃ m, L.length = m := ⟨_, rfl⟩
 have H2 : Hid (IMat w (.slice A m cap) L) := by have h9 := H.out; rw [hm] at h9; exact h9
 rw [hm] at l1 ⊢
 clear hm H
 by_cases h0 : m ≤ 12
 ·have d1 : decide ((m : Int) ≤ 12) = true := decide_eq_true (by omega)
  have d1' : decide (m ≤ 12) = true := decide_eq_true h0
  clear h0
  go_enter Tryz.func41, Tryz.ntmps41
  go_wp2_with fail
  refine (containsI_any _ 118 #[] (fun l => 70 < l.length) _ L (H2.out.keep kp) (enters Tryz.func118 (by kernel_rfl) (by kernel_rfl)) (fun W A c l hW hl _ => lmenu1_any W A l.length c)).mono ?_
  rintro e w3 ⟨⟨b, rfl, -⟩, hb3⟩
  have y3 := hb3.size; (try simp only [zs] at y3)
  cases b
  ·go_wp2_with fail
   go_ret
   exact ⟨⟨_, rfl⟩, bel⟩
  ·go_wp2_with fail
   go_ret
   exact ⟨⟨_, rfl⟩, bel⟩
 ·have d1 : decide ((m : Int) ≤ 12) = false := decide_eq_false (by omega)
  have d1' : decide (m ≤ 12) = false := decide_eq_false h0
  clear h0
  go_enter Tryz.func41, Tryz.ntmps41
  go_wp2_with fail
  go_ret
  exact ⟨⟨_, rfl⟩, bel⟩

set_option maxRecDepth 100000 in
set_option maxHeartbeats 16000000 in
theorem hard48_walk (w : World) (ns : Int) (vm vt : Value) (L : List (List Int)) (l : List (Int × Int)) (depth : Int) (h : IMat w vm L) (ht : Tims w vt l) :
 Calls Tryz.prog 9 #[.agg #[.int .i64 ns, vm], vt, .int .i64 depth] w fun e w' => e = .returned (.bool true) ∧ Below w.heap.size w w' := by
 have H := Lib.hid h
 have HT := Lib.hid ht
 obtain ⟨A, cap0, rfl, h, l1, l2⟩ := h.op
 obtain ⟨B, cap1, rfl, ht, l3, l4⟩ := ht.op
 clear h ht
 obtain ⟨m, hml⟩ : ∃ m, L.length = m := ⟨_, rfl⟩
 have H2 : Hid (IMat w (.slice A m cap0) L) := by have h9 := H.out; rw [hml] at h9; exact h9
 obtain ⟨n, hn⟩ : ∃ n, l.length = n := ⟨_, rfl⟩
 have HT2 : Hid (Tims w (.slice B n cap1) l) := by have h9 := HT.out; rw [hn] at h9; exact h9
 rw [hml, hn]
 rw [hml] at l1
 rw [hn] at l3
 clear hml hn H HT
 have L1 := made1 w #[.int .i64 ns, .slice A m cap0] 84
 go_enter Tryz.func9, Tryz.ntmps9
 go_wp2_with fail
 refine (known48_any _).mono ?_
 rintro e w1 ⟨rfl, hb1⟩
 have y1 := hb1.size; (try simp only [zs] at y1)
 have LW : Hid (∀ W, Below w1.heap.size w1 W → W.cell? ⟨w.heap.size, 0, none⟩ = some (.int .i64 ns) ∧ W.cell? ⟨w.heap.size, 1, none⟩ = some (.slice A m cap0)) := fun W hW => by
  have L3 : Loc w1 w.heap.size 84 #[.int .i64 ns, .slice A m cap0] := L1.to
  have L4 := Loc.below L3 hW
  exact ⟨Loc.cell L4 0, Loc.cell L4 1⟩
 go_wp2_with fail
 refine wp_region_noPanic ?_
 refine wp_region_held_drew (S := (fun W => W.cell? ⟨w.heap.size, 0, none⟩ = some (.int .i64 ns) ∧ W.cell? ⟨w.heap.size, 1, none⟩ = some (.slice A m cap0))) (by kernel_rfl) ?_ (fun hHeld => ?_)
 ·exact LW.out _ bel
 refine takeT 0 hHeld ?_
 (try simp only [Act.put, ly])
 refine wpAnyH_ready (rs := [1]) (by kernel_rfl) (by simp) ?_
 refine AllReadyH.cons rfl (fun K hK => ?_) AllReadyH.nil
 go_simp
 refine (lmenu_any _ ns _ L (H2.out.keep kp)).mono ?_
 rintro e w2 ⟨⟨b, rfl⟩, hb2⟩
 have y2 := hb2.size; (try simp only [zs] at y2)
 (try go_wp2_with fail)
 refine hK.out _ _ ?_ (fun hHeld => ?_)
 ·(try dsimp only)
  exact LW.out _ bel
 clear hK K
 (try simp only [Act.put, ly])
 cases b
 case false =>
  refine takeT 2 hHeld ?_
  (try simp only [Act.put, ly])
  refine takeT 3 hHeld ?_
  (try simp only [Act.put, ly])
  refine offT 4 hHeld ?_
  refine offT 5 hHeld ?_
  refine offT 6 hHeld ?_
  (try simp only [Act.put, ly])
  refine takeT 7 hHeld ?_
  (try simp only [Act.put, ly])
  refine takeT 8 hHeld ?_
  (try simp only [Act.put, ly])
  refine offT 9 hHeld ?_
  refine offT 10 hHeld ?_
  refine offT 11 hHeld ?_
  refine offT 12 hHeld ?_
  refine offT 13 hHeld ?_
  refine offT 14 hHeld ?_
  refine offT 15 hHeld ?_
  refine offT 16 hHeld ?_
  refine offT 17 hHeld ?_
  (try simp only [Act.put, ly])
  refine takeT 18 hHeld ?_
  (try simp only [Act.put, ly])
  refine takeT 19 hHeld ?_
  (try simp only [Act.put, ly])
  refine wpAnyH_done (by kernel_rfl) ?_ _
  refine NoPanic.normal ?_
  go_wp2_with fail
  go_ret
  exact ⟨rfl, bel⟩
 by_cases h0 : 300 < n
 ·have d1 : decide ((300 : Int) < (n : Int)) = true := decide_eq_true (by omega)
  have d1' : decide (300 < n) = true := decide_eq_true h0
  refine takeT 2 hHeld ?_
  (try simp only [Act.put, ly])
  refine takeT 3 hHeld ?_
  (try simp only [Act.put, ly])
  refine takeT 4 hHeld ?_
  (try simp only [Act.put, ly])
  refine takeT 5 hHeld ?_
  (try simp only [Act.put, ly])
  refine takeT 6 hHeld ?_
  (try simp only [Act.put, ly])
  refine takeT 7 hHeld ?_
  (try simp only [Act.put, ly])
  refine takeT 8 hHeld ?_
  (try simp only [Act.put, ly])
  refine offT 9 hHeld ?_
  refine offT 10 hHeld ?_
  refine offT 11 hHeld ?_
  refine offT 12 hHeld ?_
  refine offT 13 hHeld ?_
  refine offT 14 hHeld ?_
  refine offT 15 hHeld ?_
  refine offT 16 hHeld ?_
  refine offT 17 hHeld ?_
  (try simp only [Act.put, ly])
  refine takeT 18 hHeld ?_
  (try simp only [Act.put, ly])
  refine takeT 19 hHeld ?_
  (try simp only [Act.put, ly])
  refine wpAnyH_done (by kernel_rfl) ?_ _
  refine NoPanic.normal ?_
  go_wp2_with fail
  go_ret
  exact ⟨rfl, bel⟩
 have d1 : decide ((300 : Int) < (n : Int)) = false := decide_eq_false (by omega)
 have d1' : decide (300 < n) = false := decide_eq_false h0
 clear h0
 refine takeT 2 hHeld ?_
 (try simp only [Act.put, ly])
 refine takeT 3 hHeld ?_
 (try simp only [Act.put, ly])
 refine takeT 4 hHeld ?_
 (try simp only [Act.put, ly])
 refine takeT 5 hHeld ?_
 (try simp only [Act.put, ly])
 refine takeT 6 hHeld ?_
 (try simp only [Act.put, ly])
 refine takeT 7 hHeld ?_
 (try simp only [Act.put, ly])
 refine takeT 8 hHeld ?_
 (try simp only [Act.put, ly])
 refine takeT 9 hHeld ?_
 (try simp only [Act.put, ly])
 refine takeT 10 hHeld ?_
 (try simp only [Act.put, ly])
 refine takeT 11 hHeld ?_
 (try simp only [Act.put, ly])
 refine takeT 13 hHeld ?_
 (try simp only [Act.put, ly])
 refine takeT 14 hHeld ?_
 (try simp only [Act.put, ly])
 refine takeT 15 hHeld ?_
 (try simp only [Act.put, ly])
 refine wpAnyH_ready (rs := [12]) (by kernel_rfl) (by simp) ?_
 refine AllReadyH.cons rfl (fun K hK => ?_) AllReadyH.nil
 go_simp
 refine (khard_any _ ns _ _ L l depth (H2.out.keep kp) (HT2.out.keep kp)).mono ?_
 rintro e w4 ⟨⟨r1, rfl, hr1⟩, hb4⟩
 have y4 := hb4.size; (try simp only [zs] at y4)
 (try go_wp2_with fail)
 refine hK.out _ _ ?_ (fun hHeld => ?_)
 ·(try dsimp only)
  exact LW.out _ bel
 clear hK K
 (try simp only [Act.put, ly])
 refine wpAnyH_ready (rs := [16]) (by kernel_rfl) (by simp) ?_
 refine AllReadyH.cons rfl (fun K hK => ?_) AllReadyH.nil
 go_simp
 refine (proveleast_any _ ns _ _ L l depth (H2.out.keep kp) (HT2.out.keep kp)).mono ?_
 rintro e w5 ⟨⟨r2, rfl, hr2⟩, hb5⟩
 have y5 := hb5.size; (try simp only [zs] at y5)
 obtain rfl := hr1.out.eq hr2.out
 clear hr1 hr2
 (try go_wp2_with fail)
 refine hK.out _ _ ?_ (fun hHeld => ?_)
 ·(try dsimp only)
  exact LW.out _ bel
 clear hK K
 (try simp only [Act.put, ly])
 refine takeT 17 hHeld ?_
 (try simp only [Act.put, ly])
 refine takeT 18 hHeld ?_
 (try simp only [Act.put, ly])
 refine takeT 19 hHeld ?_
 (try simp only [Act.put, ly])
 refine wpAnyH_done (by kernel_rfl) ?_ _
 refine NoPanic.normal ?_
 go_wp2_with fail
 go_ret
 exact ⟨rfl, bel⟩
end Go.Proofs.YtbdcjhoedhhabaaGreat

/- The statement 'CheckerHard' out of its walk. The frame is the guide's own (proof-skeleton), printed by lawgen.py. -/
namespace Go.Proofs.YtbdcjhoedhhabaaGreat.checkerHard
open Go.ChangeShapes Go.WideShapes Go.ChangeAt Go.RowKit Go.Proofs.YtbdcjhoedhhabaaGreat
open Go.ChangeMaps (open_string shut_string)
set_option linter.unusedVariables false

set_option maxRecDepth 100000 in
theorem lifted (os : Os) (started : os.Started) (H : Type) (enc : TypeId × Value → H) :
 ReturnsInHanded {} Tryz.checked os 9 .any (Rows.checkerHardSpec.pre6 enc Tryz.prog Tryz.f9 Rows.checkerHardRow.domain false) (Rows.checkerHardSpec.post enc Tryz.prog Tryz.f9 false true false false) := by
 refine returnsInHanded_of_change (C := Tryz.checked) own started (by kernel_rfl) Tryz.func9
  (ChangeSpec.witness6 (enc := enc) (C := Tryz.checked) false ⟨#[], #[.agg #[.int .i64 0, .slice none 0 0], .slice none 0 0, .int .i64 0], []⟩ 8 (by kernel_rfl) (by kernel_rfl) (by kernel_rfl) (by kernel_rfl)) ?_
 intro W base args ds gs before hval0 hW hcnd _
 have hval : ∀ (j : Nat) t v, Tryz.f9.params[j]? = some t → args[j]? = some v → Value.okWide Tryz.prog W .any base t v := hval0
 have hW' := hW
 obtain ⟨p, q, hA0, hV, rfl, hfz, hnd⟩ := hW
 have hA : DataW.TrodAll enc Tryz.prog W 0 (fun _ => true) true Tryz.f9.params.toList args.toList ds p := hA0
 rw [Tryz.params9] at hA hval
 obtain ⟨v0, vs0, d0, ds0, p0, q0, hargs, rfl, rfl, h0, r0⟩ := trodAll_cons hA
 obtain ⟨v1, vs1, d1, ds1, p1, q1, rfl, rfl, rfl, h1, r1⟩ := trodAll_cons r0
 obtain ⟨v2, vs2, d2, ds2, p2, q2, rfl, rfl, rfl, h2, r2⟩ := trodAll_cons r1
 obtain ⟨rfl, rfl, rfl⟩ := trodAll_nil r2
 obtain rfl : args = #[v0, v1, v2] := by cases args; simp_all
 obtain ⟨rfl, rfl⟩ := trodVars_none hV
 have lt0 : ∀ x ∈ p0, x.block < W.heap.size := by obtain ⟨m, hm⟩ := h0; exact DataW.trod_lt m _ _ _ hm
 have k0 := fun (W' : World) (bel : Below W.heap.size W W') => Below.trod laidOut (by kernel_rfl) (of_decide_eq_true (by kernel_rfl)) h0 bel lt0
 obtain ⟨ns0, u0, L0, e0, ha0⟩ := open_Menu (hval 0 84 v0 rfl rfl) h0
 have lt1 : ∀ x ∈ p1, x.block < W.heap.size := by obtain ⟨m, hm⟩ := h1; exact DataW.trod_lt m _ _ _ hm
 have k1 := fun (W' : World) (bel : Below W.heap.size W W') => Below.trod laidOut (by kernel_rfl) (of_decide_eq_true (by kernel_rfl)) h1 bel lt1
 obtain ⟨l1, ha1⟩ := open_Hards (hval 1 85 v1 rfl rfl) h1
 have lt2 : ∀ x ∈ p2, x.block < W.heap.size := by obtain ⟨m, hm⟩ := h2; exact DataW.trod_lt m _ _ _ hm
 have k2 := fun (W' : World) (bel : Below W.heap.size W W') => Below.trod laidOut (by kernel_rfl) (of_decide_eq_true (by kernel_rfl)) h2 bel lt2
 obtain ⟨a2, e2, _, _, w2⟩ := open_int Tryz.underlying3 (hval 2 3 v2 rfl rfl) h2
 have b2 := bounds_i64 w2
 subst e0
 subst e2
 refine (hard48_walk _ _ _ _ _ _ _ ha0 ha1).mono fun e W' ⟨he, bel⟩ => ?_
 subst he
 exact ⟨_, rfl, _, _, _, [], _, [], hW', trodAll_mk1 (shut_bool Tryz.underlying4 _), (trodAll_cons_mk (k0 _ bel) (trodAll_cons_mk (k1 _ bel) (trodAll_cons_mk (k2 _ bel) trodAll_mk0))), rfl, bel.frame _, fun h => by cases h⟩

theorem in_place : (Rows.checkerHardRow.inPlace == Tryz.prog.inPlace 9) = true := by kernel_rfl
theorem unfollowed : (Rows.checkerHardRow.unfollowed == Tryz.prog.unfollowed 9) = true := by kernel_rfl
theorem recurses : (Rows.checkerHardRow.recurses == Tryz.prog.recurses 9) = true := by kernel_rfl
theorem named : (Rows.checkerHardRow.named == Tryz.prog.varsNamed 9) = true := by kernel_rfl
theorem cheap : cheapFacts Tryz.prog Tryz.f9 Rows.checkerHardSpec Rows.checkerHardRow = true := by kernel_rfl

theorem over : Rows.checkerHardRow.holds Tryz.pinned (OpenSpec.ofChange Rows.checkerHardSpec) :=
 OpenClaim.holds_of_wide 9 Tryz.f9 rfl rfl rfl rfl rfl rfl rfl ⟨rfl, rfl, rfl, rfl, rfl⟩ rfl rfl rfl rfl rfl (by kernel_rfl) Tryz.func9 (joined_mk laidOut rowed in_place unfollowed recurses named cheap)
  (of_decide_eq_true (by kernel_rfl)) (by unfold Func.isWrapper; first | (rw [if_pos (by decide +kernel)]; kernel_rfl) | (rw [if_neg (by decide +kernel)]; exact ⟨rfl, rfl⟩))
  (fun os started H enc _ => lifted os started H enc)

/-- The statement: for every input the law returns true; each argument reads behind the call as it read before. -/
theorem proved : Rows.CheckerHardSaid := over
end Go.Proofs.YtbdcjhoedhhabaaGreat.checkerHard

