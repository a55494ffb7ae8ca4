/- For every input the law returns true: the law's walk, and the statement out of it. -/
import Derived.Test.YtbdcjhoedhhabaaGreatRows
import Derived.Test.YtbdcjhoedhhabaaGreatD19
import Derived.Test.YtbdcjhoedhhabaaGreatD20
import Derived.Test.YtbdcjhoedhhabaaGreatD22
import Derived.Test.YtbdcjhoedhhabaaGreatD26
import Derived.Test.YtbdcjhoedhhabaaGreatD30
import Derived.Test.YtbdcjhoedhhabaaGreatD31
import Derived.Test.YtbdcjhoedhhabaaGreatD32
set_option linter.unusedSimpArgs false
set_option linter.unusedVariables false

/- CheckerBellman: the law's walk. -/
namespace Go.Proofs.YtbdcjhoedhhabaaGreat
open Go.RowKit
attribute [local go_sem ↓] Go.wp_at_zero Go.wp_at_succ
attribute [local go_sem] beq_self_eq_true

set_option maxHeartbeats 4000000 in
theorem lbell1_any (w : World) (A : Option Addr) (m c : Nat) :
 Calls Tryz.prog 52 (#[.slice A m c] ++ #[]) w fun e w' => Tells (70 < m) e ∧ Below w.heap.size w w' := by
 by_cases h : 70 < m
 ·have H := Lib.hid h
  have d1 : decide ((70 : Int) < (m : Int)) = true := decide_eq_true (by omega)
  have d2 : decide (70 < m) = true := decide_eq_true h
  clear h
  go_enter Tryz.func52, Tryz.ntmps52
  go_wp2_with fail
  go_ret
  exact ⟨by first | exact Tells.yes H.out | (rw [d1]; exact Tells.yes H.out), bel⟩
 ·have H : Hid (¬ 70 < m) := h
  have d1 : decide ((70 : Int) < (m : Int)) = false := decide_eq_false (by omega)
  have d2 : decide (70 < m) = false := decide_eq_false h
  clear h
  go_enter Tryz.func52, Tryz.ntmps52
  go_wp2_with fail
  go_ret
  exact ⟨by first | exact Tells.no H.out | (rw [d1]; exact Tells.no H.out), bel⟩

set_option maxRecDepth 100000 in
set_option maxHeartbeats 16000000 in
theorem bellman48_walk (w : World) (ns : Int) (vm vg vt : Value) (L G : List (List Int)) (left bound : Int) (l : List (Int × Int × Int)) (h : IMat w vm L) (hg : IMat w vg G) (ht : Bels w vt l) :
 Calls Tryz.prog 11 #[.agg #[.int .i64 ns, vm], vg, .agg #[.int .i64 left, vt, .int .i64 bound]] w fun e w' => e = .returned (.bool true) ∧ Below w.heap.size w w' := by
 have H := Lib.hid h
 have HG := Lib.hid hg
 have HT := Lib.hid ht
 obtain ⟨A, cap0, rfl, h, l1, l2⟩ := h.op
 obtain ⟨D, cap2, rfl, hg, l5, l6⟩ := hg.op
 obtain ⟨B, cap1, rfl, ht, l3, l4⟩ := ht.op
 clear h ht hg
 obtain ⟨m, hml⟩ : ∃ m, L.length = m := ⟨_, rfl⟩
 have H2 : Hid (IMat w (.slice A m cap0) L) := by have h9 := H.out; rw [hml] at h9; exact h9
 obtain ⟨g, hgl⟩ : ∃ g, G.length = g := ⟨_, rfl⟩
 have HG2 : Hid (IMat w (.slice D g cap2) G) := by have h9 := HG.out; rw [hgl] at h9; exact h9
 obtain ⟨n, hn⟩ : ∃ n, l.length = n := ⟨_, rfl⟩
 have HT2 : Hid (Bels w (.slice B n cap1) l) := by have h9 := HT.out; rw [hn] at h9; exact h9
 rw [hml, hn, hgl]
 rw [hml] at l1
 rw [hn] at l3
 rw [hgl] at l5
 clear hml hn hgl H HT HG
 have L1 := made1 w #[.int .i64 ns, .slice A m cap0] 84
 have L2 := made2 w (.cells #[.int .i64 ns, .slice A m cap0] 84) #[.int .i64 left, .slice B n cap1, .int .i64 bound] 103
 go_enter Tryz.func11, Tryz.ntmps11
 go_wp2_with fail
 refine (known48_any _).mono ?_
 rintro e w1 ⟨rfl, hb1⟩
 have y1 := hb1.size; (try simp only [zs] at y1)
 have HL1 : Hid (Loc w1 w.heap.size 84 #[.int .i64 ns, .slice A m cap0]) := by show Loc _ _ _ _; exact L1.to
 have HL2 : Hid (Loc w1 (w.heap.size + 1) 103 #[.int .i64 left, .slice B n cap1, .int .i64 bound]) := by show Loc _ _ _ _; exact Loc.below L2 hb1
 have HB1 : Hid (Below w.heap.size w w1) := by show Below _ _ _; exact bel
 clear L1 L2 hb1
 obtain ⟨e1, f1, -⟩ := Loc.all HL1.out (w' := w1)
 go_wp2_with fail
 refine (lmenu_any _ ns _ L (H2.out.keep (.of_below HB1.out))).mono ?_
 rintro e w2 ⟨⟨b, rfl⟩, hb2⟩
 have y2 := hb2.size; (try simp only [zs] at y2)
 have HM2 : Hid (Loc w2 w.heap.size 84 #[.int .i64 ns, .slice A m cap0]) := Loc.below HL1.out hb2
 have HX2 : Hid (Loc w2 (w.heap.size + 1) 103 #[.int .i64 left, .slice B n cap1, .int .i64 bound]) := Loc.below HL2.out hb2
 have HB2 : Hid (Below w.heap.size w w2) := HB1.out.trans (hb2.mono HB1.out.size)
 clear e1 f1 hb2 HL1 HL2 HB1
 obtain ⟨e1, f1, -⟩ := Loc.all HX2.out (w' := w2)
 cases b
 case false =>
  go_wp2_with fail
  go_ret
  exact ⟨rfl, HB2.out⟩
 by_cases h0 : 70 < g
 ·have d1 : decide ((70 : Int) < (g : Int)) = true := decide_eq_true (by omega)
  have d1' : decide (70 < g) = true := decide_eq_true h0
  clear h0
  go_wp2_with fail
  go_ret
  exact ⟨rfl, HB2.out⟩
 have d1 : decide ((70 : Int) < (g : Int)) = false := decide_eq_false (by omega)
 have d1' : decide (70 < g) = false := decide_eq_false h0
 by_cases h2 : 300 < n
 ·have d2 : decide ((300 : Int) < (n : Int)) = true := decide_eq_true (by omega)
  have d2' : decide (300 < n) = true := decide_eq_true h2
  clear h0 h2
  go_wp2_with fail
  go_ret
  exact ⟨rfl, HB2.out⟩
 have d2 : decide ((300 : Int) < (n : Int)) = false := decide_eq_false (by omega)
 have d2' : decide (300 < n) = false := decide_eq_false h2
 clear h0 h2
 go_wp2_with fail
 refine (containsG_any _ 52 #[] (fun l => 70 < l.length) _ G (HG2.out.keep (.of_below HB2.out)) (enters Tryz.func52 (by kernel_rfl) (by kernel_rfl)) (fun W A c l hW hl _ => lbell1_any W A l.length c)).mono ?_
 rintro e w3 ⟨⟨b3, rfl, -⟩, hb3⟩
 have y3 := hb3.size; (try simp only [zs] at y3)
 have HM3 : Hid (Loc w3 w.heap.size 84 #[.int .i64 ns, .slice A m cap0]) := Loc.below HM2.out hb3
 have HX3 : Hid (Loc w3 (w.heap.size + 1) 103 #[.int .i64 left, .slice B n cap1, .int .i64 bound]) := Loc.below HX2.out hb3
 have HB3 : Hid (Below w.heap.size w w3) := HB2.out.trans (hb3.mono HB2.out.size)
 clear e1 f1 hb3 HM2 HX2 HB2
 cases b3
 case true =>
  go_wp2_with fail
  go_ret
  exact ⟨rfl, HB3.out⟩
 have LW : Hid (∀ W, Below w3.heap.size w3 W → (W.cell? ⟨w.heap.size, 0, none⟩ = some (.int .i64 ns) ∧ W.cell? ⟨w.heap.size, 1, none⟩ = some (.slice A m cap0)) ∧ (W.cell? ⟨w.heap.size + 1, 0, none⟩ = some (.int .i64 left) ∧ W.cell? ⟨w.heap.size + 1, 1, none⟩ = some (.slice B n cap1)) ∧ W.cell? ⟨w.heap.size + 1, 2, none⟩ = some (.int .i64 bound)) := fun W hW => ⟨⟨Loc.cell (Loc.below HM3.out hW) 0, Loc.cell (Loc.below HM3.out hW) 1⟩, ⟨Loc.cell (Loc.below HX3.out hW) 0, Loc.cell (Loc.below HX3.out hW) 1⟩, Loc.cell (Loc.below HX3.out hW) 2⟩
 have hw3 : w.heap.size ≤ w3.heap.size := HB3.out.size
 go_wp2_with fail
 refine wp_region_noPanic ?_
 refine wp_region_held_drew (S := (fun W => (W.cell? ⟨w.heap.size, 0, none⟩ = some (.int .i64 ns) ∧ W.cell? ⟨w.heap.size, 1, none⟩ = some (.slice A m cap0)) ∧ (W.cell? ⟨w.heap.size + 1, 0, none⟩ = some (.int .i64 left) ∧ W.cell? ⟨w.heap.size + 1, 1, none⟩ = some (.slice B n cap1)) ∧ W.cell? ⟨w.heap.size + 1, 2, none⟩ = some (.int .i64 bound))) (by kernel_rfl) ?_ (fun hHeld => ?_)
 ·exact LW.out _ ((Below.refl _ _).drew)
 refine takeT 0 hHeld ?_
 (try simp only [Act.put, ly])
 refine takeT 1 hHeld ?_
 (try simp only [Act.put, ly])
 refine takeT 2 hHeld ?_
 (try simp only [Act.put, ly])
 refine takeT 3 hHeld ?_
 (try simp only [Act.put, ly])
 refine takeT 4 hHeld ?_
 (try simp only [Act.put, ly])
 refine takeT 5 hHeld ?_
 (try simp only [Act.put, ly])
 refine takeT 6 hHeld ?_
 (try simp only [Act.put, ly])
 refine takeT 7 hHeld ?_
 (try simp only [Act.put, ly])
 refine takeT 9 hHeld ?_
 (try simp only [Act.put, ly])
 refine takeT 10 hHeld ?_
 (try simp only [Act.put, ly])
 refine takeT 11 hHeld ?_
 (try simp only [Act.put, ly])
 refine takeT 12 hHeld ?_
 (try simp only [Act.put, ly])
 refine takeT 13 hHeld ?_
 (try simp only [Act.put, ly])
 refine takeT 14 hHeld ?_
 (try simp only [Act.put, ly])
 refine takeT 15 hHeld ?_
 (try simp only [Act.put, ly])
 refine takeT 16 hHeld ?_
 (try simp only [Act.put, ly])
 refine wpAnyH_ready (rs := [8]) (by kernel_rfl) (by simp) ?_
 refine AllReadyH.cons rfl (fun K hK => ?_) AllReadyH.nil
 go_simp
 refine (kbellman_any _ ns _ _ _ L G left l bound (H2.out.keep (.of_below (HB3.out.trans (((Below.refl _ _).drew).mono hw3)))) (HG2.out.keep (.of_below (HB3.out.trans (((Below.refl _ _).drew).mono hw3)))) (HT2.out.keep (.of_below (HB3.out.trans (((Below.refl _ _).drew).mono hw3))))).mono ?_
 rintro e w4 ⟨⟨r1, rfl, hr1⟩, hb4⟩
 have hb4 : Below w3.heap.size w3 w4 := ((Below.refl _ _).drew).trans hb4
 have y4 := hb4.size; (try simp only [zs] at y4)
 (try go_wp2_with fail)
 refine hK.out _ _ ?_ (fun hHeld => ?_)
 ·(try dsimp only)
  exact LW.out _ hb4
 clear hK K
 (try simp only [Act.put, ly])
 refine wpAnyH_ready (rs := [17]) (by kernel_rfl) (by simp) ?_
 refine AllReadyH.cons rfl (fun K hK => ?_) AllReadyH.nil
 go_simp
 refine (aprove_any _ ns _ _ _ L G left l bound (H2.out.keep (.of_below (HB3.out.trans (hb4.mono hw3)))) (HG2.out.keep (.of_below (HB3.out.trans (hb4.mono hw3)))) (HT2.out.keep (.of_below (HB3.out.trans (hb4.mono hw3))))).mono ?_
 rintro e w5 ⟨⟨r2, rfl, hr2⟩, hb5⟩
 have hb5 : Below w3.heap.size w3 w5 := hb4.trans (hb5.mono (by omega))
 have y5 := hb5.size; (try simp only [zs] at y5)
 obtain rfl := hr1.out.eq hr2.out
 clear hr1 hr2
 (try go_wp2_with fail)
 refine hK.out _ _ ?_ (fun hHeld => ?_)
 ·(try dsimp only)
  exact LW.out _ hb5
 clear hK K
 (try simp only [Act.put, ly])
 refine takeT 18 hHeld ?_
 (try simp only [Act.put, ly])
 refine takeT 19 hHeld ?_
 (try simp only [Act.put, ly])
 refine wpAnyH_done (by kernel_rfl) ?_ _
 refine NoPanic.normal ?_
 go_wp2_with fail
 go_ret
 exact ⟨rfl, HB3.out.trans (hb5.mono hw3)⟩
end Go.Proofs.YtbdcjhoedhhabaaGreat

/- The statement 'CheckerBellman' out of its walk. The frame is the guide's own (proof-skeleton), printed by lawgen.py. -/
namespace Go.Proofs.YtbdcjhoedhhabaaGreat.checkerBellman
open Go.ChangeShapes Go.WideShapes Go.ChangeAt Go.RowKit Go.Proofs.YtbdcjhoedhhabaaGreat
open Go.ChangeMaps (open_string shut_string)
set_option linter.unusedVariables false

set_option maxRecDepth 100000 in
theorem lifted (os : Os) (started : os.Started) (H : Type) (enc : TypeId × Value → H) :
 ReturnsInHanded {} Tryz.checked os 11 .any (Rows.checkerBellmanSpec.pre6 enc Tryz.prog Tryz.f11 Rows.checkerBellmanRow.domain false) (Rows.checkerBellmanSpec.post enc Tryz.prog Tryz.f11 false true false false) := by
 refine returnsInHanded_of_change (C := Tryz.checked) own started (by kernel_rfl) Tryz.func11
  (ChangeSpec.witness6 (enc := enc) (C := Tryz.checked) false ⟨#[], #[.agg #[.int .i64 0, .slice none 0 0], .slice none 0 0, .agg #[.int .i64 0, .slice none 0 0, .int .i64 0]], []⟩ 8 (by kernel_rfl) (by kernel_rfl) (by kernel_rfl) (by kernel_rfl)) ?_
 intro W base args ds gs before hval0 hW hcnd _
 have hval : ∀ (j : Nat) t v, Tryz.f11.params[j]? = some t → args[j]? = some v → Value.okWide Tryz.prog W .any base t v := hval0
 have hW' := hW
 obtain ⟨p, q, hA0, hV, rfl, hfz, hnd⟩ := hW
 have hA : DataW.TrodAll enc Tryz.prog W 0 (fun _ => true) true Tryz.f11.params.toList args.toList ds p := hA0
 rw [Tryz.params11] at hA hval
 obtain ⟨v0, vs0, d0, ds0, p0, q0, hargs, rfl, rfl, h0, r0⟩ := trodAll_cons hA
 obtain ⟨v1, vs1, d1, ds1, p1, q1, rfl, rfl, rfl, h1, r1⟩ := trodAll_cons r0
 obtain ⟨v2, vs2, d2, ds2, p2, q2, rfl, rfl, rfl, h2, r2⟩ := trodAll_cons r1
 obtain ⟨rfl, rfl, rfl⟩ := trodAll_nil r2
 obtain rfl : args = #[v0, v1, v2] := by cases args; simp_all
 obtain ⟨rfl, rfl⟩ := trodVars_none hV
 have lt0 : ∀ x ∈ p0, x.block < W.heap.size := by obtain ⟨m, hm⟩ := h0; exact DataW.trod_lt m _ _ _ hm
 have k0 := fun (W' : World) (bel : Below W.heap.size W W') => Below.trod laidOut (by kernel_rfl) (of_decide_eq_true (by kernel_rfl)) h0 bel lt0
 obtain ⟨ns0, u0, L0, e0, ha0⟩ := open_Menu (hval 0 84 v0 rfl rfl) h0
 have lt1 : ∀ x ∈ p1, x.block < W.heap.size := by obtain ⟨m, hm⟩ := h1; exact DataW.trod_lt m _ _ _ hm
 have k1 := fun (W' : World) (bel : Below W.heap.size W W') => Below.trod laidOut (by kernel_rfl) (of_decide_eq_true (by kernel_rfl)) h1 bel lt1
 obtain ⟨L1, ha1⟩ := open_Gain (hval 1 100 v1 rfl rfl) h1
 have lt2 : ∀ x ∈ p2, x.block < W.heap.size := by obtain ⟨m, hm⟩ := h2; exact DataW.trod_lt m _ _ _ hm
 have k2 := fun (W' : World) (bel : Below W.heap.size W W') => Below.trod laidOut (by kernel_rfl) (of_decide_eq_true (by kernel_rfl)) h2 bel lt2
 obtain ⟨k2_, c2, u2, l2, e2, ha2⟩ := open_Bounded (hval 2 103 v2 rfl rfl) h2
 subst e0
 subst e2
 refine (bellman48_walk _ _ _ _ _ _ _ _ _ _ ha0 ha1 ha2).mono fun e W' ⟨he, bel⟩ => ?_
 subst he
 exact ⟨_, rfl, _, _, _, [], _, [], hW', trodAll_mk1 (shut_bool Tryz.underlying4 _), (trodAll_cons_mk (k0 _ bel) (trodAll_cons_mk (k1 _ bel) (trodAll_cons_mk (k2 _ bel) trodAll_mk0))), rfl, bel.frame _, fun h => by cases h⟩

theorem in_place : (Rows.checkerBellmanRow.inPlace == Tryz.prog.inPlace 11) = true := by kernel_rfl
theorem unfollowed : (Rows.checkerBellmanRow.unfollowed == Tryz.prog.unfollowed 11) = true := by kernel_rfl
theorem recurses : (Rows.checkerBellmanRow.recurses == Tryz.prog.recurses 11) = true := by kernel_rfl
theorem named : (Rows.checkerBellmanRow.named == Tryz.prog.varsNamed 11) = true := by kernel_rfl
theorem cheap : cheapFacts Tryz.prog Tryz.f11 Rows.checkerBellmanSpec Rows.checkerBellmanRow = true := by kernel_rfl

theorem over : Rows.checkerBellmanRow.holds Tryz.pinned (OpenSpec.ofChange Rows.checkerBellmanSpec) :=
 OpenClaim.holds_of_wide 11 Tryz.f11 rfl rfl rfl rfl rfl rfl rfl ⟨rfl, rfl, rfl, rfl, rfl⟩ rfl rfl rfl rfl rfl (by kernel_rfl) Tryz.func11 (joined_mk laidOut rowed in_place unfollowed recurses named cheap)
  (of_decide_eq_true (by kernel_rfl)) (by unfold Func.isWrapper; first | (rw [if_pos (by decide +kernel)]; kernel_rfl) | (rw [if_neg (by decide +kernel)]; exact ⟨rfl, rfl⟩))
  (fun os started H enc _ => lifted os started H enc)

/-- The statement: for every input the law returns true; each argument reads behind the call as it read before. -/
theorem proved : Rows.CheckerBellmanSaid := over
end Go.Proofs.YtbdcjhoedhhabaaGreat.checkerBellman

