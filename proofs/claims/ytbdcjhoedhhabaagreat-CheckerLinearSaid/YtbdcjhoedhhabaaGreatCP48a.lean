/- For every input the law returns true: the law's walk, and the statement out of it. -/
import Derived.Test.YtbdcjhoedhhabaaGreatRows
import Derived.Test.YtbdcjhoedhhabaaGreatA19
import Derived.Test.YtbdcjhoedhhabaaGreatA30
import Derived.Test.YtbdcjhoedhhabaaGreatA32
import Derived.Test.YtbdcjhoedhhabaaGreatA34
import Derived.Test.YtbdcjhoedhhabaaGreatA35
set_option linter.unusedSimpArgs false
set_option linter.unusedVariables false

/- CheckerLinear: the law's walk. -/
namespace Go.Proofs.YtbdcjhoedhhabaaGreat
open Go.RowKit
attribute [local go_sem ↓] Go.wp_at_zero Go.wp_at_succ
attribute [local go_sem] beq_self_eq_true

/-- A list of lists of raw fractions, laid as a block. -/
theorem RMat.of {w : World} {g : Nat} {L : List (List RF)} {cs : Array Value} (hl : Loc w g 71 cs) (h : ∀ (i : Nat) (l : List RF), L[i]? = some l → ∃ B c, cs[i]? = some (.slice B l.length c) ∧ Rats w (fun _ => False) (.slice B l.length c) l) {n : Nat} (hn : L.length = n) (hm : n ≤ maxLen) :
 RMat w (.slice (some ⟨g, 0, none⟩) n n) L := by
 subst hn
 refine ⟨_, _, rfl, Nat.le_refl _, hm, fun _ => ⟨_, rfl, hl.lt, fun i l he => ?_⟩⟩
 obtain ⟨B, c, h1, h2⟩ := h i l he
 refine ⟨B, c, ?_, h2⟩
 have e : ((⟨g, 0, none⟩ : Addr).add i) = ⟨g, i, none⟩ := (add_at g 0 i).trans (by rw [Nat.zero_add])
 rw [e]
 unfold Loc at hl
 simp only [World.cell?, hl]
 exact h1

set_option maxRecDepth 100000 in
set_option maxHeartbeats 16000000 in
theorem linear48_walk (w : World) (va vb vx vy : Value) (feas : Bool) (L : List (List RF)) (l lx ly : List RF) (hA : RMat w va L) (hB : Rats w (fun _ => False) vb l) (hX : Rats w (fun _ => False) vx lx) (hY : Rats w (fun _ => False) vy ly) :
 Calls Tryz.prog 7 #[.agg #[va, vb], .agg #[.bool feas, vx, vy]] w fun e w' => e = .returned (.bool true) ∧ Below w.heap.size w w' := by
 have HA := Lib.hid hA
 have HB := Lib.hid hB
 have HX := Lib.hid hX
 have HY := Lib.hid hY
 obtain ⟨A, cA, rfl, hA, la1, la2⟩ := hA.op
 obtain ⟨B, cB, rfl, hB, lb1, lb2⟩ := hB.op
 obtain ⟨C, cC, rfl, hX, lx1, lx2⟩ := hX.op
 obtain ⟨E, cE, rfl, hY, ly1, ly2⟩ := hY.op
 clear hA hB hX hY
 obtain ⟨m, hm⟩ : ∃ m, L.length = m := ⟨_, rfl⟩
 have HM := Lib.hid hm
 have HA2 : Hid (RMat w (.slice A m cA) L) := by have := HA.out; rw [hm] at this; exact this
 rw [hm] at la1 ⊢
 clear hm
 have L1 := made1 w #[.slice A m cA, .slice B l.length cB] 73
 have L2 := made2 w (.cells #[.slice A m cA, .slice B l.length cB] 73) #[.bool feas, .slice C lx.length cC, .slice E ly.length cE] 75
 go_enter Tryz.func7, Tryz.ntmps7
 go_wp2_with fail
 refine (known48_any _).mono ?_
 rintro e w1 ⟨rfl, hb1⟩
 obtain ⟨z1, z2⟩ := sz2 hb1
 obtain ⟨e1, f1, l1⟩ := L1.all (w' := w1)
 obtain ⟨e2, f2, l2⟩ := L2.all (w' := w1)
 by_cases h6 : 6 < m
 ·have d1 : decide ((6 : Int) < (m : Int)) = true := decide_eq_true (by omega)
  go_wp2_with fail
  go_ret
  exact ⟨rfl, bel⟩
 have d1 : decide ((6 : Int) < (m : Int)) = false := decide_eq_false (by omega)
 have hl6 : m ≤ 6 := by omega
 have HR1 : Hid (∀ W g, Keep (fun _ => False) w W → Loc W g 71 #[.slice B l.length cB] → RMat W (.slice (some ⟨g, 0, none⟩) 1 1) [l]) := fun W g hW hl => RMat.of (L := [l]) hl (fun i l' hi => by
  match i, hi with
  | 0, hi => injection hi with hi; subst hi; exact ⟨B, cB, rfl, HB.out.keep hW⟩) rfl (by decide)
 have HR2 : Hid (∀ W g, Keep (fun _ => False) w W → Loc W g 71 #[.slice C lx.length cC, .slice E ly.length cE] → RMat W (.slice (some ⟨g, 0, none⟩) 2 2) [lx, ly]) := fun W g hW hl => RMat.of (L := [lx, ly]) hl (fun i l' hi => by
  match i, hi with
  | 0, hi => injection hi with hi; subst hi; exact ⟨C, cC, rfl, HX.out.keep hW⟩
  | 1, hi => injection hi with hi; subst hi; exact ⟨E, cE, rfl, HY.out.keep hW⟩) rfl (by decide)
 clear h6
 go_wp2_with fail
 refine (rats_any _ 8 _ L (HA2.out.keep kp) (by decide) (by rw [HM.out]; omega)).mono ?_
 rintro e w2 ⟨⟨b, rfl, hb⟩, hb2⟩
 have y2 := hb2.size; (try simp only [zs] at y2)
 clear e1 f1 l1 e2 f2 l2
 obtain ⟨e1, f1, l1⟩ := L1.all (w' := w2)
 obtain ⟨e2, f2, l2⟩ := L2.all (w' := w2)
 cases b
 ·clear hb
  go_wp2_with fail
  go_ret
  exact ⟨rfl, bel⟩
 have HF1 : Hid (TK 8 L) := hb.out.1 rfl
 clear hb
 go_wp2_with fail
 refine (rats_any _ 8 _ [l] (HR1.out _ _ kp (made1 w2 #[.slice B l.length cB] 71)) (by decide) (by simp)).mono ?_
 rintro e w3 ⟨⟨b, rfl, hb⟩, hb3⟩
 have y3 := hb3.size; (try simp only [zs] at y3)
 clear e1 f1 l1 e2 f2 l2
 obtain ⟨e1, f1, l1⟩ := L1.all (w' := w3)
 obtain ⟨e2, f2, l2⟩ := L2.all (w' := w3)
 cases b
 ·clear hb
  go_wp2_with fail
  go_ret
  exact ⟨rfl, bel⟩
 have HF2 : Hid (TK 8 [l]) := hb.out.1 rfl
 clear hb
 go_wp2_with fail
 refine (rats_any _ 10 _ [lx, ly] (HR2.out _ _ kp (made1 w3 #[.slice C lx.length cC, .slice E ly.length cE] 71)) (by decide) (by simp)).mono ?_
 rintro e w4 ⟨⟨b, rfl, hb⟩, hb4⟩
 have y4 := hb4.size; (try simp only [zs] at y4)
 clear e1 f1 l1 e2 f2 l2
 obtain ⟨e1, f1, l1⟩ := L1.all (w' := w4)
 obtain ⟨e2, f2, l2⟩ := L2.all (w' := w4)
 cases b
 ·clear hb
  go_wp2_with fail
  go_ret
  exact ⟨rfl, bel⟩
 have HF3 : Hid (TK 10 [lx, ly]) := hb.out.1 rfl
 clear hb
 have HS : Hid (∀ W, Keep (fun _ => False) w W → Sys 2 W (.agg #[.slice A m cA, .slice B l.length cB]) m l.length (lens L) (qm L) (qs l)) := fun W hW => by
  have h1 := (HA2.out.keep hW).mat (fun i l' hl j e he => (HF1.out l' (List.mem_of_getElem? hl)).2 e (List.mem_of_getElem? he))
  rw [HM.out] at h1
  exact ⟨A, cA, B, cB, rfl, h1, (HB.out.keep hW).nums fun i e he => (HF2.out l (by simp)).2 e (List.mem_of_getElem? he)⟩
 have HNX : Hid (∀ W, Keep (fun _ => False) w W → Nums 2 W (fun _ => False) (.slice C lx.length cC) lx.length (qs lx)) := fun W hW => (HX.out.keep hW).nums fun i e he => (HF3.out lx (by simp)).2 e (List.mem_of_getElem? he)
 have HNY : Hid (∀ W, Keep (fun _ => False) w W → Nums 2 W (fun _ => False) (.slice E ly.length cE) ly.length (qs ly)) := fun W hW => (HY.out.keep hW).nums fun i e he => (HF3.out ly (by simp)).2 e (List.mem_of_getElem? he)
 obtain ⟨b1, T1⟩ := tell (VS m l.length (lens L))
 obtain ⟨b2, T2⟩ := tell (RS feas m l.length (lens L) (qm L) (qs l) lx.length (qs lx) ly.length (qs ly))
 go_wp2_with fail
 obtain ⟨A0, c0, B0, d0, hv0, hA0, hB0⟩ := HS.out w4 kp
 injection hv0 with hv0
 injection hv0 with hv0
 injection hv0 with hv0 hv1
 injection hv1 with hv1 _
 injection hv0 with q1 _ q2
 injection hv1 with q3 _ q4
 subst q1; subst q2; subst q3; subst q4
 refine (valid_any _ _ _ m l.length 2 (lens L) (qm L) (qs l) hA0 hB0).mono ?_
 rintro e w5 ⟨he, hb5⟩
 have he := he.eq T1.out
 subst he
 have y5 := hb5.size; (try simp only [zs] at y5)
 clear e1 f1 l1 e2 f2 l2 hA0 hB0
 obtain ⟨e1, f1, l1⟩ := L1.all (w' := w5)
 obtain ⟨e2, f2, l2⟩ := L2.all (w' := w5)
 cases b1
 ·have HV : Hid (¬ VS m l.length (lens L)) := fun h => by have := T1.out.2 h; cases this
  clear T1
  go_wp2_with fail
  refine (clinear_any (nx := lx.length) (ny := ly.length) (f := qs lx) (y := qs ly) _ _ _ _ feas (HS.out _ kp) (HNX.out _ kp) (HNY.out _ kp) (by decide) (by decide)).mono ?_
  rintro e w6 ⟨⟨z, rfl, hz⟩, hb6⟩
  have y6 := hb6.size; (try simp only [zs] at y6)
  have hz1 := hz.out.1 HV.out
  subst hz1
  clear hz
  go_wp2_with fail
  go_ret
  exact ⟨rfl, bel⟩
 ·have HV : Hid (VS m l.length (lens L)) := T1.out.1 rfl
  clear T1
  go_wp2_with fail
  refine (checkResult_any (nx := lx.length) (ny := ly.length) (f := qs lx) (y := qs ly) _ _ _ _ feas (HS.out _ kp) (HNX.out _ kp) (HNY.out _ kp) (by decide) (by decide)).mono ?_
  rintro e w6 ⟨he, hb6⟩
  have he := he.eq T2.out
  subst he
  have y6 := hb6.size; (try simp only [zs] at y6)
  clear e1 f1 l1 e2 f2 l2
  obtain ⟨e1, f1, l1⟩ := L1.all (w' := w6)
  obtain ⟨e2, f2, l2⟩ := L2.all (w' := w6)
  cases b2
  ·have HR : Hid (¬ RS feas m l.length (lens L) (qm L) (qs l) lx.length (qs lx) ly.length (qs ly)) := fun h => by have := T2.out.2 h; cases this
   clear T2
   go_wp2_with fail
   refine (clinear_any (nx := lx.length) (ny := ly.length) (f := qs lx) (y := qs ly) _ _ _ _ feas (HS.out _ kp) (HNX.out _ kp) (HNY.out _ kp) (by decide) (by decide)).mono ?_
   rintro e w7 ⟨⟨z, rfl, hz⟩, hb7⟩
   have y7 := hb7.size; (try simp only [zs] at y7)
   have hz1 := hz.out.2.2 HV.out HR.out
   subst hz1
   clear hz
   go_wp2_with fail
   go_ret
   exact ⟨rfl, bel⟩
  ·have HR : Hid (RS feas m l.length (lens L) (qm L) (qs l) lx.length (qs lx) ly.length (qs ly)) := T2.out.1 rfl
   clear T2
   go_wp2_with fail
   refine (clinear_any (nx := lx.length) (ny := ly.length) (f := qs lx) (y := qs ly) _ _ _ _ feas (HS.out _ kp) (HNX.out _ kp) (HNY.out _ kp) (by decide) (by decide)).mono ?_
   rintro e w7 ⟨⟨z, rfl, hz⟩, hb7⟩
   have y7 := hb7.size; (try simp only [zs] at y7)
   have hz1 := hz.out.2.1 HV.out HR.out
   subst hz1
   clear hz
   go_wp2_with fail
   go_ret
   exact ⟨rfl, bel⟩
end Go.Proofs.YtbdcjhoedhhabaaGreat

/- The statement 'CheckerLinear' out of its walk. The frame is the guide's own (proof-skeleton), printed by lawgen.py. -/
namespace Go.Proofs.YtbdcjhoedhhabaaGreat.checkerLinear
open Go.ChangeShapes Go.WideShapes Go.ChangeAt Go.RowKit Go.Proofs.YtbdcjhoedhhabaaGreat
open Go.ChangeMaps (open_string shut_string)
set_option linter.unusedVariables false

set_option maxRecDepth 100000 in
theorem lifted (os : Os) (started : os.Started) (H : Type) (enc : TypeId × Value → H) :
 ReturnsInHanded {} Tryz.checked os 7 .any (Rows.checkerLinearSpec.pre6 enc Tryz.prog Tryz.f7 Rows.checkerLinearRow.domain false) (Rows.checkerLinearSpec.post enc Tryz.prog Tryz.f7 false true false false) := by
 refine returnsInHanded_of_change (C := Tryz.checked) own started (by kernel_rfl) Tryz.func7
  (ChangeSpec.witness6 (enc := enc) (C := Tryz.checked) false ⟨#[], #[.agg #[.slice none 0 0, .slice none 0 0], .agg #[.bool false, .slice none 0 0, .slice none 0 0]], []⟩ 8 (by kernel_rfl) (by kernel_rfl) (by kernel_rfl) (by kernel_rfl)) ?_
 intro W base args ds gs before hval0 hW hcnd _
 have hval : ∀ (j : Nat) t v, Tryz.f7.params[j]? = some t → args[j]? = some v → Value.okWide Tryz.prog W .any base t v := hval0
 have hW' := hW
 obtain ⟨p, q, hA0, hV, rfl, hfz, hnd⟩ := hW
 have hA : DataW.TrodAll enc Tryz.prog W 0 (fun _ => true) true Tryz.f7.params.toList args.toList ds p := hA0
 rw [Tryz.params7] at hA hval
 obtain ⟨v0, vs0, d0, ds0, p0, q0, hargs, rfl, rfl, h0, r0⟩ := trodAll_cons hA
 obtain ⟨v1, vs1, d1, ds1, p1, q1, rfl, rfl, rfl, h1, r1⟩ := trodAll_cons r0
 obtain ⟨rfl, rfl, rfl⟩ := trodAll_nil r1
 obtain rfl : args = #[v0, v1] := by cases args; simp_all
 obtain ⟨rfl, rfl⟩ := trodVars_none hV
 have lt0 : ∀ x ∈ p0, x.block < W.heap.size := by obtain ⟨m, hm⟩ := h0; exact DataW.trod_lt m _ _ _ hm
 have k0 := fun (W' : World) (bel : Below W.heap.size W W') => Below.trod laidOut (by kernel_rfl) (of_decide_eq_true (by kernel_rfl)) h0 bel lt0
 obtain ⟨va0, vb0, L0, l0, e0, ha0, hb0⟩ := open_System (hval 0 73 v0 rfl rfl) h0
 have lt1 : ∀ x ∈ p1, x.block < W.heap.size := by obtain ⟨m, hm⟩ := h1; exact DataW.trod_lt m _ _ _ hm
 have k1 := fun (W' : World) (bel : Below W.heap.size W W') => Below.trod laidOut (by kernel_rfl) (of_decide_eq_true (by kernel_rfl)) h1 bel lt1
 obtain ⟨b1, vx1, vy1, lx1, ly1, e1, hx1, hy1⟩ := open_Result (hval 1 75 v1 rfl rfl) h1
 subst e0
 subst e1
 refine (linear48_walk _ _ _ _ _ _ _ _ _ _ ha0 hb0 hx1 hy1).mono fun e W' ⟨he, bel⟩ => ?_
 subst he
 exact ⟨_, rfl, _, _, _, [], _, [], hW', trodAll_mk1 (shut_bool Tryz.underlying4 _), (trodAll_cons_mk (k0 _ bel) (trodAll_cons_mk (k1 _ bel) trodAll_mk0)), rfl, bel.frame _, fun h => by cases h⟩

theorem in_place : (Rows.checkerLinearRow.inPlace == Tryz.prog.inPlace 7) = true := by kernel_rfl
theorem unfollowed : (Rows.checkerLinearRow.unfollowed == Tryz.prog.unfollowed 7) = true := by kernel_rfl
theorem recurses : (Rows.checkerLinearRow.recurses == Tryz.prog.recurses 7) = true := by kernel_rfl
theorem named : (Rows.checkerLinearRow.named == Tryz.prog.varsNamed 7) = true := by kernel_rfl
theorem cheap : cheapFacts Tryz.prog Tryz.f7 Rows.checkerLinearSpec Rows.checkerLinearRow = true := by kernel_rfl

theorem over : Rows.checkerLinearRow.holds Tryz.pinned (OpenSpec.ofChange Rows.checkerLinearSpec) :=
 OpenClaim.holds_of_wide 7 Tryz.f7 rfl rfl rfl rfl rfl rfl rfl ⟨rfl, rfl, rfl, rfl, rfl⟩ rfl rfl rfl rfl rfl (by kernel_rfl) Tryz.func7 (joined_mk laidOut rowed in_place unfollowed recurses named cheap)
  (of_decide_eq_true (by kernel_rfl)) (by unfold Func.isWrapper; first | (rw [if_pos (by decide +kernel)]; kernel_rfl) | (rw [if_neg (by decide +kernel)]; exact ⟨rfl, rfl⟩))
  (fun os started H enc _ => lifted os started H enc)

/-- The statement: for every input the law returns true; each argument reads behind the call as it read before. -/
theorem proved : Rows.CheckerLinearSaid := over
end Go.Proofs.YtbdcjhoedhhabaaGreat.checkerLinear

