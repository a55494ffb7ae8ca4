/- For every input the law returns true: the law's walk, and the statement out of it. -/
import Derived.Test.YtpeglenapmkdfaaGreatRows
import Derived.Test.YtpeglenapmkdfaaGreatM2
import Derived.Test.YtpeglenapmkdfaaGreatM14
import Derived.Test.YtpeglenapmkdfaaGreatM17
import Derived.Test.YtpeglenapmkdfaaGreatM45
set_option linter.unusedSimpArgs false
set_option linter.unusedVariables false

/- LinearSolves: the law's walk. -/
namespace Go.Proofs.YtpeglenapmkdfaaGreat
open Go.RowKit
attribute [local go_sem ↓] Go.wp_at_zero Go.wp_at_succ
attribute [local go_sem] beq_self_eq_true

set_option maxRecDepth 100000 in
set_option maxHeartbeats 16000000 in
theorem solves_walk (w : World) (v0 v1 : Value) (L : List (List RF)) (l : List RF) (hA : RMat w v0 L) (hB : Rats w (fun _ => False) v1 l) :
    Calls Tryz.prog 7 #[.agg #[v0, v1]] w fun e w' => e = .returned (.bool true) ∧ Below w.heap.size w w' := by
  have HA := Lib.hid hA
  have HB := Lib.hid hB
  obtain ⟨A, cA, rfl, hA, la1, la2⟩ := hA.op
  obtain ⟨B, cB, rfl, hB, lb1, lb2⟩ := hB.op
  clear hA hB
  have L1 := made1 w #[.slice A L.length cA, .slice B l.length cB] 25
  go_enter Tryz.func7, Tryz.ntmps7
  go_wp2_with fail
  refine (known08_any _).mono ?_
  rintro e w1 ⟨rfl, hb1⟩
  have z1 := sz1 hb1
  obtain ⟨e1, f1, l1⟩ := L1.all (w' := w1)
  go_wp2_with fail
  refine (few_any8 _ _ _ L l (HA.out.keep kp) (HB.out.keep kp)).mono ?_
  rintro e w2 ⟨⟨b, rfl, hb⟩, hb2⟩
  have y2 := hb2.size; (try simp only [World.size_alloc, size_set, size_drew, size_drewN] at y2)
  clear e1 f1 l1
  obtain ⟨e1, f1, l1⟩ := L1.all (w' := w2)
  cases b
  · clear hb
    go_wp2_with fail
    go_ret
    exact ⟨rfl, bel⟩
  have HF : Hid (FewS L l) := hb.out.1 rfl
  clear hb
  have HS : Hid (∀ W, Keep (fun _ => False) w W → Sys 2 W (.agg #[.slice A L.length cA, .slice B l.length cB]) L.length l.length (lens L) (qm L) (qs l)) := fun W hW => HF.out.sys (HA.out.keep hW) (HB.out.keep hW)
  have HMA : Hid (∀ W, Keep (fun _ => False) w W → Mat 2 W (fun _ => False) (.slice A L.length cA) L.length (lens L) (qm L)) := fun W hW => HF.out.mat (HA.out.keep hW)
  have HMB : Hid (∀ W, Keep (fun _ => False) w W → Nums 2 W (fun _ => False) (.slice B l.length cB) l.length (qs l)) := fun W hW => HF.out.rhs (HB.out.keep hW)
  go_wp2_with fail
  refine (solve_any _ _ L.length l.length 2 126 779 (lens L) (qm L) (qs l) (HS.out _ kp) (by decide) (by decide) (by decide) (by decide) (by decide) (by decide) (HF.out.sz1 (HS.out w (Keep.refl _ _)))).mono ?_
  rintro e w3 ⟨b, vX, vY, nx, ny, f, y, code, rfl, hn, hs, hb3⟩
  have y3 := hb3.size; (try simp only [World.size_alloc, size_set, size_drew, size_drewN] at y3)
  obtain ⟨X, cX, rfl, hx, -, -⟩ := hn.out.1.op
  obtain ⟨Y, cY, rfl, hy, -, -⟩ := hn.out.2.op
  have HX := Lib.hid hx
  have HY := Lib.hid hy
  clear hn hx hy e1 f1 l1
  obtain ⟨e1, f1, l1⟩ := L1.all (w' := w3)
  have LR := made1 w3 #[.bool b, .slice X nx cX, .slice Y ny cY] 32
  have L5 : Loc (w3.alloc (.cells #[.bool b, .slice X nx cX, .slice Y ny cY] 32)) w.heap.size _ _ := L1.to
  obtain ⟨e5, f5, l5⟩ := L5.all
  obtain ⟨b1, T1⟩ := tell (VS L.length l.length (lens L))
  go_wp2_with fail
  refine (rvalid_any _ _ _ _ _ 2 _ _ _ (HMA.out _ kp) (HMB.out _ kp)).mono ?_
  rintro e w4 ⟨he, hb4⟩
  have he := he.eq T1.out
  subst he
  have y4 := hb4.size; (try simp only [World.size_alloc, size_set, size_drew, size_drewN] at y4)
  have L4 : Loc w4 w.heap.size _ _ := L5.to
  clear e5 f5 l5 e1 f1 l1
  obtain ⟨e1, f1, l1⟩ := L4.all (w' := w4)
  have LR4 : Loc w4 w3.heap.size _ _ := LR.to
  obtain ⟨e6, f6, l6⟩ := LR4.all
  cases b1
  · have HV : Hid (¬ VS L.length l.length (lens L)) := fun h => by have := T1.out.2 h; cases this
    obtain ⟨rfl, rfl, rfl, rfl⟩ := hs.out.2 HV.out
    clear hs
    go_wp2_with fail
    go_ret
    exact ⟨rfl, bel⟩
  · have HV : Hid (VS L.length l.length (lens L)) := T1.out.1 rfl
    obtain ⟨rfl, hrs⟩ := hs.out.1 HV.out
    have HRS := Lib.hid hrs
    clear hs hrs
    go_wp2_with fail
    refine (rcheckResult_any (k := 1568) _ _ _ _ b ((HS.out _ kp).mono (by decide)) ((HX.out.keep kp).mono (by decide)) (HY.out.keep kp) (by decide) (by decide)).mono ?_
    rintro e w5 ⟨he, hb5⟩
    have he := he.eq (b := true) ⟨fun _ => HRS.out, fun _ => rfl⟩
    subst he
    have y5 := hb5.size; (try simp only [World.size_alloc, size_set, size_drew, size_drewN] at y5)
    clear e1 f1 l1 e6 f6 l6
    obtain ⟨e1, f1, l1⟩ := L4.all (w' := w5)
    obtain ⟨e6, f6, l6⟩ := LR4.all (w' := w5)
    go_wp2_with fail
    refine (checkResult_any (k := 1568) _ _ _ _ b ((HS.out _ kp).mono (by decide)) ((HX.out.keep kp).mono (by decide)) (HY.out.keep kp) (by decide) (by decide)).mono ?_
    rintro e w6 ⟨he, hb6⟩
    have he := he.eq (b := true) ⟨fun _ => HRS.out, fun _ => rfl⟩
    subst he
    have y6 := hb6.size; (try simp only [World.size_alloc, size_set, size_drew, size_drewN] at y6)
    go_wp2_with fail
    go_ret
    exact ⟨rfl, bel⟩
end Go.Proofs.YtpeglenapmkdfaaGreat

/- The statement 'LinearSolves' out of its walk. The frame is the guide's own (proof-skeleton), printed by lawgen.py. -/
namespace Go.Proofs.YtpeglenapmkdfaaGreat.linearSolves
open Go.ChangeShapes Go.WideShapes Go.ChangeAt Go.RowKit Go.Proofs.YtpeglenapmkdfaaGreat
open Go.ChangeMaps (open_string shut_string)
set_option linter.unusedVariables false

set_option maxRecDepth 100000 in
theorem lifted (os : Os) (started : os.Started) (H : Type) (enc : TypeId × Value → H) :
    ReturnsInHanded {} Tryz.checked os 7 .any (Rows.linearSolvesSpec.pre6 enc Tryz.prog Tryz.f7 Rows.linearSolvesRow.domain false) (Rows.linearSolvesSpec.post enc Tryz.prog Tryz.f7 false true false false) := by
  refine returnsInHanded_of_change (C := Tryz.checked) own started (by kernel_rfl) Tryz.func7
    (ChangeSpec.witness6 (enc := enc) (C := Tryz.checked) false ⟨#[], #[.agg #[.slice none 0 0, .slice none 0 0]], []⟩ 8 (by kernel_rfl) (by kernel_rfl) (by kernel_rfl) (by kernel_rfl)) ?_
  intro W base args ds gs before hval0 hW hcnd _
  have hval : ∀ (j : Nat) t v, Tryz.f7.params[j]? = some t → args[j]? = some v → Value.okWide Tryz.prog W .any base t v := hval0
  have hW' := hW
  obtain ⟨p, q, hA0, hV, rfl, hfz, hnd⟩ := hW
  have hA : DataW.TrodAll enc Tryz.prog W 0 (fun _ => true) true Tryz.f7.params.toList args.toList ds p := hA0
  rw [Tryz.params7] at hA hval
  obtain ⟨v0, vs0, d0, ds0, p0, q0, hargs, rfl, rfl, h0, r0⟩ := trodAll_cons hA
  obtain ⟨rfl, rfl, rfl⟩ := trodAll_nil r0
  obtain rfl : args = #[v0] := by cases args; simp_all
  obtain ⟨rfl, rfl⟩ := trodVars_none hV
  have lt0 : ∀ x ∈ p0, x.block < W.heap.size := by obtain ⟨m, hm⟩ := h0; exact DataW.trod_lt m _ _ _ hm
  have k0 := fun (W' : World) (bel : Below W.heap.size W W') => Below.trod laidOut (by kernel_rfl) (of_decide_eq_true (by kernel_rfl)) h0 bel lt0
  obtain ⟨va0, vb0, L0, l0, e0, ha0, hb0⟩ := open_System (hval 0 25 v0 rfl rfl) h0
  subst e0
  refine (solves_walk _ _ _ _ _ ha0 hb0).mono fun e W' ⟨he, bel⟩ => ?_
  subst he
  exact ⟨_, rfl, _, _, _, [], _, [], hW', trodAll_mk1 (shut_bool Tryz.underlying4 _), (trodAll_cons_mk (k0 _ bel) trodAll_mk0), rfl, bel.frame _, fun h => by cases h⟩

theorem over : Rows.linearSolvesRow.holds Tryz.pinned (OpenSpec.ofChange Rows.linearSolvesSpec) :=
  OpenClaim.holds_of_wide 7 Tryz.f7 rfl rfl rfl rfl rfl rfl rfl ⟨rfl, rfl, rfl, rfl, rfl⟩ rfl rfl rfl rfl rfl (by kernel_rfl) Tryz.func7 (by kernel_rfl)
    (of_decide_eq_true (by kernel_rfl)) (by unfold Func.isWrapper; first | (rw [if_pos (by decide +kernel)]; kernel_rfl) | (rw [if_neg (by decide +kernel)]; exact ⟨rfl, rfl⟩))
    (fun os started H enc _ => lifted os started H enc)

/-- The statement: for every input the law returns true; each argument reads behind the call as it read before. -/
theorem proved : Rows.LinearSolvesSaid := over
end Go.Proofs.YtpeglenapmkdfaaGreat.linearSolves

