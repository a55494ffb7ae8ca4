/- For every input the law returns true: the law's walk, and the statement out of it. -/
import Derived.Test.YtpeglenapmkdfaaGreatRows
import Derived.Test.YtpeglenapmkdfaaGreatM2
import Derived.Test.YtpeglenapmkdfaaGreatM14
import Derived.Test.YtpeglenapmkdfaaGreatM17
import Derived.Test.YtpeglenapmkdfaaGreatM45
set_option linter.unusedSimpArgs false
set_option linter.unusedVariables false

/- LinearProofs: the law's walk. -/
namespace Go.Proofs.YtpeglenapmkdfaaGreat
open Go.RowKit
attribute [local go_sem ↓] Go.wp_at_zero Go.wp_at_succ
attribute [local go_sem] beq_self_eq_true

set_option maxRecDepth 100000 in
set_option maxHeartbeats 16000000 in
theorem proofs_walk (w : World) (v0 v1 v2 vp vq : Value) (L : List (List RF)) (l lc lp lq : List RF) (rb : Bool) (kd : Int) (vx vy vr : Value) (lx ly lr : List RF) (er : RF) (EA EB : Option Addr) (ec ed : Nat) (hA : RMat w v0 L) (hB : Rats w (fun _ => False) v1 l) (hC : Rats w (fun _ => False) v2 lc) (hp : Rats w (fun _ => False) vp lp) (hq : Rats w (fun _ => False) vq lq) (hx : Rats w (fun _ => False) vx lx) (hy : Rats w (fun _ => False) vy ly) (hr : Rats w (fun _ => False) vr lr) (hv : RatR w (fun _ => False) (.agg #[.bool er.n1, .slice EA er.xs.length ec, .bool er.n2, .slice EB er.ys.length ed]) er.n1 er.xs er.n2 er.ys) :
    Calls Tryz.prog 10 #[.agg #[v0, v1, v2], .agg #[.bool rb, vp, vq], .agg #[.int .i64 kd, vx, vy, vr, .bool er.n1, .slice EA er.xs.length ec, .bool er.n2, .slice EB er.ys.length ed]] w fun e w' => e = .returned (.bool true) ∧ Below w.heap.size w w' := by
  have HA := Lib.hid hA
  have HB := Lib.hid hB
  have HCC := Lib.hid hC
  have HP := Lib.hid hp
  have HQ := Lib.hid hq
  have HX := Lib.hid hx
  have HY := Lib.hid hy
  have HR := Lib.hid hr
  have HV := Lib.hid hv
  obtain ⟨A, cA, rfl, hA, la1, la2⟩ := hA.op
  obtain ⟨B, cB, rfl, hB, lb1, lb2⟩ := hB.op
  obtain ⟨C, cC, rfl, hC, lcc1, lcc2⟩ := hC.op
  obtain ⟨P, cP, rfl, hp, lp1, lp2⟩ := hp.op
  obtain ⟨Q, cQ, rfl, hq, lq1, lq2⟩ := hq.op
  obtain ⟨X, cX, rfl, hx, lx1, lx2⟩ := hx.op
  obtain ⟨Y, cY, rfl, hy, ly1, ly2⟩ := hy.op
  obtain ⟨R, cR, rfl, hr, lr1, lr2⟩ := hr.op
  clear hA hB hC hp hq hx hy hr hv
  have L1 := made1 w #[.slice A L.length cA, .slice B l.length cB, .slice C lc.length cC] 37
  have L2 := made2 w (.cells #[.slice A L.length cA, .slice B l.length cB, .slice C lc.length cC] 37) #[.bool rb, .slice P lp.length cP, .slice Q lq.length cQ] 32
  have L3 := made3 w (.cells #[.slice A L.length cA, .slice B l.length cB, .slice C lc.length cC] 37) (.cells #[.bool rb, .slice P lp.length cP, .slice Q lq.length cQ] 32) #[.int .i64 kd, .slice X lx.length cX, .slice Y ly.length cY, .slice R lr.length cR, .bool er.n1, .slice EA er.xs.length ec, .bool er.n2, .slice EB er.ys.length ed] 51
  go_enter Tryz.func10, Tryz.ntmps10
  go_wp2_with fail
  refine (known08_any _).mono ?_
  rintro e w1 ⟨rfl, hb1⟩
  obtain ⟨z1, z2, z3⟩ := sz3 hb1
  obtain ⟨e1, f1, l1⟩ := L1.all (w' := w1)
  obtain ⟨e2, f2, l2⟩ := L2.all (w' := w1)
  obtain ⟨e3, f3, l3⟩ := L3.all (w' := w1)
  go_wp2_with fail
  refine (few_any8 _ _ _ L l (HA.out.keep kp) (HB.out.keep kp)).mono ?_
  rintro e w2 ⟨⟨b, rfl, hb⟩, hb2⟩
  have y2 := hb2.size; (try simp only [World.size_alloc, size_set, size_drew, size_drewN] at y2)
  clear e1 f1 l1 e2 f2 l2 e3 f3 l3
  obtain ⟨e1, f1, l1⟩ := L1.all (w' := w2)
  obtain ⟨e2, f2, l2⟩ := L2.all (w' := w2)
  obtain ⟨e3, f3, l3⟩ := L3.all (w' := w2)
  cases b
  · clear hb
    go_wp2_with fail
    go_ret
    exact ⟨rfl, bel⟩
  have HF : Hid (FewS L l) := hb.out.1 rfl
  clear hb
  go_wp2_with fail
  refine (numbers_any _ _ lc 10 (HCC.out.keep kp) (by decide)).mono ?_
  rintro e w3 ⟨⟨b, rfl, hb⟩, hb3⟩
  have y3 := hb3.size; (try simp only [World.size_alloc, size_set, size_drew, size_drewN] at y3)
  cases b
  · clear hb
    go_wp2_with fail
    go_ret
    exact ⟨rfl, bel⟩
  have HNC : Hid (NB lc 10) := hb.out.1 rfl
  clear hb
  clear e1 f1 l1 e2 f2 l2 e3 f3 l3
  obtain ⟨e1, f1, l1⟩ := L1.all (w' := w3)
  obtain ⟨e2, f2, l2⟩ := L2.all (w' := w3)
  obtain ⟨e3, f3, l3⟩ := L3.all (w' := w3)
  go_wp2_with fail
  refine (numbers_any _ _ lp 10 (HP.out.keep kp) (by decide)).mono ?_
  rintro e w4 ⟨⟨b, rfl, hb⟩, hb4⟩
  have y4 := hb4.size; (try simp only [World.size_alloc, size_set, size_drew, size_drewN] at y4)
  cases b
  · clear hb
    go_wp2_with fail
    go_ret
    exact ⟨rfl, bel⟩
  have HNP : Hid (NB lp 10) := hb.out.1 rfl
  clear hb
  clear e1 f1 l1 e2 f2 l2 e3 f3 l3
  obtain ⟨e1, f1, l1⟩ := L1.all (w' := w4)
  obtain ⟨e2, f2, l2⟩ := L2.all (w' := w4)
  obtain ⟨e3, f3, l3⟩ := L3.all (w' := w4)
  go_wp2_with fail
  refine (numbers_any _ _ lq 10 (HQ.out.keep kp) (by decide)).mono ?_
  rintro e w5 ⟨⟨b, rfl, hb⟩, hb5⟩
  have y5 := hb5.size; (try simp only [World.size_alloc, size_set, size_drew, size_drewN] at y5)
  cases b
  · clear hb
    go_wp2_with fail
    go_ret
    exact ⟨rfl, bel⟩
  have HNQ : Hid (NB lq 10) := hb.out.1 rfl
  clear hb
  clear e1 f1 l1 e2 f2 l2 e3 f3 l3
  obtain ⟨e1, f1, l1⟩ := L1.all (w' := w5)
  obtain ⟨e2, f2, l2⟩ := L2.all (w' := w5)
  obtain ⟨e3, f3, l3⟩ := L3.all (w' := w5)
  go_wp2_with fail
  refine (tidy_any _ kd _ _ _ _ _ _ _ lx ly lr er (HX.out.keep kp) (HY.out.keep kp) (HR.out.keep kp) (HV.out.keep kp)).mono ?_
  rintro e w6 ⟨⟨b, rfl, hb⟩, hb6⟩
  have y6 := hb6.size; (try simp only [World.size_alloc, size_set, size_drew, size_drewN] at y6)
  clear e1 f1 l1 e2 f2 l2 e3 f3 l3
  obtain ⟨e1, f1, l1⟩ := L1.all (w' := w6)
  obtain ⟨e2, f2, l2⟩ := L2.all (w' := w6)
  obtain ⟨e3, f3, l3⟩ := L3.all (w' := w6)
  cases b
  · clear hb
    go_wp2_with fail
    go_ret
    exact ⟨rfl, bel⟩
  have HT : Hid (NB lx 10 ∧ NB ly 10 ∧ NB lr 10 ∧ er.few) := hb.out.1 rfl
  clear hb
  have HS : Hid (∀ W, Keep (fun _ => False) w W → Sys 2 W (.agg #[.slice A L.length cA, .slice B l.length cB]) L.length l.length (lens L) (qm L) (qs l)) := fun W hW => HF.out.sys (HA.out.keep hW) (HB.out.keep hW)
  have HMA : Hid (∀ W, Keep (fun _ => False) w W → Mat 2 W (fun _ => False) (.slice A L.length cA) L.length (lens L) (qm L)) := fun W hW => HF.out.mat (HA.out.keep hW)
  have HMB : Hid (∀ W, Keep (fun _ => False) w W → Nums 2 W (fun _ => False) (.slice B l.length cB) l.length (qs l)) := fun W hW => HF.out.rhs (HB.out.keep hW)
  have HC : Hid (∀ W, Keep (fun _ => False) w W → Nums 2 W (fun _ => False) (.slice C lc.length cC) lc.length (qs lc)) := fun W hW => HNC.out.nums (HCC.out.keep hW)
  have HMP : Hid (∀ W, Keep (fun _ => False) w W → Nums 2 W (fun _ => False) (.slice P lp.length cP) lp.length (qs lp)) := fun W hW => HNP.out.nums (HP.out.keep hW)
  have HMQ : Hid (∀ W, Keep (fun _ => False) w W → Nums 2 W (fun _ => False) (.slice Q lq.length cQ) lq.length (qs lq)) := fun W hW => HNQ.out.nums (HQ.out.keep hW)
  have HMX : Hid (∀ W, Keep (fun _ => False) w W → Nums 2 W (fun _ => False) (.slice X lx.length cX) lx.length (qs lx)) := fun W hW => HT.out.1.nums (HX.out.keep hW)
  have HMY : Hid (∀ W, Keep (fun _ => False) w W → Nums 2 W (fun _ => False) (.slice Y ly.length cY) ly.length (qs ly)) := fun W hW => HT.out.2.1.nums (HY.out.keep hW)
  have HMR : Hid (∀ W, Keep (fun _ => False) w W → Nums 2 W (fun _ => False) (.slice R lr.length cR) lr.length (qs lr)) := fun W hW => HT.out.2.2.1.nums (HR.out.keep hW)
  have HMV : Hid (∀ W, Keep (fun _ => False) w W → RatL 2 W (fun _ => False) (.agg #[.bool er.n1, .slice EA er.xs.length ec, .bool er.n2, .slice EB er.ys.length ed]) er.q) := fun W hW => ⟨_, _, _, _, HV.out.keep hW, HT.out.2.2.2.1, HT.out.2.2.2.2, rfl⟩
  obtain ⟨b1, T1⟩ := tell (RS rb L.length l.length (lens L) (qm L) (qs l) lp.length (qs lp) lq.length (qs lq))
  obtain ⟨b2, T2⟩ := tell (OP kd L.length l.length (lens L) (qm L) (qs l) lc.length (qs lc) lx.length (qs lx) ly.length (qs ly) lr.length (qs lr) er.q)
  have K1 : Loc w6 w.heap.size _ _ := L1.to
  have K2 : Loc w6 (w.heap.size + 1) _ _ := L2.to
  have K3 : Loc w6 (w.heap.size + 2) _ _ := L3.to
  clear HA HB HCC HP HQ HX HY HR HV HF HNC HNP HNQ HT e1 f1 l1 e2 f2 l2 e3 f3 l3
  go_wp2_with fail
  go_region_held3 (fun W => ((W.cell? ⟨w.heap.size, 0, none⟩ = some (.slice A L.length cA) ∧ W.cell? ⟨w.heap.size, 1, none⟩ = some (.slice B l.length cB)) ∧ W.cell? ⟨w.heap.size, 2, none⟩ = some (.slice C lc.length cC)) ∧
      (W.cell? ⟨w.heap.size + 1, 0, none⟩ = some (.bool rb) ∧ W.cell? ⟨w.heap.size + 1, 1, none⟩ = some (.slice P lp.length cP) ∧ W.cell? ⟨w.heap.size + 1, 2, none⟩ = some (.slice Q lq.length cQ)) ∧
      (W.cell? ⟨w.heap.size + 2, 0, none⟩ = some (.int .i64 kd) ∧ W.cell? ⟨w.heap.size + 2, 1, none⟩ = some (.slice X lx.length cX) ∧ W.cell? ⟨w.heap.size + 2, 2, none⟩ = some (.slice Y ly.length cY) ∧ W.cell? ⟨w.heap.size + 2, 3, none⟩ = some (.slice R lr.length cR) ∧ W.cell? ⟨w.heap.size + 2, 4, none⟩ = some (.bool er.n1) ∧ W.cell? ⟨w.heap.size + 2, 5, none⟩ = some (.slice EA er.xs.length ec) ∧ W.cell? ⟨w.heap.size + 2, 6, none⟩ = some (.bool er.n2) ∧ W.cell? ⟨w.heap.size + 2, 7, none⟩ = some (.slice EB er.ys.length ed)))
    (exact ⟨⟨⟨Loc.c 0 K1, Loc.c 1 K1⟩, Loc.c 2 K1⟩, ⟨Loc.c 0 K2, Loc.c 1 K2, Loc.c 2 K2⟩, Loc.c 0 K3, Loc.c 1 K3, Loc.c 2 K3, Loc.c 3 K3, Loc.c 4 K3, Loc.c 5 K3, Loc.c 6 K3, Loc.c 7 K3⟩)
    (first
      | (go_at_call 30; refine (checkResult_any _ _ _ _ rb (HS.out _ kp) (HMP.out _ kp) (HMQ.out _ kp) (by decide) (by decide)).mono ?_; rintro e u1 ⟨he, hb11⟩; have he := he.eq T1.out; subst he; have y11 := hb11.size; (try simp only [World.size_alloc, size_set, size_drew, size_drewN] at y11))
      | (go_at_call 29; refine (rcheckResult_any _ _ _ _ rb (HS.out _ kp) (HMP.out _ kp) (HMQ.out _ kp) (by decide) (by decide)).mono ?_; rintro e u2 ⟨he, hb12⟩; have he := he.eq T1.out; subst he; have y12 := hb12.size; (try simp only [World.size_alloc, size_set, size_drew, size_drewN] at y12))
      | (go_at_call 33; refine (checkOptimum_any _ _ _ _ _ _ kd _ _ _ _ _ _ _ _ (HS.out _ kp) (HC.out _ kp) (HMX.out _ kp) (HMY.out _ kp) (HMR.out _ kp) (HMV.out _ kp) (by decide) (by decide)).mono ?_; rintro e u3 ⟨he, hb13⟩; have he := he.eq T2.out; subst he; have y13 := hb13.size; (try simp only [World.size_alloc, size_set, size_drew, size_drewN] at y13))
      | (go_at_call 32; refine (ref_any _ _ _ _ _ _ _ _ _ _ _ _ _ _ _ _ _ _ _).mono ?_; rintro e u4 ⟨he, hb14⟩; subst he; have y14 := hb14.size; (try simp only [World.size_alloc, size_set, size_drew, size_drewN] at y14))
      | (go_at_call 31; refine (rcheckOptimum_any _ _ _ _ _ _ kd _ _ _ _ _ _ _ _ (HS.out _ kp) (HC.out _ kp) (HMX.out _ kp) (HMY.out _ kp) (HMR.out _ kp) (HMV.out _ kp) (by decide) (by decide)).mono ?_; rintro e u5 ⟨he, hb15⟩; have he := he.eq T2.out; subst he; have y15 := hb15.size; (try simp only [World.size_alloc, size_set, size_drew, size_drewN] at y15)))
  all_goals
    go_wp2_with fail
    go_ret
    exact ⟨rfl, bel⟩
end Go.Proofs.YtpeglenapmkdfaaGreat

/- The statement 'LinearProofs' out of its walk. The frame is the guide's own (proof-skeleton), printed by lawgen.py. -/
namespace Go.Proofs.YtpeglenapmkdfaaGreat.linearProofs
open Go.ChangeShapes Go.WideShapes Go.ChangeAt Go.RowKit Go.Proofs.YtpeglenapmkdfaaGreat
open Go.ChangeMaps (open_string shut_string)
set_option linter.unusedVariables false

set_option maxRecDepth 100000 in
theorem lifted (os : Os) (started : os.Started) (H : Type) (enc : TypeId × Value → H) :
    ReturnsInHanded {} Tryz.checked os 10 .any (Rows.linearProofsSpec.pre6 enc Tryz.prog Tryz.f10 Rows.linearProofsRow.domain false) (Rows.linearProofsSpec.post enc Tryz.prog Tryz.f10 false true false false) := by
  refine returnsInHanded_of_change (C := Tryz.checked) own started (by kernel_rfl) Tryz.func10
    (ChangeSpec.witness6 (enc := enc) (C := Tryz.checked) false ⟨#[], #[.agg #[.slice none 0 0, .slice none 0 0, .slice none 0 0], .agg #[.bool false, .slice none 0 0, .slice none 0 0], .agg #[.int .i64 0, .slice none 0 0, .slice none 0 0, .slice none 0 0, .bool false, .slice none 0 0, .bool false, .slice none 0 0]], []⟩ 8 (by kernel_rfl) (by kernel_rfl) (by kernel_rfl) (by kernel_rfl)) ?_
  intro W base args ds gs before hval0 hW hcnd _
  have hval : ∀ (j : Nat) t v, Tryz.f10.params[j]? = some t → args[j]? = some v → Value.okWide Tryz.prog W .any base t v := hval0
  have hW' := hW
  obtain ⟨p, q, hA0, hV, rfl, hfz, hnd⟩ := hW
  have hA : DataW.TrodAll enc Tryz.prog W 0 (fun _ => true) true Tryz.f10.params.toList args.toList ds p := hA0
  rw [Tryz.params10] at hA hval
  obtain ⟨v0, vs0, d0, ds0, p0, q0, hargs, rfl, rfl, h0, r0⟩ := trodAll_cons hA
  obtain ⟨v1, vs1, d1, ds1, p1, q1, rfl, rfl, rfl, h1, r1⟩ := trodAll_cons r0
  obtain ⟨v2, vs2, d2, ds2, p2, q2, rfl, rfl, rfl, h2, r2⟩ := trodAll_cons r1
  obtain ⟨rfl, rfl, rfl⟩ := trodAll_nil r2
  obtain rfl : args = #[v0, v1, v2] := by cases args; simp_all
  obtain ⟨rfl, rfl⟩ := trodVars_none hV
  have lt0 : ∀ x ∈ p0, x.block < W.heap.size := by obtain ⟨m, hm⟩ := h0; exact DataW.trod_lt m _ _ _ hm
  have k0 := fun (W' : World) (bel : Below W.heap.size W W') => Below.trod laidOut (by kernel_rfl) (of_decide_eq_true (by kernel_rfl)) h0 bel lt0
  obtain ⟨va0, vb0, vc0, L0, l0, lc0, e0, ha0, hb0, hc0⟩ := open_Problem (hval 0 37 v0 rfl rfl) h0
  have lt1 : ∀ x ∈ p1, x.block < W.heap.size := by obtain ⟨m, hm⟩ := h1; exact DataW.trod_lt m _ _ _ hm
  have k1 := fun (W' : World) (bel : Below W.heap.size W W') => Below.trod laidOut (by kernel_rfl) (of_decide_eq_true (by kernel_rfl)) h1 bel lt1
  obtain ⟨b1, vx1, vy1, lx1, ly1, e1, hx1, hy1⟩ := open_Result (hval 1 32 v1 rfl rfl) h1
  have lt2 : ∀ x ∈ p2, x.block < W.heap.size := by obtain ⟨m, hm⟩ := h2; exact DataW.trod_lt m _ _ _ hm
  have k2 := fun (W' : World) (bel : Below W.heap.size W W') => Below.trod laidOut (by kernel_rfl) (of_decide_eq_true (by kernel_rfl)) h2 bel lt2
  obtain ⟨kd2, vx2, vy2, vr2, lx2, ly2, lr2, er2, A2, c2, B2, d_2, e2, wf2, hx2, hy2, hr2, hv2⟩ := open_Optimum (hval 2 51 v2 rfl rfl) h2
  subst e0
  subst e1
  subst e2
  refine (proofs_walk _ _ _ _ _ _ _ _ _ _ _ _ _ _ _ _ _ _ _ _ _ _ _ _ ha0 hb0 hc0 hx1 hy1 hx2 hy2 hr2 hv2).mono fun e W' ⟨he, bel⟩ => ?_
  subst he
  exact ⟨_, rfl, _, _, _, [], _, [], hW', trodAll_mk1 (shut_bool Tryz.underlying4 _), (trodAll_cons_mk (k0 _ bel) (trodAll_cons_mk (k1 _ bel) (trodAll_cons_mk (k2 _ bel) trodAll_mk0))), rfl, bel.frame _, fun h => by cases h⟩

theorem over : Rows.linearProofsRow.holds Tryz.pinned (OpenSpec.ofChange Rows.linearProofsSpec) :=
  OpenClaim.holds_of_wide 10 Tryz.f10 rfl rfl rfl rfl rfl rfl rfl ⟨rfl, rfl, rfl, rfl, rfl⟩ rfl rfl rfl rfl rfl (by kernel_rfl) Tryz.func10 (by kernel_rfl)
    (of_decide_eq_true (by kernel_rfl)) (by unfold Func.isWrapper; first | (rw [if_pos (by decide +kernel)]; kernel_rfl) | (rw [if_neg (by decide +kernel)]; exact ⟨rfl, rfl⟩))
    (fun os started H enc _ => lifted os started H enc)

/-- The statement: for every input the law returns true; each argument reads behind the call as it read before. -/
theorem proved : Rows.LinearProofsSaid := over
end Go.Proofs.YtpeglenapmkdfaaGreat.linearProofs

