/- For every input the law returns true: the law's walk, and the statement out of it. -/
import Derived.Test.YtpeglenapmkdfaaGreatRows
import Derived.Test.YtpeglenapmkdfaaGreatM2
import Derived.Test.YtpeglenapmkdfaaGreatM14
import Derived.Test.YtpeglenapmkdfaaGreatM17
import Derived.Test.YtpeglenapmkdfaaGreatM43
import Derived.Test.YtpeglenapmkdfaaGreatM45
set_option linter.unusedSimpArgs false
set_option linter.unusedVariables false

/- LinearChecks: the law's walk. -/
namespace Go.Proofs.YtpeglenapmkdfaaGreat
open Go.RowKit
attribute [local go_sem ↓] Go.wp_at_zero Go.wp_at_succ
attribute [local go_sem] beq_self_eq_true

set_option maxRecDepth 100000 in
set_option maxHeartbeats 8000000 in
theorem checks_walk (w : World) (v0 v1 vx vy : Value) (L : List (List RF)) (l lx ly : List RF) (hA : RMat w v0 L) (hB : Rats w (fun _ => False) v1 l) (hx : Rats w (fun _ => False) vx lx) (hy : Rats w (fun _ => False) vy ly) :
    Calls Tryz.prog 3 #[.agg #[v0, v1], vx, vy] w fun e w' => e = .returned (.bool true) ∧ Below w.heap.size w w' := by
  have HA := Lib.hid hA
  have HB := Lib.hid hB
  have HX := Lib.hid hx
  have HY := Lib.hid hy
  obtain ⟨A, cA, rfl, hA, la1, la2⟩ := hA.op
  obtain ⟨B, cB, rfl, hB, lb1, lb2⟩ := hB.op
  obtain ⟨X, cX, rfl, hx, lx1, lx2⟩ := hx.op
  obtain ⟨Y, cY, rfl, hy, ly1, ly2⟩ := hy.op
  clear hA hB hx hy
  have L1 := made1 w #[.slice A L.length cA, .slice B l.length cB] 25
  go_enter Tryz.func3, Tryz.ntmps3
  go_wp2_with fail
  refine (known08_any _).mono ?_
  rintro e w1 ⟨rfl, hb1⟩
  have z1 := sz1 hb1
  obtain ⟨e1, f1, l1⟩ := L1.all (w' := w1)
  go_wp2_with fail
  refine (few_any8 _ _ _ L l (HA.out.keep kp) (HB.out.keep kp)).mono ?_
  rintro e w2 ⟨⟨b, rfl, hb⟩, hb2⟩
  have y2 := hb2.size; (try simp only [World.size_alloc, size_set, size_drew, size_drewN] at y2)
  clear e1 f1
  cases b
  · clear hb
    go_wp2_with fail
    go_ret
    exact ⟨rfl, bel⟩
  have HF : Hid (FewS L l) := hb.out.1 rfl
  clear hb
  go_wp2_with fail
  refine (numbers_any _ _ lx 10 (HX.out.keep kp) (by decide)).mono ?_
  rintro e w3 ⟨⟨b, rfl, hb⟩, hb3⟩
  have y3 := hb3.size; (try simp only [World.size_alloc, size_set, size_drew, size_drewN] at y3)
  cases b
  · clear hb
    go_wp2_with fail
    go_ret
    exact ⟨rfl, bel⟩
  have HNX : Hid (NB lx 10) := hb.out.1 rfl
  clear hb
  go_wp2_with fail
  refine (numbers_any _ _ ly 10 (HY.out.keep kp) (by decide)).mono ?_
  rintro e w4 ⟨⟨b, rfl, hb⟩, hb4⟩
  have y4 := hb4.size; (try simp only [World.size_alloc, size_set, size_drew, size_drewN] at y4)
  cases b
  · clear hb
    go_wp2_with fail
    go_ret
    exact ⟨rfl, bel⟩
  have HNY : Hid (NB ly 10) := hb.out.1 rfl
  clear hb
  have L4 : Loc w4 w.heap.size _ _ := L1.to
  have HS : Hid (∀ W, Keep (fun _ => False) w W → Sys 2 W (.agg #[.slice A L.length cA, .slice B l.length cB]) L.length l.length (lens L) (qm L) (qs l)) := fun W hW => HF.out.sys (HA.out.keep hW) (HB.out.keep hW)
  have HMA : Hid (∀ W, Keep (fun _ => False) w W → Mat 2 W (fun _ => False) (.slice A L.length cA) L.length (lens L) (qm L)) := fun W hW => HF.out.mat (HA.out.keep hW)
  have HMB : Hid (∀ W, Keep (fun _ => False) w W → Nums 2 W (fun _ => False) (.slice B l.length cB) l.length (qs l)) := fun W hW => HF.out.rhs (HB.out.keep hW)
  have HMX : Hid (∀ W, Keep (fun _ => False) w W → Nums 2 W (fun _ => False) (.slice X lx.length cX) lx.length (qs lx)) := fun W hW => HNX.out.nums (HX.out.keep hW)
  have HMY : Hid (∀ W, Keep (fun _ => False) w W → Nums 2 W (fun _ => False) (.slice Y ly.length cY) ly.length (qs ly)) := fun W hW => HNY.out.nums (HY.out.keep hW)
  obtain ⟨b1, T1⟩ := tell (VS L.length l.length (lens L))
  obtain ⟨b2, T2⟩ := tell (PT L.length l.length (lens L) (qm L) (qs l) lx.length (qs lx))
  obtain ⟨b3, T3⟩ := tell (FK L.length l.length (lens L) (qm L) (qs l) ly.length (qs ly))
  clear HA HB HX HY HF HNX HNY
  go_wp2_with fail
  go_region_held3 (fun W => W.cell? ⟨w.heap.size, 0, none⟩ = some (.slice A L.length cA) ∧ W.cell? ⟨w.heap.size, 1, none⟩ = some (.slice B l.length cB))
    (exact ⟨Loc.c 0 L4, Loc.c 1 L4⟩)
    (first
      | (go_at_call 14; refine (valid_any _ _ _ _ _ 2 _ _ _ (HMA.out _ kp) (HMB.out _ kp)).mono ?_; rintro e u1 ⟨he, hb5⟩; have he := he.eq T1.out; subst he; have y5 := hb5.size; (try simp only [World.size_alloc, size_set, size_drew, size_drewN] at y5))
      | (go_at_call 15; refine (rvalid_any _ _ _ _ _ 2 _ _ _ (HMA.out _ kp) (HMB.out _ kp)).mono ?_; rintro e u2 ⟨he, hb6⟩; have he := he.eq T1.out; subst he; have y6 := hb6.size; (try simp only [World.size_alloc, size_set, size_drew, size_drewN] at y6))
      | (go_at_call 16; refine (checkPoint_any _ _ _ (HS.out _ kp) (HMX.out _ kp) (by decide) (by decide)).mono ?_; rintro e u3 ⟨he, hb7⟩; have he := he.eq T2.out; subst he; have y7 := hb7.size; (try simp only [World.size_alloc, size_set, size_drew, size_drewN] at y7))
      | (go_at_call 17; refine (rcheckPoint_any _ _ _ (HS.out _ kp) (HMX.out _ kp) (by decide) (by decide)).mono ?_; rintro e u4 ⟨he, hb8⟩; have he := he.eq T2.out; subst he; have y8 := hb8.size; (try simp only [World.size_alloc, size_set, size_drew, size_drewN] at y8))
      | (go_at_call 18; refine (checkFarkas_any _ _ _ (HS.out _ kp) (HMY.out _ kp) (by decide) (by decide)).mono ?_; rintro e u5 ⟨he, hb9⟩; have he := he.eq T3.out; subst he; have y9 := hb9.size; (try simp only [World.size_alloc, size_set, size_drew, size_drewN] at y9))
      | (go_at_call 19; refine (rcheckFarkas_any _ _ _ (HS.out _ kp) (HMY.out _ kp) (by decide) (by decide)).mono ?_; rintro e u6 ⟨he, hb10⟩; have he := he.eq T3.out; subst he; have y10 := hb10.size; (try simp only [World.size_alloc, size_set, size_drew, size_drewN] at y10)))
  all_goals
    go_wp2_with fail
    go_ret
    exact ⟨rfl, bel⟩
end Go.Proofs.YtpeglenapmkdfaaGreat

/- The statement 'LinearChecks' out of its walk. The frame is the guide's own (proof-skeleton), printed by lawgen.py. -/
namespace Go.Proofs.YtpeglenapmkdfaaGreat.linearChecks
open Go.ChangeShapes Go.WideShapes Go.ChangeAt Go.RowKit Go.Proofs.YtpeglenapmkdfaaGreat
open Go.ChangeMaps (open_string shut_string)
set_option linter.unusedVariables false

set_option maxRecDepth 100000 in
theorem lifted (os : Os) (started : os.Started) (H : Type) (enc : TypeId × Value → H) :
    ReturnsInHanded {} Tryz.checked os 3 .any (Rows.linearChecksSpec.pre6 enc Tryz.prog Tryz.f3 Rows.linearChecksRow.domain false) (Rows.linearChecksSpec.post enc Tryz.prog Tryz.f3 false true false false) := by
  refine returnsInHanded_of_change (C := Tryz.checked) own started (by kernel_rfl) Tryz.func3
    (ChangeSpec.witness6 (enc := enc) (C := Tryz.checked) false ⟨#[], #[.agg #[.slice none 0 0, .slice none 0 0], .slice none 0 0, .slice none 0 0], []⟩ 8 (by kernel_rfl) (by kernel_rfl) (by kernel_rfl) (by kernel_rfl)) ?_
  intro W base args ds gs before hval0 hW hcnd _
  have hval : ∀ (j : Nat) t v, Tryz.f3.params[j]? = some t → args[j]? = some v → Value.okWide Tryz.prog W .any base t v := hval0
  have hW' := hW
  obtain ⟨p, q, hA0, hV, rfl, hfz, hnd⟩ := hW
  have hA : DataW.TrodAll enc Tryz.prog W 0 (fun _ => true) true Tryz.f3.params.toList args.toList ds p := hA0
  rw [Tryz.params3] at hA hval
  obtain ⟨v0, vs0, d0, ds0, p0, q0, hargs, rfl, rfl, h0, r0⟩ := trodAll_cons hA
  obtain ⟨v1, vs1, d1, ds1, p1, q1, rfl, rfl, rfl, h1, r1⟩ := trodAll_cons r0
  obtain ⟨v2, vs2, d2, ds2, p2, q2, rfl, rfl, rfl, h2, r2⟩ := trodAll_cons r1
  obtain ⟨rfl, rfl, rfl⟩ := trodAll_nil r2
  obtain rfl : args = #[v0, v1, v2] := by cases args; simp_all
  obtain ⟨rfl, rfl⟩ := trodVars_none hV
  have lt0 : ∀ x ∈ p0, x.block < W.heap.size := by obtain ⟨m, hm⟩ := h0; exact DataW.trod_lt m _ _ _ hm
  have k0 := fun (W' : World) (bel : Below W.heap.size W W') => Below.trod laidOut (by kernel_rfl) (of_decide_eq_true (by kernel_rfl)) h0 bel lt0
  obtain ⟨va0, vb0, L0, l0, e0, ha0, hb0⟩ := open_System (hval 0 25 v0 rfl rfl) h0
  have lt1 : ∀ x ∈ p1, x.block < W.heap.size := by obtain ⟨m, hm⟩ := h1; exact DataW.trod_lt m _ _ _ hm
  have k1 := fun (W' : World) (bel : Below W.heap.size W W') => Below.trod laidOut (by kernel_rfl) (of_decide_eq_true (by kernel_rfl)) h1 bel lt1
  obtain ⟨l1, o1⟩ := open_RatsV (hval 1 23 v1 rfl rfl) h1
  have lt2 : ∀ x ∈ p2, x.block < W.heap.size := by obtain ⟨m, hm⟩ := h2; exact DataW.trod_lt m _ _ _ hm
  have k2 := fun (W' : World) (bel : Below W.heap.size W W') => Below.trod laidOut (by kernel_rfl) (of_decide_eq_true (by kernel_rfl)) h2 bel lt2
  obtain ⟨l2, o2⟩ := open_RatsV (hval 2 23 v2 rfl rfl) h2
  subst e0
  refine (checks_walk _ _ _ _ _ _ _ _ _ ha0 hb0 o1 o2).mono fun e W' ⟨he, bel⟩ => ?_
  subst he
  exact ⟨_, rfl, _, _, _, [], _, [], hW', trodAll_mk1 (shut_bool Tryz.underlying4 _), (trodAll_cons_mk (k0 _ bel) (trodAll_cons_mk (k1 _ bel) (trodAll_cons_mk (k2 _ bel) trodAll_mk0))), rfl, bel.frame _, fun h => by cases h⟩

theorem over : Rows.linearChecksRow.holds Tryz.pinned (OpenSpec.ofChange Rows.linearChecksSpec) :=
  OpenClaim.holds_of_wide 3 Tryz.f3 rfl rfl rfl rfl rfl rfl rfl ⟨rfl, rfl, rfl, rfl, rfl⟩ rfl rfl rfl rfl rfl (by kernel_rfl) Tryz.func3 (by kernel_rfl)
    (of_decide_eq_true (by kernel_rfl)) (by unfold Func.isWrapper; first | (rw [if_pos (by decide +kernel)]; kernel_rfl) | (rw [if_neg (by decide +kernel)]; exact ⟨rfl, rfl⟩))
    (fun os started H enc _ => lifted os started H enc)

/-- The statement: for every input the law returns true; each argument reads behind the call as it read before. -/
theorem proved : Rows.LinearChecksSaid := over
end Go.Proofs.YtpeglenapmkdfaaGreat.linearChecks

