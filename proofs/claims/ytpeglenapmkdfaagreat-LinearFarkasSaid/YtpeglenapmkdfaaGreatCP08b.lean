/- For every input the law returns true: the law's walk, and the statement out of it. -/
import Derived.Test.YtpeglenapmkdfaaGreatRows
import Derived.Test.YtpeglenapmkdfaaGreatM2
import Derived.Test.YtpeglenapmkdfaaGreatM14
import Derived.Test.YtpeglenapmkdfaaGreatM17
import Derived.Test.YtpeglenapmkdfaaGreatM45
set_option linter.unusedSimpArgs false
set_option linter.unusedVariables false

/- LinearFarkas: the law's walk. -/
namespace Go.Proofs.YtpeglenapmkdfaaGreat
open Go.RowKit
attribute [local go_sem ↓] Go.wp_at_zero Go.wp_at_succ
attribute [local go_sem] beq_self_eq_true

set_option maxRecDepth 100000 in
set_option maxHeartbeats 16000000 in
theorem farkas_walk (w : World) (v0 v1 vx vy : Value) (L : List (List RF)) (l lx ly : List RF) (hA : RMat w v0 L) (hB : Rats w (fun _ => False) v1 l) (hx : Rats w (fun _ => False) vx lx) (hy : Rats w (fun _ => False) vy ly) :
    Calls Tryz.prog 4 #[.agg #[v0, v1], vx, vy] w fun e w' => e = .returned (.bool true) ∧ Below w.heap.size w w' := by
  have HA := Lib.hid hA
  have HB := Lib.hid hB
  have HX := Lib.hid hx
  have HY := Lib.hid hy
  obtain ⟨A, cA, rfl, hA, la1, la2⟩ := hA.op
  obtain ⟨B, cB, rfl, hB, lb1, lb2⟩ := hB.op
  obtain ⟨X, cX, rfl, hx, lx1, lx2⟩ := hx.op
  obtain ⟨Y, cY, rfl, hy, ly1, ly2⟩ := hy.op
  clear hA hB hx hy
  have L1 := made1 w #[.slice A L.length cA, .slice B l.length cB] 25
  go_enter Tryz.func4, Tryz.ntmps4
  go_wp2_with fail
  refine (known08_any _).mono ?_
  rintro e w1 ⟨rfl, hb1⟩
  have z1 := sz1 hb1
  obtain ⟨e1, f1, l1⟩ := L1.all (w' := w1)
  go_wp2_with fail
  refine (few_any8 _ _ _ L l (HA.out.keep kp) (HB.out.keep kp)).mono ?_
  rintro e w2 ⟨⟨b, rfl, hb⟩, hb2⟩
  have y2 := hb2.size; (try simp only [World.size_alloc, size_set, size_drew, size_drewN] at y2)
  clear e1 f1 l1
  obtain ⟨e1, f1, l1⟩ := L1.all (w' := w2)
  cases b
  · clear hb
    go_wp2_with fail
    go_ret
    exact ⟨rfl, bel⟩
  have HF : Hid (FewS L l) := hb.out.1 rfl
  clear hb
  go_wp2_with fail
  refine (numbers_any _ _ lx 10 (HX.out.keep kp) (by decide)).mono ?_
  rintro e w3 ⟨⟨b, rfl, hb⟩, hb3⟩
  have y3 := hb3.size; (try simp only [World.size_alloc, size_set, size_drew, size_drewN] at y3)
  cases b
  · clear hb
    go_wp2_with fail
    go_ret
    exact ⟨rfl, bel⟩
  have HNX : Hid (NB lx 10) := hb.out.1 rfl
  clear hb
  go_wp2_with fail
  refine (numbers_any _ _ ly 10 (HY.out.keep kp) (by decide)).mono ?_
  rintro e w4 ⟨⟨b, rfl, hb⟩, hb4⟩
  have y4 := hb4.size; (try simp only [World.size_alloc, size_set, size_drew, size_drewN] at y4)
  cases b
  · clear hb
    go_wp2_with fail
    go_ret
    exact ⟨rfl, bel⟩
  have HNY : Hid (NB ly 10) := hb.out.1 rfl
  clear hb
  have HS : Hid (∀ W, Keep (fun _ => False) w W → Sys 2 W (.agg #[.slice A L.length cA, .slice B l.length cB]) L.length l.length (lens L) (qm L) (qs l)) := fun W hW => HF.out.sys (HA.out.keep hW) (HB.out.keep hW)
  have HMA : Hid (∀ W, Keep (fun _ => False) w W → Mat 2 W (fun _ => False) (.slice A L.length cA) L.length (lens L) (qm L)) := fun W hW => HF.out.mat (HA.out.keep hW)
  have HMB : Hid (∀ W, Keep (fun _ => False) w W → Nums 2 W (fun _ => False) (.slice B l.length cB) l.length (qs l)) := fun W hW => HF.out.rhs (HB.out.keep hW)
  have HMX : Hid (∀ W, Keep (fun _ => False) w W → Nums 2 W (fun _ => False) (.slice X lx.length cX) lx.length (qs lx)) := fun W hW => HNX.out.nums (HX.out.keep hW)
  have HMY : Hid (∀ W, Keep (fun _ => False) w W → Nums 2 W (fun _ => False) (.slice Y ly.length cY) ly.length (qs ly)) := fun W hW => HNY.out.nums (HY.out.keep hW)
  obtain ⟨b2, T2⟩ := tell (PT L.length l.length (lens L) (qm L) (qs l) lx.length (qs lx))
  obtain ⟨b3, T3⟩ := tell (FK L.length l.length (lens L) (qm L) (qs l) ly.length (qs ly))
  have HNB : Hid (b2 = true → b3 = true → False) := fun h2 h3 => not_bothS (T2.out.1 h2) (T3.out.1 h3)
  clear e1 f1 l1
  obtain ⟨e1, f1, l1⟩ := L1.all (w' := w4)
  go_wp2_with fail
  refine (checkPoint_any _ _ _ (HS.out _ kp) (HMX.out _ kp) (by decide) (by decide)).mono ?_
  rintro e w5 ⟨he, hb5⟩
  have he := he.eq T2.out
  subst he
  have y5 := hb5.size; (try simp only [World.size_alloc, size_set, size_drew, size_drewN] at y5)
  have L5 : Loc w5 w.heap.size _ _ := L1.to
  clear e1 f1 l1
  obtain ⟨e1, f1, l1⟩ := L5.all (w' := w5)
  have hw5 : Below w.heap.size w w5 := bel
  obtain ⟨LW, hLW⟩ : ∃ LW : Nat, LW = w5.heap.size := ⟨_, rfl⟩
  cases b2
  · go_wp2_with fail
    refine (solve_any _ _ L.length l.length 2 126 779 (lens L) (qm L) (qs l) (HS.out _ kp) (by decide) (by decide) (by decide) (by decide) (by decide) (by decide) (HF.out.sz1 (HS.out w (Keep.refl _ _)))).mono ?_
    rintro e w6 ⟨b, vX, vY, nx, ny, f, y, code, rfl, hn, hs, hb6⟩
    have y6 := hb6.size; (try simp only [World.size_alloc, size_set, size_drew, size_drewN] at y6)
    obtain ⟨X2, cX2, rfl, hx, -, -⟩ := hn.out.1.op
    obtain ⟨Y2, cY2, rfl, hy, -, -⟩ := hn.out.2.op
    clear hn hx hy e1 f1 l1
    have LR := made1 w6 #[.bool b, .slice X2 nx cX2, .slice Y2 ny cY2] 32
    have L6 : Loc (w6.alloc (.cells #[.bool b, .slice X2 nx cX2, .slice Y2 ny cY2] 32)) w.heap.size _ _ := L5.to
    obtain ⟨e1, f1, l1⟩ := L6.all
    go_wp2_with fail
    refine (checkPoint_any _ _ _ (HS.out _ kp) (HMX.out _ kp) (by decide) (by decide)).mono ?_
    rintro e w7 ⟨he, hb7⟩
    have he := he.eq T2.out
    subst he
    have y7 := hb7.size; (try simp only [World.size_alloc, size_set, size_drew, size_drewN] at y7)
    clear e1 f1 l1
    have L7 : Loc w7 w.heap.size _ _ := L6.to
    obtain ⟨e1, f1, l1⟩ := L7.all
    go_wp2_with fail
    refine (checkFarkas_any _ _ _ (HS.out _ kp) (HMY.out _ kp) (by decide) (by decide)).mono ?_
    rintro e w8 ⟨he, hb8⟩
    have he := he.eq T3.out
    subst he
    have y8 := hb8.size; (try simp only [World.size_alloc, size_set, size_drew, size_drewN] at y8)
    have LR8 : Loc w8 w6.heap.size _ _ := LR.to
    obtain ⟨e6, f6, l6⟩ := LR8.all
    cases b3
    · go_wp2_with fail
      go_ret
      exact ⟨rfl, bel⟩
    · have HFK : Hid (FK L.length l.length (lens L) (qm L) (qs l) ly.length (qs ly)) := T3.out.1 rfl
      obtain ⟨rfl, hrs⟩ := hs.out.1 HFK.out.1
      have hbf : b = false := rs_fk hrs HFK.out
      subst hbf
      clear hs hrs
      go_wp2_with fail
      go_ret
      exact ⟨rfl, bel⟩
  · obtain rfl : b3 = false := by
      cases b3
      · rfl
      · exact (HNB.out rfl rfl).elim
    have HPT : Hid (PT L.length l.length (lens L) (qm L) (qs l) lx.length (qs lx)) := T2.out.1 rfl
    clear T2
    go_wp2_with fail
    refine (checkFarkas_any _ _ _ (HS.out _ kp) (HMY.out _ kp) (by decide) (by decide)).mono ?_
    rintro e w6 ⟨he, hb6⟩
    have he := he.eq T3.out
    subst he
    have y6 := hb6.size; (try simp only [World.size_alloc, size_set, size_drew, size_drewN] at y6)
    have L6 : Loc w6 w.heap.size _ _ := L5.to
    clear e1 f1 l1
    obtain ⟨e1, f1, l1⟩ := L6.all (w' := w6)
    go_wp2_with fail
    refine (solve_any _ _ L.length l.length 2 126 779 (lens L) (qm L) (qs l) (HS.out _ kp) (by decide) (by decide) (by decide) (by decide) (by decide) (by decide) (HF.out.sz1 (HS.out w (Keep.refl _ _)))).mono ?_
    rintro e w7 ⟨b, vX, vY, nx, ny, f, y, code, rfl, hn, hs, hb7⟩
    have y7 := hb7.size; (try simp only [World.size_alloc, size_set, size_drew, size_drewN] at y7)
    obtain ⟨X2, cX2, rfl, hx, -, -⟩ := hn.out.1.op
    obtain ⟨Y2, cY2, rfl, hy, -, -⟩ := hn.out.2.op
    obtain ⟨rfl, hrs⟩ := hs.out.1 HPT.out.1
    have hbt : b = true := rs_pt hrs HPT.out
    subst hbt
    clear hn hx hy hs hrs e1 f1 l1
    have LR := made1 w7 #[.bool true, .slice X2 nx cX2, .slice Y2 ny cY2] 32
    have L7 : Loc (w7.alloc (.cells #[.bool true, .slice X2 nx cX2, .slice Y2 ny cY2] 32)) w.heap.size _ _ := L6.to
    obtain ⟨e1, f1, l1⟩ := L7.all
    go_wp2_with fail
    refine (checkPoint_any _ _ _ (HS.out _ kp) (HMX.out _ kp) (by decide) (by decide)).mono ?_
    rintro e w8 ⟨he, hb8⟩
    have he := he.eq (b := true) ⟨fun _ => HPT.out, fun _ => rfl⟩
    subst he
    have y8 := hb8.size; (try simp only [World.size_alloc, size_set, size_drew, size_drewN] at y8)
    clear e1 f1 l1
    have L8 : Loc w8 w.heap.size _ _ := L7.to
    obtain ⟨e1, f1, l1⟩ := L8.all
    have LR8 : Loc w8 w7.heap.size _ _ := LR.to
    obtain ⟨e6, f6, l6⟩ := LR8.all
    go_wp2_with fail
    refine (checkFarkas_any _ _ _ (HS.out _ kp) (HMY.out _ kp) (by decide) (by decide)).mono ?_
    rintro e w9 ⟨he, hb9⟩
    have he := he.eq T3.out
    subst he
    have y9 := hb9.size; (try simp only [World.size_alloc, size_set, size_drew, size_drewN] at y9)
    go_wp2_with fail
    go_ret
    exact ⟨rfl, bel⟩
end Go.Proofs.YtpeglenapmkdfaaGreat

/- The statement 'LinearFarkas' out of its walk. The frame is the guide's own (proof-skeleton), printed by lawgen.py. -/
namespace Go.Proofs.YtpeglenapmkdfaaGreat.linearFarkas
open Go.ChangeShapes Go.WideShapes Go.ChangeAt Go.RowKit Go.Proofs.YtpeglenapmkdfaaGreat
open Go.ChangeMaps (open_string shut_string)
set_option linter.unusedVariables false

set_option maxRecDepth 100000 in
theorem lifted (os : Os) (started : os.Started) (H : Type) (enc : TypeId × Value → H) :
    ReturnsInHanded {} Tryz.checked os 4 .any (Rows.linearFarkasSpec.pre6 enc Tryz.prog Tryz.f4 Rows.linearFarkasRow.domain false) (Rows.linearFarkasSpec.post enc Tryz.prog Tryz.f4 false true false false) := by
  refine returnsInHanded_of_change (C := Tryz.checked) own started (by kernel_rfl) Tryz.func4
    (ChangeSpec.witness6 (enc := enc) (C := Tryz.checked) false ⟨#[], #[.agg #[.slice none 0 0, .slice none 0 0], .slice none 0 0, .slice none 0 0], []⟩ 8 (by kernel_rfl) (by kernel_rfl) (by kernel_rfl) (by kernel_rfl)) ?_
  intro W base args ds gs before hval0 hW hcnd _
  have hval : ∀ (j : Nat) t v, Tryz.f4.params[j]? = some t → args[j]? = some v → Value.okWide Tryz.prog W .any base t v := hval0
  have hW' := hW
  obtain ⟨p, q, hA0, hV, rfl, hfz, hnd⟩ := hW
  have hA : DataW.TrodAll enc Tryz.prog W 0 (fun _ => true) true Tryz.f4.params.toList args.toList ds p := hA0
  rw [Tryz.params4] at hA hval
  obtain ⟨v0, vs0, d0, ds0, p0, q0, hargs, rfl, rfl, h0, r0⟩ := trodAll_cons hA
  obtain ⟨v1, vs1, d1, ds1, p1, q1, rfl, rfl, rfl, h1, r1⟩ := trodAll_cons r0
  obtain ⟨v2, vs2, d2, ds2, p2, q2, rfl, rfl, rfl, h2, r2⟩ := trodAll_cons r1
  obtain ⟨rfl, rfl, rfl⟩ := trodAll_nil r2
  obtain rfl : args = #[v0, v1, v2] := by cases args; simp_all
  obtain ⟨rfl, rfl⟩ := trodVars_none hV
  have lt0 : ∀ x ∈ p0, x.block < W.heap.size := by obtain ⟨m, hm⟩ := h0; exact DataW.trod_lt m _ _ _ hm
  have k0 := fun (W' : World) (bel : Below W.heap.size W W') => Below.trod laidOut (by kernel_rfl) (of_decide_eq_true (by kernel_rfl)) h0 bel lt0
  obtain ⟨va0, vb0, L0, l0, e0, ha0, hb0⟩ := open_System (hval 0 25 v0 rfl rfl) h0
  have lt1 : ∀ x ∈ p1, x.block < W.heap.size := by obtain ⟨m, hm⟩ := h1; exact DataW.trod_lt m _ _ _ hm
  have k1 := fun (W' : World) (bel : Below W.heap.size W W') => Below.trod laidOut (by kernel_rfl) (of_decide_eq_true (by kernel_rfl)) h1 bel lt1
  obtain ⟨l1, o1⟩ := open_RatsV (hval 1 23 v1 rfl rfl) h1
  have lt2 : ∀ x ∈ p2, x.block < W.heap.size := by obtain ⟨m, hm⟩ := h2; exact DataW.trod_lt m _ _ _ hm
  have k2 := fun (W' : World) (bel : Below W.heap.size W W') => Below.trod laidOut (by kernel_rfl) (of_decide_eq_true (by kernel_rfl)) h2 bel lt2
  obtain ⟨l2, o2⟩ := open_RatsV (hval 2 23 v2 rfl rfl) h2
  subst e0
  refine (farkas_walk _ _ _ _ _ _ _ _ _ ha0 hb0 o1 o2).mono fun e W' ⟨he, bel⟩ => ?_
  subst he
  exact ⟨_, rfl, _, _, _, [], _, [], hW', trodAll_mk1 (shut_bool Tryz.underlying4 _), (trodAll_cons_mk (k0 _ bel) (trodAll_cons_mk (k1 _ bel) (trodAll_cons_mk (k2 _ bel) trodAll_mk0))), rfl, bel.frame _, fun h => by cases h⟩

theorem over : Rows.linearFarkasRow.holds Tryz.pinned (OpenSpec.ofChange Rows.linearFarkasSpec) :=
  OpenClaim.holds_of_wide 4 Tryz.f4 rfl rfl rfl rfl rfl rfl rfl ⟨rfl, rfl, rfl, rfl, rfl⟩ rfl rfl rfl rfl rfl (by kernel_rfl) Tryz.func4 (by kernel_rfl)
    (of_decide_eq_true (by kernel_rfl)) (by unfold Func.isWrapper; first | (rw [if_pos (by decide +kernel)]; kernel_rfl) | (rw [if_neg (by decide +kernel)]; exact ⟨rfl, rfl⟩))
    (fun os started H enc _ => lifted os started H enc)

/-- The statement: for every input the law returns true; each argument reads behind the call as it read before. -/
theorem proved : Rows.LinearFarkasSaid := over
end Go.Proofs.YtpeglenapmkdfaaGreat.linearFarkas

