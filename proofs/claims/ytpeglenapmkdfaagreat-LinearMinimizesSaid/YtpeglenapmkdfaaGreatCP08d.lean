/- For every input the law returns true: the law's walk, and the statement out of it. -/
import Derived.Test.YtpeglenapmkdfaaGreatRows
import Derived.Test.YtpeglenapmkdfaaGreatM2
import Derived.Test.YtpeglenapmkdfaaGreatM14
import Derived.Test.YtpeglenapmkdfaaGreatM17
import Derived.Test.YtpeglenapmkdfaaGreatM45
set_option linter.unusedSimpArgs false
set_option linter.unusedVariables false

/- LinearMinimizes: the law's walk. -/
namespace Go.Proofs.YtpeglenapmkdfaaGreat
open Go.RowKit
attribute [local go_sem ↓] Go.wp_at_zero Go.wp_at_succ
attribute [local go_sem] beq_self_eq_true

set_option maxRecDepth 100000 in
set_option maxHeartbeats 16000000 in
theorem minimizes_walk (w : World) (v0 v1 v2 : Value) (L : List (List RF)) (l lc : List RF) (hA : RMat w v0 L) (hB : Rats w (fun _ => False) v1 l) (hC : Rats w (fun _ => False) v2 lc) :
    Calls Tryz.prog 8 #[.agg #[v0, v1, v2]] w fun e w' => e = .returned (.bool true) ∧ Below w.heap.size w w' := by
  have HA := Lib.hid hA
  have HB := Lib.hid hB
  have HCC := Lib.hid hC
  obtain ⟨A, cA, rfl, hA, la1, la2⟩ := hA.op
  obtain ⟨B, cB, rfl, hB, lb1, lb2⟩ := hB.op
  obtain ⟨C, cC, rfl, hC, lcc1, lcc2⟩ := hC.op
  clear hA hB hC
  have L1 := made1 w #[.slice A L.length cA, .slice B l.length cB, .slice C lc.length cC] 37
  go_enter Tryz.func8, Tryz.ntmps8
  go_wp2_with fail
  refine (known08_any _).mono ?_
  rintro e w1 ⟨rfl, hb1⟩
  have z1 := sz1 hb1
  obtain ⟨e1, f1, l1⟩ := L1.all (w' := w1)
  go_wp2_with fail
  refine (few_any8 _ _ _ L l (HA.out.keep kp) (HB.out.keep kp)).mono ?_
  rintro e w2 ⟨⟨b, rfl, hb⟩, hb2⟩
  have y2 := hb2.size; (try simp only [World.size_alloc, size_set, size_drew, size_drewN] at y2)
  clear e1 f1 l1
  obtain ⟨e1, f1, l1⟩ := L1.all (w' := w2)
  cases b
  · clear hb
    go_wp2_with fail
    go_ret
    exact ⟨rfl, bel⟩
  have HF : Hid (FewS L l) := hb.out.1 rfl
  clear hb
  go_wp2_with fail
  refine (numbers_any _ _ lc 10 (HCC.out.keep kp) (by decide)).mono ?_
  rintro e w3 ⟨⟨b, rfl, hb⟩, hb3⟩
  have y3 := hb3.size; (try simp only [World.size_alloc, size_set, size_drew, size_drewN] at y3)
  cases b
  · clear hb
    go_wp2_with fail
    go_ret
    exact ⟨rfl, bel⟩
  have HNC : Hid (NB lc 10) := hb.out.1 rfl
  clear hb
  clear e1 f1 l1
  obtain ⟨e1, f1, l1⟩ := L1.all (w' := w3)
  have HS : Hid (∀ W, Keep (fun _ => False) w W → Sys 2 W (.agg #[.slice A L.length cA, .slice B l.length cB]) L.length l.length (lens L) (qm L) (qs l)) := fun W hW => HF.out.sys (HA.out.keep hW) (HB.out.keep hW)
  have HMA : Hid (∀ W, Keep (fun _ => False) w W → Mat 2 W (fun _ => False) (.slice A L.length cA) L.length (lens L) (qm L)) := fun W hW => HF.out.mat (HA.out.keep hW)
  have HMB : Hid (∀ W, Keep (fun _ => False) w W → Nums 2 W (fun _ => False) (.slice B l.length cB) l.length (qs l)) := fun W hW => HF.out.rhs (HB.out.keep hW)
  have HC : Hid (∀ W, Keep (fun _ => False) w W → Nums 2 W (fun _ => False) (.slice C lc.length cC) lc.length (qs lc)) := fun W hW => HNC.out.nums (HCC.out.keep hW)
  have K3 : Loc w3 w.heap.size _ _ := L1.to
  have hw3 : Keep (fun _ => False) w w3 := kp
  have hww3 : w.heap.size + 1 ≤ w3.heap.size := by omega
  go_wp2_with fail
  refine (minimizeTop_any _ _ _ L.length l.length 2 126 779 1568 lc.length (lens L) (qm L) (qs l) (qs lc) (HS.out _ kp) (HC.out _ kp) (by decide) (by decide) (by decide) (by decide) (by decide) (by decide) (by decide) (by decide) (HF.out.sz1x (HS.out w (Keep.refl _ _))) (HF.out.sz2 (HS.out w (Keep.refl _ _)) (HC.out w (Keep.refl _ _)))).mono ?_
  rintro e w4 ⟨vO, code, kind, nx, ny, nr, f, y, r, val, rfl, HO, hs, hb4⟩
  have y4 := hb4.size; (try simp only [World.size_alloc, size_set, size_drew, size_drewN] at y4)
  obtain ⟨X, Y, R, cX, cY, cR, bn, EA, en, ec, bn', EB, en', ed, rfl, hx, hy, hr, hv⟩ := HO.out
  have HX := Lib.hid hx
  have HY := Lib.hid hy
  have HR := Lib.hid hr
  have HV := Lib.hid hv
  clear HO hx hy hr hv e1 f1 l1
  have LO := made1 w4 #[.int .i64 kind, .slice X nx cX, .slice Y ny cY, .slice R nr cR, .bool bn, .slice EA en ec, .bool bn', .slice EB en' ed] 51
  have K4 : Loc (w4.alloc (.cells #[.int .i64 kind, .slice X nx cX, .slice Y ny cY, .slice R nr cR, .bool bn, .slice EA en ec, .bool bn', .slice EB en' ed] 51)) w.heap.size _ _ := K3.to
  obtain ⟨e1, f1, l1⟩ := K4.all
  obtain ⟨b1, T1⟩ := tell (VS L.length l.length (lens L))
  go_wp2_with fail
  refine (rvalid_any _ _ _ _ _ 2 _ _ _ (HMA.out _ kp) (HMB.out _ kp)).mono ?_
  rintro e w5 ⟨he, hb5⟩
  have he := he.eq T1.out
  subst he
  have y5 := hb5.size; (try simp only [World.size_alloc, size_set, size_drew, size_drewN] at y5)
  have K5 : Loc w5 w.heap.size _ _ := K4.to
  have LO5 : Loc w5 w4.heap.size _ _ := LO.to
  clear e1 f1 l1
  obtain ⟨e1, f1, l1⟩ := K5.all
  obtain ⟨e2, f2, l2⟩ := LO5.all
  cases b1
  · have HVS : Hid (¬ VS L.length l.length (lens L)) := fun h => by have := T1.out.2 h; cases this
    obtain ⟨rfl, rfl, rfl, rfl⟩ := hs.out.1 HVS.out
    clear hs T1 HVS
    go_wp2_with fail
    go_ret
    exact ⟨rfl, bel⟩
  have HVS : Hid (VS L.length l.length (lens L)) := T1.out.1 rfl
  clear T1
  obtain ⟨n, hn⟩ : ∃ n, lens L 0 = n := ⟨_, rfl⟩
  have HN := Lib.hid hn
  obtain ⟨a, D, d, rfl, hab, -, hcell, -, l9, l10⟩ := Mat.at (HMA.out w5 kp) (show 0 < L.length from HVS.out.1)
  have ea0 : a.add 0 = a := by simp [Addr.add]
  rw [ea0, hn] at hcell
  rw [hn] at l9
  have q0 : (0 : Int) < (L.length : Int) := by have := HVS.out.1; omega
  have HSh : Hid (∀ W, Keep (fun _ => False) w5 W → W.cell? a = some (.slice D n d)) := fun W hW => cell_keep hcell hab id hW
  clear hn
  by_cases hnc : lc.length = n
  · have HNC2 : Hid (lc.length = lens L 0) := hnc.trans HN.out.symm
    obtain ⟨rfl, hop⟩ := hs.out.2.2 HVS.out HNC2.out
    have HOP := Lib.hid hop
    have h4 : ((lc.length : Int) == (n : Int)) = true := beq_iff_eq.2 (by omega)
    have h5 : ((lc.length : Int) != (n : Int)) = false := by simp only [bne, h4]; rfl
    have hk := hop.kinds
    clear hs hop hnc
    go_wp2_with fail
    go_quiet (fail)
    go_wp2_with fail
    refine (solve_any _ _ L.length l.length 2 126 779 (lens L) (qm L) (qs l) (HS.out _ kp) (by decide) (by decide) (by decide) (by decide) (by decide) (by decide) (HF.out.sz1 (HS.out w (Keep.refl _ _)))).mono ?_
    rintro e w6 ⟨b, vP, vQ, np, nq, p, q, code, rfl, hn6, hs6, hb6⟩
    have y6 := hb6.size; (try simp only [World.size_alloc, size_set, size_drew, size_drewN] at y6)
    obtain ⟨P, cP, rfl, -, -, -⟩ := hn6.out.1.op
    obtain ⟨Q, cQ, rfl, -, -, -⟩ := hn6.out.2.op
    obtain ⟨rfl, hrs⟩ := hs6.out.1 HVS.out
    have HRS := Lib.hid hrs
    clear hn6 hs6 hrs e1 f1 l1 e2 f2 l2
    have K6 : Loc w6 w.heap.size _ _ := K5.to
    have LO6 : Loc w6 w4.heap.size _ _ := LO5.to
    have LR := made1 w6 #[.bool b, .slice P np cP, .slice Q nq cQ] 32
    have hks : (kind = 0 ∧ b = false) ∨ (kind = 1 ∧ b = true) ∨ (kind = 2 ∧ b = true) := by
      rcases hk with rfl | rfl | rfl
      · exact .inl ⟨rfl, optimum_no HOP.out HRS.out⟩
      · exact .inr (.inl ⟨rfl, optimum_yes HOP.out (by decide) HRS.out⟩)
      · exact .inr (.inr ⟨rfl, optimum_yes HOP.out (by decide) HRS.out⟩)
    clear hk
    go_wp2_with fail
    rcases hks with ⟨rfl, rfl⟩ | ⟨rfl, rfl⟩ | ⟨rfl, rfl⟩
    · go_region_held3 (fun W => ((W.cell? ⟨w.heap.size, 0, none⟩ = some (.slice (some a) L.length cA) ∧ W.cell? ⟨w.heap.size, 1, none⟩ = some (.slice B l.length cB)) ∧ W.cell? ⟨w.heap.size, 2, none⟩ = some (.slice C lc.length cC)) ∧ W.cell? ⟨w6.heap.size, 0, none⟩ = some (.bool false) ∧
          (W.cell? ⟨w4.heap.size, 0, none⟩ = some (.int .i64 0) ∧ W.cell? ⟨w4.heap.size, 1, none⟩ = some (.slice X nx cX) ∧ W.cell? ⟨w4.heap.size, 2, none⟩ = some (.slice Y ny cY) ∧ W.cell? ⟨w4.heap.size, 3, none⟩ = some (.slice R nr cR) ∧ W.cell? ⟨w4.heap.size, 4, none⟩ = some (.bool bn) ∧ W.cell? ⟨w4.heap.size, 5, none⟩ = some (.slice EA en ec) ∧ W.cell? ⟨w4.heap.size, 6, none⟩ = some (.bool bn') ∧ W.cell? ⟨w4.heap.size, 7, none⟩ = some (.slice EB en' ed)))
        (exact ⟨⟨⟨Loc.c 0 K6, Loc.c 1 K6⟩, Loc.c 2 K6⟩, Loc.c 0 LR, Loc.c 0 LO6, Loc.c 1 LO6, Loc.c 2 LO6, Loc.c 3 LO6, Loc.c 4 LO6, Loc.c 5 LO6, Loc.c 6 LO6, Loc.c 7 LO6⟩)
        (first
          | (go_at_call 33; refine (checkOptimum_any (k := 1568) _ _ _ _ _ _ 0 _ _ _ _ _ _ _ _ ((HS.out _ kp).mono (by decide)) ((HC.out _ kp).mono (by decide)) (HX.out.keep kp) (HY.out.keep kp) (HR.out.keep kp) (HV.out.keep kp) (by decide) (by decide)).mono ?_; rintro e u3 ⟨he, hb13⟩; have he := he.eq (b := true) ⟨fun _ => HOP.out, fun _ => rfl⟩; subst he; have y13 := hb13.size; (try simp only [World.size_alloc, size_set, size_drew, size_drewN] at y13))
          | (go_at_call 32; refine (ref_any _ _ _ _ _ _ _ _ _ _ _ _ _ _ _ _ _ _ _).mono ?_; rintro e u4 ⟨he, hb14⟩; subst he; have y14 := hb14.size; (try simp only [World.size_alloc, size_set, size_drew, size_drewN] at y14))
          | (go_at_call 31; refine (rcheckOptimum_any (k := 1568) _ _ _ _ _ _ 0 _ _ _ _ _ _ _ _ ((HS.out _ kp).mono (by decide)) ((HC.out _ kp).mono (by decide)) (HX.out.keep kp) (HY.out.keep kp) (HR.out.keep kp) (HV.out.keep kp) (by decide) (by decide)).mono ?_; rintro e u5 ⟨he, hb15⟩; have he := he.eq (b := true) ⟨fun _ => HOP.out, fun _ => rfl⟩; subst he; have y15 := hb15.size; (try simp only [World.size_alloc, size_set, size_drew, size_drewN] at y15)))
      all_goals
        go_wp2_with fail
        go_ret
        exact ⟨rfl, bel⟩
    · go_region_held3 (fun W => ((W.cell? ⟨w.heap.size, 0, none⟩ = some (.slice (some a) L.length cA) ∧ W.cell? ⟨w.heap.size, 1, none⟩ = some (.slice B l.length cB)) ∧ W.cell? ⟨w.heap.size, 2, none⟩ = some (.slice C lc.length cC)) ∧ W.cell? ⟨w6.heap.size, 0, none⟩ = some (.bool true) ∧
          (W.cell? ⟨w4.heap.size, 0, none⟩ = some (.int .i64 1) ∧ W.cell? ⟨w4.heap.size, 1, none⟩ = some (.slice X nx cX) ∧ W.cell? ⟨w4.heap.size, 2, none⟩ = some (.slice Y ny cY) ∧ W.cell? ⟨w4.heap.size, 3, none⟩ = some (.slice R nr cR) ∧ W.cell? ⟨w4.heap.size, 4, none⟩ = some (.bool bn) ∧ W.cell? ⟨w4.heap.size, 5, none⟩ = some (.slice EA en ec) ∧ W.cell? ⟨w4.heap.size, 6, none⟩ = some (.bool bn') ∧ W.cell? ⟨w4.heap.size, 7, none⟩ = some (.slice EB en' ed)))
        (exact ⟨⟨⟨Loc.c 0 K6, Loc.c 1 K6⟩, Loc.c 2 K6⟩, Loc.c 0 LR, Loc.c 0 LO6, Loc.c 1 LO6, Loc.c 2 LO6, Loc.c 3 LO6, Loc.c 4 LO6, Loc.c 5 LO6, Loc.c 6 LO6, Loc.c 7 LO6⟩)
        (first
          | (go_at_call 33; refine (checkOptimum_any (k := 1568) _ _ _ _ _ _ 1 _ _ _ _ _ _ _ _ ((HS.out _ kp).mono (by decide)) ((HC.out _ kp).mono (by decide)) (HX.out.keep kp) (HY.out.keep kp) (HR.out.keep kp) (HV.out.keep kp) (by decide) (by decide)).mono ?_; rintro e u3 ⟨he, hb13⟩; have he := he.eq (b := true) ⟨fun _ => HOP.out, fun _ => rfl⟩; subst he; have y13 := hb13.size; (try simp only [World.size_alloc, size_set, size_drew, size_drewN] at y13))
          | (go_at_call 32; refine (ref_any _ _ _ _ _ _ _ _ _ _ _ _ _ _ _ _ _ _ _).mono ?_; rintro e u4 ⟨he, hb14⟩; subst he; have y14 := hb14.size; (try simp only [World.size_alloc, size_set, size_drew, size_drewN] at y14))
          | (go_at_call 31; refine (rcheckOptimum_any (k := 1568) _ _ _ _ _ _ 1 _ _ _ _ _ _ _ _ ((HS.out _ kp).mono (by decide)) ((HC.out _ kp).mono (by decide)) (HX.out.keep kp) (HY.out.keep kp) (HR.out.keep kp) (HV.out.keep kp) (by decide) (by decide)).mono ?_; rintro e u5 ⟨he, hb15⟩; have he := he.eq (b := true) ⟨fun _ => HOP.out, fun _ => rfl⟩; subst he; have y15 := hb15.size; (try simp only [World.size_alloc, size_set, size_drew, size_drewN] at y15)))
      all_goals
        go_wp2_with fail
        go_ret
        exact ⟨rfl, bel⟩
    · go_region_held3 (fun W => ((W.cell? ⟨w.heap.size, 0, none⟩ = some (.slice (some a) L.length cA) ∧ W.cell? ⟨w.heap.size, 1, none⟩ = some (.slice B l.length cB)) ∧ W.cell? ⟨w.heap.size, 2, none⟩ = some (.slice C lc.length cC)) ∧ W.cell? ⟨w6.heap.size, 0, none⟩ = some (.bool true) ∧
          (W.cell? ⟨w4.heap.size, 0, none⟩ = some (.int .i64 2) ∧ W.cell? ⟨w4.heap.size, 1, none⟩ = some (.slice X nx cX) ∧ W.cell? ⟨w4.heap.size, 2, none⟩ = some (.slice Y ny cY) ∧ W.cell? ⟨w4.heap.size, 3, none⟩ = some (.slice R nr cR) ∧ W.cell? ⟨w4.heap.size, 4, none⟩ = some (.bool bn) ∧ W.cell? ⟨w4.heap.size, 5, none⟩ = some (.slice EA en ec) ∧ W.cell? ⟨w4.heap.size, 6, none⟩ = some (.bool bn') ∧ W.cell? ⟨w4.heap.size, 7, none⟩ = some (.slice EB en' ed)))
        (exact ⟨⟨⟨Loc.c 0 K6, Loc.c 1 K6⟩, Loc.c 2 K6⟩, Loc.c 0 LR, Loc.c 0 LO6, Loc.c 1 LO6, Loc.c 2 LO6, Loc.c 3 LO6, Loc.c 4 LO6, Loc.c 5 LO6, Loc.c 6 LO6, Loc.c 7 LO6⟩)
        (first
          | (go_at_call 33; refine (checkOptimum_any (k := 1568) _ _ _ _ _ _ 2 _ _ _ _ _ _ _ _ ((HS.out _ kp).mono (by decide)) ((HC.out _ kp).mono (by decide)) (HX.out.keep kp) (HY.out.keep kp) (HR.out.keep kp) (HV.out.keep kp) (by decide) (by decide)).mono ?_; rintro e u3 ⟨he, hb13⟩; have he := he.eq (b := true) ⟨fun _ => HOP.out, fun _ => rfl⟩; subst he; have y13 := hb13.size; (try simp only [World.size_alloc, size_set, size_drew, size_drewN] at y13))
          | (go_at_call 32; refine (ref_any _ _ _ _ _ _ _ _ _ _ _ _ _ _ _ _ _ _ _).mono ?_; rintro e u4 ⟨he, hb14⟩; subst he; have y14 := hb14.size; (try simp only [World.size_alloc, size_set, size_drew, size_drewN] at y14))
          | (go_at_call 31; refine (rcheckOptimum_any (k := 1568) _ _ _ _ _ _ 2 _ _ _ _ _ _ _ _ ((HS.out _ kp).mono (by decide)) ((HC.out _ kp).mono (by decide)) (HX.out.keep kp) (HY.out.keep kp) (HR.out.keep kp) (HV.out.keep kp) (by decide) (by decide)).mono ?_; rintro e u5 ⟨he, hb15⟩; have he := he.eq (b := true) ⟨fun _ => HOP.out, fun _ => rfl⟩; subst he; have y15 := hb15.size; (try simp only [World.size_alloc, size_set, size_drew, size_drewN] at y15)))
      all_goals
        go_wp2_with fail
        go_ret
        exact ⟨rfl, bel⟩
  · have HNC2 : Hid (lc.length ≠ lens L 0) := fun h => hnc (h.trans HN.out)
    obtain ⟨rfl, rfl, rfl, rfl⟩ := hs.out.2.1 HVS.out HNC2.out
    have h4 : ((lc.length : Int) == (n : Int)) = false := beq_eq_false_iff_ne.2 (by omega)
    have h5 : ((lc.length : Int) != (n : Int)) = true := bne_iff_ne.2 (by omega)
    clear hs
    go_wp2_with fail
    go_quiet (fail)
    go_wp2_with fail
    go_ret
    exact ⟨rfl, bel⟩
end Go.Proofs.YtpeglenapmkdfaaGreat

/- The statement 'LinearMinimizes' out of its walk. The frame is the guide's own (proof-skeleton), printed by lawgen.py. -/
namespace Go.Proofs.YtpeglenapmkdfaaGreat.linearMinimizes
open Go.ChangeShapes Go.WideShapes Go.ChangeAt Go.RowKit Go.Proofs.YtpeglenapmkdfaaGreat
open Go.ChangeMaps (open_string shut_string)
set_option linter.unusedVariables false

set_option maxRecDepth 100000 in
theorem lifted (os : Os) (started : os.Started) (H : Type) (enc : TypeId × Value → H) :
    ReturnsInHanded {} Tryz.checked os 8 .any (Rows.linearMinimizesSpec.pre6 enc Tryz.prog Tryz.f8 Rows.linearMinimizesRow.domain false) (Rows.linearMinimizesSpec.post enc Tryz.prog Tryz.f8 false true false false) := by
  refine returnsInHanded_of_change (C := Tryz.checked) own started (by kernel_rfl) Tryz.func8
    (ChangeSpec.witness6 (enc := enc) (C := Tryz.checked) false ⟨#[], #[.agg #[.slice none 0 0, .slice none 0 0, .slice none 0 0]], []⟩ 8 (by kernel_rfl) (by kernel_rfl) (by kernel_rfl) (by kernel_rfl)) ?_
  intro W base args ds gs before hval0 hW hcnd _
  have hval : ∀ (j : Nat) t v, Tryz.f8.params[j]? = some t → args[j]? = some v → Value.okWide Tryz.prog W .any base t v := hval0
  have hW' := hW
  obtain ⟨p, q, hA0, hV, rfl, hfz, hnd⟩ := hW
  have hA : DataW.TrodAll enc Tryz.prog W 0 (fun _ => true) true Tryz.f8.params.toList args.toList ds p := hA0
  rw [Tryz.params8] at hA hval
  obtain ⟨v0, vs0, d0, ds0, p0, q0, hargs, rfl, rfl, h0, r0⟩ := trodAll_cons hA
  obtain ⟨rfl, rfl, rfl⟩ := trodAll_nil r0
  obtain rfl : args = #[v0] := by cases args; simp_all
  obtain ⟨rfl, rfl⟩ := trodVars_none hV
  have lt0 : ∀ x ∈ p0, x.block < W.heap.size := by obtain ⟨m, hm⟩ := h0; exact DataW.trod_lt m _ _ _ hm
  have k0 := fun (W' : World) (bel : Below W.heap.size W W') => Below.trod laidOut (by kernel_rfl) (of_decide_eq_true (by kernel_rfl)) h0 bel lt0
  obtain ⟨va0, vb0, vc0, L0, l0, lc0, e0, ha0, hb0, hc0⟩ := open_Problem (hval 0 37 v0 rfl rfl) h0
  subst e0
  refine (minimizes_walk _ _ _ _ _ _ _ ha0 hb0 hc0).mono fun e W' ⟨he, bel⟩ => ?_
  subst he
  exact ⟨_, rfl, _, _, _, [], _, [], hW', trodAll_mk1 (shut_bool Tryz.underlying4 _), (trodAll_cons_mk (k0 _ bel) trodAll_mk0), rfl, bel.frame _, fun h => by cases h⟩

theorem over : Rows.linearMinimizesRow.holds Tryz.pinned (OpenSpec.ofChange Rows.linearMinimizesSpec) :=
  OpenClaim.holds_of_wide 8 Tryz.f8 rfl rfl rfl rfl rfl rfl rfl ⟨rfl, rfl, rfl, rfl, rfl⟩ rfl rfl rfl rfl rfl (by kernel_rfl) Tryz.func8 (by kernel_rfl)
    (of_decide_eq_true (by kernel_rfl)) (by unfold Func.isWrapper; first | (rw [if_pos (by decide +kernel)]; kernel_rfl) | (rw [if_neg (by decide +kernel)]; exact ⟨rfl, rfl⟩))
    (fun os started H enc _ => lifted os started H enc)

/-- The statement: for every input the law returns true; each argument reads behind the call as it read before. -/
theorem proved : Rows.LinearMinimizesSaid := over
end Go.Proofs.YtpeglenapmkdfaaGreat.linearMinimizes

