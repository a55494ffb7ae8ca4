/- For every input the law returns true: the law's walk, and the statement out of it. -/
import Derived.Test.YtpeglenapmkdfaaGreatRows
import Derived.Test.YtpeglenapmkdfaaGreatM2
import Derived.Test.YtpeglenapmkdfaaGreatM14
import Derived.Test.YtpeglenapmkdfaaGreatM17
import Derived.Test.YtpeglenapmkdfaaGreatM45
set_option linter.unusedSimpArgs false
set_option linter.unusedVariables false

/- LinearDuality: the law's walk. -/
namespace Go.Proofs.YtpeglenapmkdfaaGreat
open Go.RowKit
attribute [local go_sem ↓] Go.wp_at_zero Go.wp_at_succ
attribute [local go_sem] beq_self_eq_true

set_option maxRecDepth 100000 in
set_option maxHeartbeats 16000000 in
theorem duality_walk (w : World) (v0 v1 v2 vz : Value) (L : List (List RF)) (l lc lz : List RF) (kd : Int) (vx vy vr : Value) (lx ly lr : List RF) (er : RF) (EA EB : Option Addr) (ec ed : Nat) (hA : RMat w v0 L) (hB : Rats w (fun _ => False) v1 l) (hC : Rats w (fun _ => False) v2 lc) (hx : Rats w (fun _ => False) vx lx) (hy : Rats w (fun _ => False) vy ly) (hr : Rats w (fun _ => False) vr lr) (hv : RatR w (fun _ => False) (.agg #[.bool er.n1, .slice EA er.xs.length ec, .bool er.n2, .slice EB er.ys.length ed]) er.n1 er.xs er.n2 er.ys) (hz : Rats w (fun _ => False) vz lz) :
    Calls Tryz.prog 9 #[.agg #[v0, v1, v2], .agg #[.int .i64 kd, vx, vy, vr, .bool er.n1, .slice EA er.xs.length ec, .bool er.n2, .slice EB er.ys.length ed], vz] w fun e w' => e = .returned (.bool true) ∧ Below w.heap.size w w' := by
  have HA := Lib.hid hA
  have HB := Lib.hid hB
  have HCC := Lib.hid hC
  have HX := Lib.hid hx
  have HY := Lib.hid hy
  have HR := Lib.hid hr
  have HV := Lib.hid hv
  have HZ := Lib.hid hz
  obtain ⟨A, cA, rfl, hA, la1, la2⟩ := hA.op
  obtain ⟨B, cB, rfl, hB, lb1, lb2⟩ := hB.op
  obtain ⟨C, cC, rfl, hC, lcc1, lcc2⟩ := hC.op
  obtain ⟨Z, cZ, rfl, hz, lzz1, lzz2⟩ := hz.op
  obtain ⟨X, cX, rfl, hx, lx1, lx2⟩ := hx.op
  obtain ⟨Y, cY, rfl, hy, ly1, ly2⟩ := hy.op
  obtain ⟨R, cR, rfl, hr, lr1, lr2⟩ := hr.op
  clear hA hB hC hx hy hr hv hz
  have L1 := made1 w #[.slice A L.length cA, .slice B l.length cB, .slice C lc.length cC] 37
  have L2 := made2 w (.cells #[.slice A L.length cA, .slice B l.length cB, .slice C lc.length cC] 37) #[.int .i64 kd, .slice X lx.length cX, .slice Y ly.length cY, .slice R lr.length cR, .bool er.n1, .slice EA er.xs.length ec, .bool er.n2, .slice EB er.ys.length ed] 51
  go_enter Tryz.func9, Tryz.ntmps9
  go_wp2_with fail
  refine (known08_any _).mono ?_
  rintro e w1 ⟨rfl, hb1⟩
  obtain ⟨z1, z2⟩ := sz2 hb1
  obtain ⟨e1, f1, l1⟩ := L1.all (w' := w1)
  obtain ⟨e2, f2, l2⟩ := L2.all (w' := w1)
  go_wp2_with fail
  refine (few_any8 _ _ _ L l (HA.out.keep kp) (HB.out.keep kp)).mono ?_
  rintro e w2 ⟨⟨b, rfl, hb⟩, hb2⟩
  have y2 := hb2.size; (try simp only [World.size_alloc, size_set, size_drew, size_drewN] at y2)
  clear e1 f1 l1 e2 f2 l2
  obtain ⟨e1, f1, l1⟩ := L1.all (w' := w2)
  obtain ⟨e2, f2, l2⟩ := L2.all (w' := w2)
  cases b
  · clear hb
    go_wp2_with fail
    go_ret
    exact ⟨rfl, bel⟩
  have HF : Hid (FewS L l) := hb.out.1 rfl
  clear hb
  go_wp2_with fail
  refine (numbers_any _ _ lc 10 (HCC.out.keep kp) (by decide)).mono ?_
  rintro e w3 ⟨⟨b, rfl, hb⟩, hb3⟩
  have y3 := hb3.size; (try simp only [World.size_alloc, size_set, size_drew, size_drewN] at y3)
  cases b
  · clear hb
    go_wp2_with fail
    go_ret
    exact ⟨rfl, bel⟩
  have HNC : Hid (NB lc 10) := hb.out.1 rfl
  clear hb
  clear e1 f1 l1 e2 f2 l2
  obtain ⟨e1, f1, l1⟩ := L1.all (w' := w3)
  obtain ⟨e2, f2, l2⟩ := L2.all (w' := w3)
  go_wp2_with fail
  refine (numbers_any _ _ lz 10 (HZ.out.keep kp) (by decide)).mono ?_
  rintro e w4 ⟨⟨b, rfl, hb⟩, hb4⟩
  have y4 := hb4.size; (try simp only [World.size_alloc, size_set, size_drew, size_drewN] at y4)
  cases b
  · clear hb
    go_wp2_with fail
    go_ret
    exact ⟨rfl, bel⟩
  have HNZ : Hid (NB lz 10) := hb.out.1 rfl
  clear hb
  clear e1 f1 l1 e2 f2 l2
  obtain ⟨e1, f1, l1⟩ := L1.all (w' := w4)
  obtain ⟨e2, f2, l2⟩ := L2.all (w' := w4)
  go_wp2_with fail
  refine (tidy_any _ kd _ _ _ _ _ _ _ lx ly lr er (HX.out.keep kp) (HY.out.keep kp) (HR.out.keep kp) (HV.out.keep kp)).mono ?_
  rintro e w5 ⟨⟨b, rfl, hb⟩, hb5⟩
  have y5 := hb5.size; (try simp only [World.size_alloc, size_set, size_drew, size_drewN] at y5)
  clear e1 f1 l1 e2 f2 l2
  obtain ⟨e1, f1, l1⟩ := L1.all (w' := w5)
  obtain ⟨e2, f2, l2⟩ := L2.all (w' := w5)
  cases b
  · clear hb
    go_wp2_with fail
    go_ret
    exact ⟨rfl, bel⟩
  have HT : Hid (NB lx 10 ∧ NB ly 10 ∧ NB lr 10 ∧ er.few) := hb.out.1 rfl
  clear hb
  have HS : Hid (∀ W, Keep (fun _ => False) w W → Sys 2 W (.agg #[.slice A L.length cA, .slice B l.length cB]) L.length l.length (lens L) (qm L) (qs l)) := fun W hW => HF.out.sys (HA.out.keep hW) (HB.out.keep hW)
  have HMA : Hid (∀ W, Keep (fun _ => False) w W → Mat 2 W (fun _ => False) (.slice A L.length cA) L.length (lens L) (qm L)) := fun W hW => HF.out.mat (HA.out.keep hW)
  have HMB : Hid (∀ W, Keep (fun _ => False) w W → Nums 2 W (fun _ => False) (.slice B l.length cB) l.length (qs l)) := fun W hW => HF.out.rhs (HB.out.keep hW)
  have HC : Hid (∀ W, Keep (fun _ => False) w W → Nums 2 W (fun _ => False) (.slice C lc.length cC) lc.length (qs lc)) := fun W hW => HNC.out.nums (HCC.out.keep hW)
  have HMZ : Hid (∀ W, Keep (fun _ => False) w W → Nums 2 W (fun _ => False) (.slice Z lz.length cZ) lz.length (qs lz)) := fun W hW => HNZ.out.nums (HZ.out.keep hW)
  have HMX : Hid (∀ W, Keep (fun _ => False) w W → Nums 2 W (fun _ => False) (.slice X lx.length cX) lx.length (qs lx)) := fun W hW => HT.out.1.nums (HX.out.keep hW)
  have HMY : Hid (∀ W, Keep (fun _ => False) w W → Nums 2 W (fun _ => False) (.slice Y ly.length cY) ly.length (qs ly)) := fun W hW => HT.out.2.1.nums (HY.out.keep hW)
  have HMR : Hid (∀ W, Keep (fun _ => False) w W → Nums 2 W (fun _ => False) (.slice R lr.length cR) lr.length (qs lr)) := fun W hW => HT.out.2.2.1.nums (HR.out.keep hW)
  have HMV : Hid (∀ W, Keep (fun _ => False) w W → RatL 2 W (fun _ => False) (.agg #[.bool er.n1, .slice EA er.xs.length ec, .bool er.n2, .slice EB er.ys.length ed]) er.q) := fun W hW => ⟨_, _, _, _, HV.out.keep hW, HT.out.2.2.2.1, HT.out.2.2.2.2, rfl⟩
  obtain ⟨b2, T2⟩ := tell (OP kd L.length l.length (lens L) (qm L) (qs l) lc.length (qs lc) lx.length (qs lx) ly.length (qs ly) lr.length (qs lr) er.q)
  obtain ⟨b3, T3⟩ := tell (PT L.length l.length (lens L) (qm L) (qs l) lz.length (qs lz))
  go_wp2_with fail
  refine (checkOptimum_any _ _ _ _ _ _ kd _ _ _ _ _ _ _ _ (HS.out _ kp) (HC.out _ kp) (HMX.out _ kp) (HMY.out _ kp) (HMR.out _ kp) (HMV.out _ kp) (by decide) (by decide)).mono ?_
  rintro e w6 ⟨he, hb6⟩
  have he := he.eq T2.out
  subst he
  have y6 := hb6.size; (try simp only [World.size_alloc, size_set, size_drew, size_drewN] at y6)
  have K1 : Loc w6 w.heap.size _ _ := L1.to
  have K2 : Loc w6 (w.heap.size + 1) _ _ := L2.to
  clear e1 f1 l1 e2 f2 l2
  obtain ⟨e1, f1, l1⟩ := K1.all
  obtain ⟨e2, f2, l2⟩ := K2.all
  have hww6 : w.heap.size + 2 ≤ w6.heap.size := by omega
  cases b2
  · clear T2
    go_wp2_with fail
    go_ret
    exact ⟨rfl, bel⟩
  have HOP : Hid (OP kd L.length l.length (lens L) (qm L) (qs l) lc.length (qs lc) lx.length (qs lx) ly.length (qs ly) lr.length (qs lr) er.q) := T2.out.1 rfl
  clear T2
  have hw6 : Below w.heap.size w w6 := bel
  have hkw6 : Keep (fun _ => False) w w6 := kp
  clear hb1 hb2 hb3 hb4 hb5 hb6
  go_wp2_with fail
  refine (minimizeTop_any _ _ _ L.length l.length 2 126 779 1568 lc.length (lens L) (qm L) (qs l) (qs lc) (HS.out _ kp) (HC.out _ kp) (by decide) (by decide) (by decide) (by decide) (by decide) (by decide) (by decide) (by decide) (HF.out.sz1x (HS.out w (Keep.refl _ _))) (HF.out.sz2 (HS.out w (Keep.refl _ _)) (HC.out w (Keep.refl _ _)))).mono ?_
  rintro e w7 ⟨vO, code, kind, nx, ny, nr, f, y, r, val, rfl, HO, hs, hb7⟩
  have y7 := hb7.size; (try simp only [World.size_alloc, size_set, size_drew, size_drewN] at y7)
  obtain ⟨rfl, hop⟩ := hs.out.2.2 HOP.out.1 HOP.out.2.1
  obtain ⟨ek, ev⟩ := HOP.out.uniqS hop
  subst ek ev
  obtain ⟨X2, Y2, R2, cX2, cY2, cR2, bn, EA2, en, ec2, bn', EB2, en', ed2, rfl, -, -, -, hv⟩ := HO.out
  have HV2 := Lib.hid hv
  clear HO hs hop hv e1 f1 l1 e2 f2 l2
  have LO := made1 w7 #[.int .i64 kd, .slice X2 nx cX2, .slice Y2 ny cY2, .slice R2 nr cR2, .bool bn, .slice EA2 en ec2, .bool bn', .slice EB2 en' ed2] 51
  have K17 : Loc (w7.alloc (.cells #[.int .i64 kd, .slice X2 nx cX2, .slice Y2 ny cY2, .slice R2 nr cR2, .bool bn, .slice EA2 en ec2, .bool bn', .slice EB2 en' ed2] 51)) w.heap.size _ _ := K1.to
  have K27 : Loc (w7.alloc (.cells #[.int .i64 kd, .slice X2 nx cX2, .slice Y2 ny cY2, .slice R2 nr cR2, .bool bn, .slice EA2 en ec2, .bool bn', .slice EB2 en' ed2] 51)) (w.heap.size + 1) _ _ := K2.to
  obtain ⟨e1, f1, l1⟩ := K17.all
  obtain ⟨e2, f2, l2⟩ := K27.all
  obtain ⟨e3, f3, l3⟩ := LO.all
  rcases HOP.out.kinds with rfl | rfl | rfl
  · go_wp2_with fail
    refine (equal_any _ (fun _ => False) _ _ er.q er.q ((HV2.out.keep kp).mono (by decide)) ((HMV.out _ kp).mono (by decide))).mono ?_
    rintro e w8 ⟨he, hb8⟩
    have he := he.eq (b := true) ⟨fun _ => rfl, fun _ => rfl⟩
    subst he
    have y8 := hb8.size; (try simp only [World.size_alloc, size_set, size_drew, size_drewN] at y8)
    have K18 : Loc w8 w.heap.size _ _ := K17.to
    have K28 : Loc w8 (w.heap.size + 1) _ _ := K27.to
    clear e1 f1 l1 e2 f2 l2 e3 f3 l3
    obtain ⟨e1, f1, l1⟩ := K18.all
    go_wp2_with fail
    refine (checkPoint_any _ _ _ (HS.out _ kp) (HMZ.out _ kp) (by decide) (by decide)).mono ?_
    rintro e w9 ⟨he, hb9⟩
    have he := he.eq (b := false) ⟨fun h => (by cases h), fun h => (not_bothS h HOP.out.none).elim⟩
    subst he
    have y9 := hb9.size; (try simp only [World.size_alloc, size_set, size_drew, size_drewN] at y9)
    go_wp2_with fail
    go_ret
    exact ⟨rfl, bel⟩
  · go_wp2_with fail
    refine (equal_any _ (fun _ => False) _ _ er.q er.q ((HV2.out.keep kp).mono (by decide)) ((HMV.out _ kp).mono (by decide))).mono ?_
    rintro e w8 ⟨he, hb8⟩
    have he := he.eq (b := true) ⟨fun _ => rfl, fun _ => rfl⟩
    subst he
    have y8 := hb8.size; (try simp only [World.size_alloc, size_set, size_drew, size_drewN] at y8)
    have K18 : Loc w8 w.heap.size _ _ := K17.to
    have K28 : Loc w8 (w.heap.size + 1) _ _ := K27.to
    clear e1 f1 l1 e2 f2 l2 e3 f3 l3
    obtain ⟨e1, f1, l1⟩ := K18.all
    go_wp2_with fail
    refine (checkPoint_any _ _ _ (HS.out _ kp) (HMZ.out _ kp) (by decide) (by decide)).mono ?_
    rintro e w9 ⟨he, hb9⟩
    have he := he.eq T3.out
    subst he
    have y9 := hb9.size; (try simp only [World.size_alloc, size_set, size_drew, size_drewN] at y9)
    cases b3
    · clear T3
      go_wp2_with fail
      go_ret
      exact ⟨rfl, bel⟩
    have HPT : Hid (PT L.length l.length (lens L) (qm L) (qs l) lz.length (qs lz)) := T3.out.1 rfl
    have K19 : Loc w9 w.heap.size _ _ := K18.to
    have K29 : Loc w9 (w.heap.size + 1) _ _ := K28.to
    clear T3 e1 f1 l1
    go_wp2_with fail
    refine wp_region_noPanic ?_
    refine wp_region_held_drew (S := (fun W => W.cell? ⟨w.heap.size + 1, 0, none⟩ = some (.int .i64 1))) (by kernel_rfl) ?_ (fun hHeld => ?_)
    · exact Loc.c 0 K29
    refine wpAnyH_take (i := 0) (v := ?_) rfl (by kernel_rfl) (by kernel_rfl) (by kernel_rfl) (fun _ _ _ h => h) (Or.inl ⟨by kernel_rfl, ?_⟩) (by assumption) ?_
    rotate_left 1
    · (intro w hSw; (try dsimp only at hSw); first | (go_simp; done) | (go_simp; with_reducible rfl))
    (try simp only [Act.put, List.getElem_toArray, List.getElem_cons_succ, List.getElem_cons_zero, List.setIfInBounds_toArray, List.set_cons_zero, List.set_cons_succ])
    refine wpAnyH_take (i := 1) (v := ?_) rfl (by kernel_rfl) (by kernel_rfl) (by kernel_rfl) (fun _ _ _ h => h) (Or.inl ⟨by kernel_rfl, ?_⟩) (by assumption) ?_
    rotate_left 1
    · (intro w hSw; (try dsimp only at hSw); first | (go_simp; done) | (go_simp; with_reducible rfl))
    (try simp only [Act.put, List.getElem_toArray, List.getElem_cons_succ, List.getElem_cons_zero, List.setIfInBounds_toArray, List.set_cons_zero, List.set_cons_succ])
    refine wpAnyH_take (i := 2) (v := ?_) rfl (by kernel_rfl) (by kernel_rfl) (by kernel_rfl) (fun _ _ _ h => h) (Or.inl ⟨by kernel_rfl, ?_⟩) (by assumption) ?_
    rotate_left 1
    · (intro w hSw; (try dsimp only at hSw); first | (go_simp; done) | (go_simp; with_reducible rfl))
    (try simp only [Act.put, List.getElem_toArray, List.getElem_cons_succ, List.getElem_cons_zero, List.setIfInBounds_toArray, List.set_cons_zero, List.set_cons_succ])
    refine wpAnyH_take (i := 3) (v := ?_) rfl (by kernel_rfl) (by kernel_rfl) (by kernel_rfl) (fun _ _ _ h => h) (Or.inl ⟨by kernel_rfl, ?_⟩) (by assumption) ?_
    rotate_left 1
    · (intro w hSw; (try dsimp only at hSw); first | (go_simp; done) | (go_simp; with_reducible rfl))
    (try simp only [Act.put, List.getElem_toArray, List.getElem_cons_succ, List.getElem_cons_zero, List.setIfInBounds_toArray, List.set_cons_zero, List.set_cons_succ])
    refine wpAnyH_take (i := 4) (v := undef) rfl (by kernel_rfl) (by kernel_rfl) (by kernel_rfl) (fun _ _ _ h => h) (Or.inr ⟨by kernel_rfl, rfl⟩) (by assumption) ?_
    (try simp only [Act.put, List.getElem_toArray, List.getElem_cons_succ, List.getElem_cons_zero, List.setIfInBounds_toArray, List.set_cons_zero, List.set_cons_succ])
    refine wpAnyH_take (i := 5) (v := undef) rfl (by kernel_rfl) (by kernel_rfl) (by kernel_rfl) (fun _ _ _ h => h) (Or.inr ⟨by kernel_rfl, rfl⟩) (by assumption) ?_
    (try simp only [Act.put, List.getElem_toArray, List.getElem_cons_succ, List.getElem_cons_zero, List.setIfInBounds_toArray, List.set_cons_zero, List.set_cons_succ])
    refine wpAnyH_take (i := 6) (v := undef) rfl (by kernel_rfl) (by kernel_rfl) (by kernel_rfl) (fun _ _ _ h => h) (Or.inr ⟨by kernel_rfl, rfl⟩) (by assumption) ?_
    (try simp only [Act.put, List.getElem_toArray, List.getElem_cons_succ, List.getElem_cons_zero, List.setIfInBounds_toArray, List.set_cons_zero, List.set_cons_succ])
    refine wpAnyH_take (i := 7) (v := undef) rfl (by kernel_rfl) (by kernel_rfl) (by kernel_rfl) (fun _ _ _ h => h) (Or.inr ⟨by kernel_rfl, rfl⟩) (by assumption) ?_
    (try simp only [Act.put, List.getElem_toArray, List.getElem_cons_succ, List.getElem_cons_zero, List.setIfInBounds_toArray, List.set_cons_zero, List.set_cons_succ])
    refine wpAnyH_take (i := 8) (v := undef) rfl (by kernel_rfl) (by kernel_rfl) (by kernel_rfl) (fun _ _ _ h => h) (Or.inr ⟨by kernel_rfl, rfl⟩) (by assumption) ?_
    (try simp only [Act.put, List.getElem_toArray, List.getElem_cons_succ, List.getElem_cons_zero, List.setIfInBounds_toArray, List.set_cons_zero, List.set_cons_succ])
    refine wpAnyH_take (i := 9) (v := undef) rfl (by kernel_rfl) (by kernel_rfl) (by kernel_rfl) (fun _ _ _ h => h) (Or.inr ⟨by kernel_rfl, rfl⟩) (by assumption) ?_
    (try simp only [Act.put, List.getElem_toArray, List.getElem_cons_succ, List.getElem_cons_zero, List.setIfInBounds_toArray, List.set_cons_zero, List.set_cons_succ])
    refine wpAnyH_take (i := 10) (v := undef) rfl (by kernel_rfl) (by kernel_rfl) (by kernel_rfl) (fun _ _ _ h => h) (Or.inr ⟨by kernel_rfl, rfl⟩) (by assumption) ?_
    (try simp only [Act.put, List.getElem_toArray, List.getElem_cons_succ, List.getElem_cons_zero, List.setIfInBounds_toArray, List.set_cons_zero, List.set_cons_succ])
    refine wpAnyH_take (i := 11) (v := undef) rfl (by kernel_rfl) (by kernel_rfl) (by kernel_rfl) (fun _ _ _ h => h) (Or.inr ⟨by kernel_rfl, rfl⟩) (by assumption) ?_
    (try simp only [Act.put, List.getElem_toArray, List.getElem_cons_succ, List.getElem_cons_zero, List.setIfInBounds_toArray, List.set_cons_zero, List.set_cons_succ])
    refine wpAnyH_take (i := 12) (v := undef) rfl (by kernel_rfl) (by kernel_rfl) (by kernel_rfl) (fun _ _ _ h => h) (Or.inr ⟨by kernel_rfl, rfl⟩) (by assumption) ?_
    (try simp only [Act.put, List.getElem_toArray, List.getElem_cons_succ, List.getElem_cons_zero, List.setIfInBounds_toArray, List.set_cons_zero, List.set_cons_succ])
    refine wpAnyH_take (i := 13) (v := undef) rfl (by kernel_rfl) (by kernel_rfl) (by kernel_rfl) (fun _ _ _ h => h) (Or.inr ⟨by kernel_rfl, rfl⟩) (by assumption) ?_
    (try simp only [Act.put, List.getElem_toArray, List.getElem_cons_succ, List.getElem_cons_zero, List.setIfInBounds_toArray, List.set_cons_zero, List.set_cons_succ])
    refine wpAnyH_take (i := 14) (v := undef) rfl (by kernel_rfl) (by kernel_rfl) (by kernel_rfl) (fun _ _ _ h => h) (Or.inr ⟨by kernel_rfl, rfl⟩) (by assumption) ?_
    (try simp only [Act.put, List.getElem_toArray, List.getElem_cons_succ, List.getElem_cons_zero, List.setIfInBounds_toArray, List.set_cons_zero, List.set_cons_succ])
    refine wpAnyH_take (i := 15) (v := undef) rfl (by kernel_rfl) (by kernel_rfl) (by kernel_rfl) (fun _ _ _ h => h) (Or.inr ⟨by kernel_rfl, rfl⟩) (by assumption) ?_
    (try simp only [Act.put, List.getElem_toArray, List.getElem_cons_succ, List.getElem_cons_zero, List.setIfInBounds_toArray, List.set_cons_zero, List.set_cons_succ])
    refine wpAnyH_take (i := 16) (v := undef) rfl (by kernel_rfl) (by kernel_rfl) (by kernel_rfl) (fun _ _ _ h => h) (Or.inr ⟨by kernel_rfl, rfl⟩) (by assumption) ?_
    (try simp only [Act.put, List.getElem_toArray, List.getElem_cons_succ, List.getElem_cons_zero, List.setIfInBounds_toArray, List.set_cons_zero, List.set_cons_succ])
    refine wpAnyH_take (i := 17) (v := ?_) rfl (by kernel_rfl) (by kernel_rfl) (by kernel_rfl) (fun _ _ _ h => h) (Or.inl ⟨by kernel_rfl, ?_⟩) (by assumption) ?_
    rotate_left 1
    · (intro w hSw; (try dsimp only at hSw); first | (go_simp; done) | (go_simp; with_reducible rfl))
    (try simp only [Act.put, List.getElem_toArray, List.getElem_cons_succ, List.getElem_cons_zero, List.setIfInBounds_toArray, List.set_cons_zero, List.set_cons_succ])
    refine wpAnyH_take (i := 18) (v := ?_) rfl (by kernel_rfl) (by kernel_rfl) (by kernel_rfl) (fun _ _ _ h => h) (Or.inl ⟨by kernel_rfl, ?_⟩) (by assumption) ?_
    rotate_left 1
    · (intro w hSw; (try dsimp only at hSw); first | (go_simp; done) | (go_simp; with_reducible rfl))
    (try simp only [Act.put, List.getElem_toArray, List.getElem_cons_succ, List.getElem_cons_zero, List.setIfInBounds_toArray, List.set_cons_zero, List.set_cons_succ])
    refine wpAnyH_done (by kernel_rfl) ?_ _
    refine NoPanic.normal ?_
    go_wp2_with fail
    go_ret
    exact ⟨rfl, bel⟩
  · go_wp2_with fail
    refine (equal_any _ (fun _ => False) _ _ er.q er.q ((HV2.out.keep kp).mono (by decide)) ((HMV.out _ kp).mono (by decide))).mono ?_
    rintro e w8 ⟨he, hb8⟩
    have he := he.eq (b := true) ⟨fun _ => rfl, fun _ => rfl⟩
    subst he
    have y8 := hb8.size; (try simp only [World.size_alloc, size_set, size_drew, size_drewN] at y8)
    have K18 : Loc w8 w.heap.size _ _ := K17.to
    have K28 : Loc w8 (w.heap.size + 1) _ _ := K27.to
    clear e1 f1 l1 e2 f2 l2 e3 f3 l3
    obtain ⟨e1, f1, l1⟩ := K18.all
    go_wp2_with fail
    refine (checkPoint_any _ _ _ (HS.out _ kp) (HMZ.out _ kp) (by decide) (by decide)).mono ?_
    rintro e w9 ⟨he, hb9⟩
    have he := he.eq T3.out
    subst he
    have y9 := hb9.size; (try simp only [World.size_alloc, size_set, size_drew, size_drewN] at y9)
    cases b3
    · clear T3
      go_wp2_with fail
      go_ret
      exact ⟨rfl, bel⟩
    have HPT : Hid (PT L.length l.length (lens L) (qm L) (qs l) lz.length (qs lz)) := T3.out.1 rfl
    have K19 : Loc w9 w.heap.size _ _ := K18.to
    have K29 : Loc w9 (w.heap.size + 1) _ _ := K28.to
    clear T3 e1 f1 l1
    obtain ⟨hzl, hle⟩ := op2_le HOP.out HPT.out
    have HZL : Hid (lc.length ≤ lz.length) := by show _ ≤ _; omega
    obtain ⟨dt, hdt⟩ : ∃ dt, sm lc.length (fun i => qs lc i * qs lz i) = dt := ⟨_, rfl⟩
    rw [hdt] at hle
    have HDT := Lib.hid hdt
    obtain ⟨q, hq⟩ : ∃ q, rcmp dt er.q = q := ⟨_, rfl⟩
    have hq0 : 0 ≤ q := by rw [← hq]; exact rcmp_nonneg hle
    have HQ := Lib.hid hq
    have HL10 : Hid (lc.length ≤ 200) := by show _ ≤ _; have := HNC.out.1; omega
    clear hzl hle hdt hq
    go_wp2_with fail
    go_region_held3 (fun W => W.cell? ⟨w.heap.size, 2, none⟩ = some (.slice C lc.length cC) ∧ W.cell? ⟨w.heap.size + 1, 0, none⟩ = some (.int .i64 2) ∧ ((W.cell? ⟨w.heap.size + 1, 4, none⟩ = some (.bool er.n1) ∧ W.cell? ⟨w.heap.size + 1, 5, none⟩ = some (.slice EA er.xs.length ec)) ∧ W.cell? ⟨w.heap.size + 1, 6, none⟩ = some (.bool er.n2) ∧ W.cell? ⟨w.heap.size + 1, 7, none⟩ = some (.slice EB er.ys.length ed)))
      (exact ⟨Loc.c 2 K19, Loc.c 0 K29, ⟨Loc.c 4 K29, Loc.c 5 K29⟩, Loc.c 6 K29, Loc.c 7 K29⟩)
      (first
        | (go_at_call 35; refine (rdot_any _ _ _ _ _ _ _ _ (HC.out _ kp) (HMZ.out _ kp) HZL.out HL10.out (by decide) (by decide)).mono ?_; rintro e u1 ⟨v10, rfl, i10, hb10⟩; rw [HDT.out] at i10; have HI := Lib.hid i10; have y10 := hb10.size; (try simp only [World.size_alloc, size_set, size_drew, size_drewN] at y10))
        | (go_at_call 28; refine (rcompare_rat _ (fun _ => False) _ _ dt er.q (RatL.to (HI.out.mono (by decide))) ((HMV.out _ kp).mono (by decide))).mono ?_; rintro e u2 ⟨he, hb11⟩; rw [HQ.out] at he; subst he; have y11 := hb11.size; (try simp only [World.size_alloc, size_set, size_drew, size_drewN] at y11)))
    all_goals
      go_wp2_with fail
      go_ret
      exact ⟨rfl, bel⟩
end Go.Proofs.YtpeglenapmkdfaaGreat

/- The statement 'LinearDuality' out of its walk. The frame is the guide's own (proof-skeleton), printed by lawgen.py. -/
namespace Go.Proofs.YtpeglenapmkdfaaGreat.linearDuality
open Go.ChangeShapes Go.WideShapes Go.ChangeAt Go.RowKit Go.Proofs.YtpeglenapmkdfaaGreat
open Go.ChangeMaps (open_string shut_string)
set_option linter.unusedVariables false

set_option maxRecDepth 100000 in
theorem lifted (os : Os) (started : os.Started) (H : Type) (enc : TypeId × Value → H) :
    ReturnsInHanded {} Tryz.checked os 9 .any (Rows.linearDualitySpec.pre6 enc Tryz.prog Tryz.f9 Rows.linearDualityRow.domain false) (Rows.linearDualitySpec.post enc Tryz.prog Tryz.f9 false true false false) := by
  refine returnsInHanded_of_change (C := Tryz.checked) own started (by kernel_rfl) Tryz.func9
    (ChangeSpec.witness6 (enc := enc) (C := Tryz.checked) false ⟨#[], #[.agg #[.slice none 0 0, .slice none 0 0, .slice none 0 0], .agg #[.int .i64 0, .slice none 0 0, .slice none 0 0, .slice none 0 0, .bool false, .slice none 0 0, .bool false, .slice none 0 0], .slice none 0 0], []⟩ 8 (by kernel_rfl) (by kernel_rfl) (by kernel_rfl) (by kernel_rfl)) ?_
  intro W base args ds gs before hval0 hW hcnd _
  have hval : ∀ (j : Nat) t v, Tryz.f9.params[j]? = some t → args[j]? = some v → Value.okWide Tryz.prog W .any base t v := hval0
  have hW' := hW
  obtain ⟨p, q, hA0, hV, rfl, hfz, hnd⟩ := hW
  have hA : DataW.TrodAll enc Tryz.prog W 0 (fun _ => true) true Tryz.f9.params.toList args.toList ds p := hA0
  rw [Tryz.params9] at hA hval
  obtain ⟨v0, vs0, d0, ds0, p0, q0, hargs, rfl, rfl, h0, r0⟩ := trodAll_cons hA
  obtain ⟨v1, vs1, d1, ds1, p1, q1, rfl, rfl, rfl, h1, r1⟩ := trodAll_cons r0
  obtain ⟨v2, vs2, d2, ds2, p2, q2, rfl, rfl, rfl, h2, r2⟩ := trodAll_cons r1
  obtain ⟨rfl, rfl, rfl⟩ := trodAll_nil r2
  obtain rfl : args = #[v0, v1, v2] := by cases args; simp_all
  obtain ⟨rfl, rfl⟩ := trodVars_none hV
  have lt0 : ∀ x ∈ p0, x.block < W.heap.size := by obtain ⟨m, hm⟩ := h0; exact DataW.trod_lt m _ _ _ hm
  have k0 := fun (W' : World) (bel : Below W.heap.size W W') => Below.trod laidOut (by kernel_rfl) (of_decide_eq_true (by kernel_rfl)) h0 bel lt0
  obtain ⟨va0, vb0, vc0, L0, l0, lc0, e0, ha0, hb0, hc0⟩ := open_Problem (hval 0 37 v0 rfl rfl) h0
  have lt1 : ∀ x ∈ p1, x.block < W.heap.size := by obtain ⟨m, hm⟩ := h1; exact DataW.trod_lt m _ _ _ hm
  have k1 := fun (W' : World) (bel : Below W.heap.size W W') => Below.trod laidOut (by kernel_rfl) (of_decide_eq_true (by kernel_rfl)) h1 bel lt1
  obtain ⟨kd1, vx1, vy1, vr1, lx1, ly1, lr1, er1, A1, c1, B1, d_1, e1, wf1, hx1, hy1, hr1, hv1⟩ := open_Optimum (hval 1 51 v1 rfl rfl) h1
  have lt2 : ∀ x ∈ p2, x.block < W.heap.size := by obtain ⟨m, hm⟩ := h2; exact DataW.trod_lt m _ _ _ hm
  have k2 := fun (W' : World) (bel : Below W.heap.size W W') => Below.trod laidOut (by kernel_rfl) (of_decide_eq_true (by kernel_rfl)) h2 bel lt2
  obtain ⟨l2, o2⟩ := open_RatsV (hval 2 23 v2 rfl rfl) h2
  subst e0
  subst e1
  refine (duality_walk _ _ _ _ _ _ _ _ _ _ _ _ _ _ _ _ _ _ _ _ _ ha0 hb0 hc0 hx1 hy1 hr1 hv1 o2).mono fun e W' ⟨he, bel⟩ => ?_
  subst he
  exact ⟨_, rfl, _, _, _, [], _, [], hW', trodAll_mk1 (shut_bool Tryz.underlying4 _), (trodAll_cons_mk (k0 _ bel) (trodAll_cons_mk (k1 _ bel) (trodAll_cons_mk (k2 _ bel) trodAll_mk0))), rfl, bel.frame _, fun h => by cases h⟩

theorem over : Rows.linearDualityRow.holds Tryz.pinned (OpenSpec.ofChange Rows.linearDualitySpec) :=
  OpenClaim.holds_of_wide 9 Tryz.f9 rfl rfl rfl rfl rfl rfl rfl ⟨rfl, rfl, rfl, rfl, rfl⟩ rfl rfl rfl rfl rfl (by kernel_rfl) Tryz.func9 (by kernel_rfl)
    (of_decide_eq_true (by kernel_rfl)) (by unfold Func.isWrapper; first | (rw [if_pos (by decide +kernel)]; kernel_rfl) | (rw [if_neg (by decide +kernel)]; exact ⟨rfl, rfl⟩))
    (fun os started H enc _ => lifted os started H enc)

/-- The statement: for every input the law returns true; each argument reads behind the call as it read before. -/
theorem proved : Rows.LinearDualitySaid := over
end Go.Proofs.YtpeglenapmkdfaaGreat.linearDuality

