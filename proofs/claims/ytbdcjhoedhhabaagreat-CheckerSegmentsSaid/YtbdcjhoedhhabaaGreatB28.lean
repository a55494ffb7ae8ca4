/- Contracts of the functions that the statements reach, part 28. -/
import Derived.Test.YtbdcjhoedhhabaaGreatRows
import Derived.Test.YtbdcjhoedhhabaaGreatB23
import Derived.Test.YtbdcjhoedhhabaaGreatB24
import Derived.Test.YtbdcjhoedhhabaaGreatB27
set_option linter.unusedSimpArgs false
set_option linter.unusedVariables false

/- bucket.group. -/
namespace Go.Proofs.YtbdcjhoedhhabaaGreat
open Go.RowKit
attribute [local go_sem ↓] Go.wp_at_zero Go.wp_at_succ

/-- The sums of the weights, of the products. -/
def wF (l : List (Int × Int)) (j : Nat) : Int := wS (l.take j)
def pF (l : List (Int × Int)) (j : Nat) : Int := pS (l.take j)

set_option maxRecDepth 100000 in
set_option maxHeartbeats 8000000 in
theorem bgroup_any (w : World) (a : Addr) (m cap : Nat) (l : List (Int × Int)) (hl : Tims w (.slice (some a) m cap) l) (hml : l.length = m) (hb : BSmall l) :
 Calls Tryz.prog 263 #[.slice (some a) m cap] w fun e w' => (∃ g1 g3 g4 gw gp : Nat, e = .returned (.func (Fn.func 366) #[] #[.pointer (some ⟨g1, 0, none⟩), .pointer (some ⟨g3, 0, none⟩), .pointer (some ⟨g4, 0, none⟩)]) ∧ Hid (GrpOk w' a m cap g1 g3 g4 gw gp l)) ∧ Below w.heap.size w w' := by
 have H := Lib.hid hl
 have HM := Lib.hid hml
 have HB := Lib.hid hb
 have hm64 : m ≤ 64 := by have := hb.1; omega
 clear hl hb
 obtain ⟨n1, hn1⟩ : ∃ n1, m + 1 = n1 := ⟨_, rfl⟩
 have HN1 : Hid (n1 = m + 1) := hn1.symm
 have hnb : n1 ≤ 1000000 := by omega
 have k1 : IntKind.i64.wrap ((m : Int) + 1) = (n1 : Int) := by rw [IntKind.wrap_i64]; omega
 have hmn : m < n1 := by omega
 clear hn1 hml
 have L1 := made1 w #[.slice (some a) m cap] 89
 go_enter Tryz.func263, Tryz.ntmps263
 go_upto_region 1 with fail
 refine Reg16g.reg k1 (m := m) (cap := cap) (a := a) (g1 := w.heap.size) (fun W hW => Loc.cell (Loc.below L1 hW) 0) hnb ?_
 intro W4 ga gb gw gp v7 v8 v9 v10 v11 v12 v13 v14 v15 v16 hab hwp' hla hlb hlw hlp La Lb Lw Lp hB4
 obtain ⟨w4, rfl⟩ : ∃ w4 : World, w4 = W4 := ⟨_, rfl⟩
 have y4 := hB4.size; (try simp only [zs] at y4)
 (try simp only [zs] at hla hlb hlw hlp)
 have NL4 : Loc w4 w.heap.size 89 #[.slice (some a) m cap] := Loc.below L1 hB4
 have RW4 : Hid (RowI w4 gw (preF (wF l) 0 n1)) := by show RowI _ _ _; rw [preF_zero (f := wF l) rfl]; exact rowI_made Lw
 have RP4 : Hid (RowI w4 gp (preF (pF l) 0 n1)) := by show RowI _ _ _; rw [preF_zero (f := pF l) rfl]; exact rowI_made Lp
 have HLA := Lib.hid La
 have HLB := Lib.hid Lb
 have HNL := Lib.hid NL4
 have HBW : Hid (Below w.heap.size w w4) := by show Below _ _ _; exact bel
 obtain ⟨e1, f1, -⟩ := NL4.all (w' := w4)
 clear Lw Lp La Lb
 go_wp2_with fail
 clear e1 f1
 go_loopw [17] (fun i wr => ∃ (c : Nat), c ≤ m ∧ i = .int .i64 c ∧ Hid (RowI wr gw (preF (wF l) c n1)) ∧ Hid (RowI wr gp (preF (pF l) c n1)) ∧ Hid (Loc wr w.heap.size 89 #[.slice (some a) m cap]) ∧ Hid (Loc wr ga 27 #[.slice (some ⟨gw, 0, none⟩) n1 n1]) ∧ Hid (Loc wr gb 27 #[.slice (some ⟨gp, 0, none⟩) n1 n1]) ∧ Below w.heap.size w wr) (fun i _ => m - (intOf i).toNat)
 case atStart => exact ⟨0, by omega, rfl, RW4, RP4, HNL, HLA, HLB, HBW.out⟩
 case round =>
  clear RW4 RP4 HNL HLA HLB HBW NL4
  obtain ⟨c, hc, rfl, hRW, hRP, hL1, hLa, hLb, hB⟩ := hrel
  obtain ⟨wo, rfl⟩ : ∃ wo : World, wo = wr := ⟨_, rfl⟩
  have y5 := hB.size; (try simp only [zs] at y5)
  by_cases hlt : c < m
  ·obtain ⟨⟨x, y⟩, hz⟩ : ∃ z, l[c]? = some z := ⟨_, List.getElem?_eq_getElem (by rw [HM.out]; exact hlt)⟩
   obtain ⟨a', ea', hb', x0, x1, -, -⟩ := (H.out.keep (.of_below hB)).at hz
   injection ea' with ea'
   subst ea'
   simp only at x0 x1
   rw [addr_one] at x1
   have hq := HB.out.2 (x, y) (List.mem_of_getElem? hz)
   simp only at hq
   have hst := wS_take l c (x, y) hz
   simp only at hst
   have r1 := sums_range HB.out c
   have r2 := sums_range HB.out (c + 1)
   have put1 := preF_set (wF l) c (n := n1) (by omega)
   have put2 := preF_set (pF l) c (n := n1) (by omega)
   have cw := RowI.cell hRW.out (preF_get (wF l) c (j := c) (by omega))
   have cp := RowI.cell hRP.out (preF_get (pF l) c (j := c) (by omega))
   have dw := RowI.cell hRW.out (preF_get (wF l) c (j := c + 1) (by omega))
   have dp := RowI.cell hRP.out (preF_get (pF l) c (j := c + 1) (by omega))
   rw [if_pos (Nat.le_refl _)] at cw cp
   rw [if_neg (by omega)] at dw dp
   have q1 : wF l c = wS (l.take c) := rfl
   have q2 : wF l (c + 1) = wS (l.take (c + 1)) := rfl
   have q3 : pF l c = pS (l.take c) := rfl
   have q4 : pF l (c + 1) = pS (l.take (c + 1)) := rfl
   rw [q2] at put1
   rw [q4] at put2
   rw [q1] at cw
   rw [q3] at cp
   clear q1 q2 q3 q4
   obtain ⟨Wc, hWc⟩ : ∃ q, wS (l.take c) = q := ⟨_, rfl⟩
   obtain ⟨Wn, hWn⟩ : ∃ q, wS (l.take (c + 1)) = q := ⟨_, rfl⟩
   obtain ⟨Pc, hPc⟩ : ∃ q, pS (l.take c) = q := ⟨_, rfl⟩
   obtain ⟨Pn, hPn⟩ : ∃ q, pS (l.take (c + 1)) = q := ⟨_, rfl⟩
   rw [hWc, hPc] at r1
   rw [hWn, hPn] at r2
   rw [hWn, hWc, hPn, hPc] at hst
   rw [hWn] at put1
   rw [hPn] at put2
   rw [hWc] at cw
   rw [hPc] at cp
   obtain ⟨Y, hY⟩ : ∃ q, y * x = q := ⟨_, rfl⟩
   have hmb := mul_pos_bound (y := y) (d := x) (by omega) (by omega) (by omega) (by omega)
   rw [hY] at hst hmb
   obtain ⟨c1, hc1⟩ : ∃ c1, c + 1 = c1 := ⟨_, rfl⟩
   rw [hc1] at put1 put2 dw dp
   have HC1 : Hid (c1 = c + 1) := hc1.symm
   have k2 : IntKind.i64.wrap ((c : Int) + 1) = (c1 : Int) := by rw [IntKind.wrap_i64]; omega
   have k3 : (0 : Int) ≤ (c1 : Int) := by omega
   have k4 : (c1 : Int) < (n1 : Int) := by omega
   have k5 : IntKind.i64.wrap (Wc + y) = Wn := by rw [IntKind.wrap_i64]; omega
   have k6 : IntKind.i64.wrap (y * x) = Y := by rw [hY, IntKind.wrap_i64]; omega
   have k7 : IntKind.i64.wrap (Pc + Y) = Pn := by rw [IntKind.wrap_i64]; omega
   have k8 : (0 : Int) ≤ (c : Int) := by omega
   have k9 : (c : Int) < (m : Int) := by omega
   have k10 : (c : Int) < (n1 : Int) := by omega
   have hc1m : c1 ≤ m := by omega
   have HPUT1 := Lib.hid put1
   have HPUT2 := Lib.hid put2
   obtain ⟨wp, hwp⟩ : ∃ W, wo.alloc (.cells #[.int .i64 x, .int .i64 y] 133) = W := ⟨_, rfl⟩
   obtain ⟨wq, hwq⟩ : ∃ W, wp.setCell ⟨gw, c1, none⟩ (.int .i64 Wn) = W := ⟨_, rfl⟩
   have hbp : Below wo.heap.size wo wp := by rw [← hwp]; exact below1 _ _
   have LT : Loc wp wo.heap.size 133 #[.int .i64 x, .int .i64 y] := by rw [← hwp]; exact made1 wo _ _
   have sw := RowI.lt hRW.out
   have sp := RowI.lt hRP.out
   have ny := hbp.size
   have RWp : RowI wp gw (preF (wF l) c n1) := RowI.below hRW.out hbp
   have RPp : RowI wp gp (preF (pF l) c n1) := RowI.below hRP.out hbp
   have HLap : Loc wp ga 27 #[.slice (some ⟨gw, 0, none⟩) n1 n1] := Loc.below hLa.out hbp
   have HLbp : Loc wp gb 27 #[.slice (some ⟨gp, 0, none⟩) n1 n1] := Loc.below hLb.out hbp
   have HL1p : Loc wp w.heap.size 89 #[.slice (some a) m cap] := Loc.below hL1.out hbp
   have hbq : Below w.heap.size w wp := by rw [← hwp]; exact bel
   have RWq : RowI wq gw (preF (wF l) c1 n1) := by rw [← hwq, ← put1]; exact RowI.set (w := wp) RWp c1 Wn
   have RPq : RowI wq gp (preF (pF l) c n1) := by rw [← hwq]; exact Loc.far (w := wp) RPp (p := ⟨gw, c1, none⟩) (Ne.symm hwp') _
   have LTq : Loc wq wo.heap.size 133 #[.int .i64 x, .int .i64 y] := by rw [← hwq]; exact Loc.far (w := wp) LT (p := ⟨gw, c1, none⟩) (fun h => by have : wo.heap.size = gw := h; omega) _
   have HLaq : Loc wq ga 27 #[.slice (some ⟨gw, 0, none⟩) n1 n1] := by rw [← hwq]; exact Loc.far (w := wp) HLap (p := ⟨gw, c1, none⟩) (Ne.symm (loc_ne RWp HLap (by decide))) _
   have HLbq : Loc wq gb 27 #[.slice (some ⟨gp, 0, none⟩) n1 n1] := by rw [← hwq]; exact Loc.far (w := wp) HLbp (p := ⟨gw, c1, none⟩) (Ne.symm (loc_ne RWp HLbp (by decide))) _
   have HL1q : Loc wq w.heap.size 89 #[.slice (some a) m cap] := by rw [← hwq]; exact Loc.far (w := wp) HL1p (p := ⟨gw, c1, none⟩) (Ne.symm (loc_ne RWp HL1p (by decide))) _
   have hbr : Below w.heap.size w wq := by rw [← hwq]; exact hbq.setCell (by show w.heap.size ≤ gw; omega) _
   have HWP := Lib.hid hwp
   have HWQ := Lib.hid hwq
   have cwp := cell_keep (X := fun _ => False) cw sw id (.of_below hbp)
   have dwp : wp.cell? ⟨gw, c1, none⟩ = some (.int .i64 0) := cell_keep (X := fun _ => False) dw sw id (.of_below hbp)
   have HLS : Hid ((wp.cell? ⟨ga, 0, none⟩ = some (.slice (some ⟨gw, 0, none⟩) n1 n1) ∧ wp.cell? ⟨gw, c, none⟩ = some (.int .i64 Wc)) ∧ wp.cell? ⟨wo.heap.size, 1, none⟩ = some (.int .i64 y)) := ⟨⟨Loc.cell HLap 0, cwp⟩, Loc.cell LT 1⟩
   have cpq : wq.cell? ⟨gp, c, none⟩ = some (.int .i64 Pc) := by have h9 := RowI.cell RPq (preF_get (pF l) c (j := c) (by omega)); rw [if_pos (Nat.le_refl _)] at h9; rw [← hPc]; exact h9
   have dpq : wq.cell? ⟨gp, c1, none⟩ = some (.int .i64 0) := by have h9 := RowI.cell RPq (preF_get (pF l) c (j := c1) (by omega)); rw [if_neg (by omega)] at h9; exact h9
   have HLS2 : Hid ((wq.cell? ⟨gb, 0, none⟩ = some (.slice (some ⟨gp, 0, none⟩) n1 n1) ∧ wq.cell? ⟨gp, c, none⟩ = some (.int .i64 Pc)) ∧ wq.cell? ⟨wo.heap.size, 0, none⟩ = some (.int .i64 x) ∧ wq.cell? ⟨wo.heap.size, 1, none⟩ = some (.int .i64 y)) := ⟨⟨Loc.cell HLbq 0, cpq⟩, Loc.cell LTq 0, Loc.cell LTq 1⟩
   have HG1 : Hid (∀ i, wp.frozen? ⟨gw, i, none⟩ = false) := Loc.frz RWp
   have HG2 : Hid (∀ i, wq.frozen? ⟨gp, i, none⟩ = false) := Loc.frz RPq
   have HD1 := Lib.hid dwp
   have HD2 := Lib.hid dpq
   have HS1 : Hid (gw < wp.heap.size) := RowI.lt RWp
   have HS2 : Hid (gp < wq.heap.size) := RowI.lt RPq
   have HEND : Hid (∀ W, wq.setCell ⟨gp, c1, none⟩ (.int .i64 Pn) = W → RowI W gw (preF (wF l) c1 n1) ∧ RowI W gp (preF (pF l) c1 n1) ∧ Loc W w.heap.size 89 #[.slice (some a) m cap] ∧ Loc W ga 27 #[.slice (some ⟨gw, 0, none⟩) n1 n1] ∧ Loc W gb 27 #[.slice (some ⟨gp, 0, none⟩) n1 n1] ∧ Below w.heap.size w W) := fun W hW => by
    subst hW
    refine ⟨Loc.far (w := wq) RWq (p := ⟨gp, c1, none⟩) hwp' _, ?_, Loc.far (w := wq) HL1q (p := ⟨gp, c1, none⟩) (Ne.symm (loc_ne RPq HL1q (by decide))) _, Loc.far (w := wq) HLaq (p := ⟨gp, c1, none⟩) (Ne.symm (loc_ne RPq HLaq (by decide))) _, Loc.far (w := wq) HLbq (p := ⟨gp, c1, none⟩) (Ne.symm (loc_ne RPq HLbq (by decide))) _, hbr.setCell (by show w.heap.size ≤ gp; omega) _⟩
    rw [← HPUT2.out]
    exact RowI.set (w := wq) RPq c1 Pn
   clear hz hst r1 r2 put1 put2 cw cp dw dp hWc hWn hPc hPn hY hmb hc1 hbp LT sw sp ny RWp RPp HLap HLbp HL1p hbq RWq RPq LTq HLaq HLbq HL1q hbr cwp dwp cpq dpq hwp hwq hq hb'
   go_wp2_with fail
   rw [HWP.out]
   refine wp_region_noPanic ?_
   refine wp_region_heldK (k := 11) (S := (fun W => (W.cell? ⟨ga, 0, none⟩ = some (.slice (some ⟨gw, 0, none⟩) n1 n1) ∧ W.cell? ⟨gw, c, none⟩ = some (.int .i64 Wc)) ∧ W.cell? ⟨wo.heap.size, 1, none⟩ = some (.int .i64 y))) (by kernel_rfl) ?_ (fun hHeld => ?_)
   ·exact HLS.out
   refine tkK 0 ?_
   (try simp only [Act.put, ly])
   refine tkK 1 ?_
   (try simp only [Act.put, ly])
   refine tkK 2 ?_
   (try simp only [Act.put, ly])
   refine tkK 3 ?_
   (try simp only [Act.put, ly])
   refine tkK 4 ?_
   (try simp only [Act.put, ly])
   refine tkK 5 ?_
   (try simp only [Act.put, ly])
   refine tkK 6 ?_
   (try simp only [Act.put, ly])
   refine tkK 7 ?_
   (try simp only [Act.put, ly])
   refine tkK 8 ?_
   (try simp only [Act.put, ly])
   refine tkK 9 ?_
   (try simp only [Act.put, ly])
   refine tkK 10 ?_
   (try simp only [Act.put, ly])
   have g0 := HD1.out
   have gf := HG1.out
   have gl := HS1.out
   refine wpAnyK_ready (rs := [11]) (by kernel_rfl) (by simp) ?_
   refine AllReadyK.last (by kernel_rfl) rfl (fun KK hKK => ?_) AllReadyK.nil
   go_simp
   refine hKK.out _ _ ?_
   clear hKK KK
   (try simp only [Act.put, ly])
   refine wpAnyK_done (by kernel_rfl) ?_ _
   refine NoPanic.normal ?_
   clear g0 gf gl
   rw [HWQ.out]
   go_wp2_with fail
   refine wp_region_noPanic ?_
   refine wp_region_heldK (k := 14) (S := (fun W => (W.cell? ⟨gb, 0, none⟩ = some (.slice (some ⟨gp, 0, none⟩) n1 n1) ∧ W.cell? ⟨gp, c, none⟩ = some (.int .i64 Pc)) ∧ W.cell? ⟨wo.heap.size, 0, none⟩ = some (.int .i64 x) ∧ W.cell? ⟨wo.heap.size, 1, none⟩ = some (.int .i64 y))) (by kernel_rfl) ?_ (fun hHeld => ?_)
   ·exact HLS2.out
   refine tkK 0 ?_
   (try simp only [Act.put, ly])
   refine tkK 1 ?_
   (try simp only [Act.put, ly])
   refine tkK 2 ?_
   (try simp only [Act.put, ly])
   refine tkK 3 ?_
   (try simp only [Act.put, ly])
   refine tkK 4 ?_
   (try simp only [Act.put, ly])
   refine tkK 5 ?_
   (try simp only [Act.put, ly])
   refine tkK 6 ?_
   (try simp only [Act.put, ly])
   refine tkK 7 ?_
   (try simp only [Act.put, ly])
   refine tkK 8 ?_
   (try simp only [Act.put, ly])
   refine tkK 9 ?_
   (try simp only [Act.put, ly])
   refine tkK 10 ?_
   (try simp only [Act.put, ly])
   refine tkK 11 ?_
   (try simp only [Act.put, ly])
   refine tkK 12 ?_
   (try simp only [Act.put, ly])
   refine tkK 13 ?_
   (try simp only [Act.put, ly])
   have g0 := HD2.out
   have gf := HG2.out
   have gl := HS2.out
   refine wpAnyK_ready (rs := [14]) (by kernel_rfl) (by simp) ?_
   refine AllReadyK.last (by kernel_rfl) rfl (fun KK hKK => ?_) AllReadyK.nil
   go_simp
   refine hKK.out _ _ ?_
   clear hKK KK
   (try simp only [Act.put, ly])
   refine wpAnyK_done (by kernel_rfl) ?_ _
   refine NoPanic.normal ?_
   clear g0 gf gl
   have HE2 := Lib.hid (HEND.out _ rfl)
   go_wp2_with fail
   go_roundw
   case rel => exact ⟨c1, hc1m, by go_num, HE2.out.1, HE2.out.2.1, HE2.out.2.2.1, HE2.out.2.2.2.1, HE2.out.2.2.2.2.1, by first | exact HE2.out.2.2.2.2.2 | exact HE2.out.2.2.2.2.2.drew | exact HE2.out.2.2.2.2.2.drew.drew | exact HE2.out.2.2.2.2.2.drew.drew.drew⟩
   case measure => have := HC1.out; simp only [intOf]; omega
  ·obtain rfl : c = m := by omega
   have HGRP : Hid (GrpOk wo a c cap w.heap.size ga gb gw gp l) := by
    have := HN1.out
    refine ⟨Loc.cell hL1.out 0, ?_, ?_, fun j hj => ?_, fun j hj => ?_, Loc.lt hL1.out, Loc.lt hLa.out, Loc.lt hLb.out, RowI.lt hRW.out, RowI.lt hRP.out⟩
    ·rw [← this]; exact Loc.cell hLa.out 0
    ·rw [← this]; exact Loc.cell hLb.out 0
    ·have h9 := RowI.cell hRW.out (preF_get (wF l) c (j := j) (by omega))
     rw [if_pos hj] at h9
     exact h9
    ·have h9 := RowI.cell hRP.out (preF_get (pF l) c (j := j) (by omega))
     rw [if_pos hj] at h9
     exact h9
   go_wp2_with fail
   go_ret
   exact ⟨⟨_, _, _, _, _, rfl, HGRP⟩, hB⟩

/- checker.losses, merge.Check. -/

/-- The rows of a table of losses have the right length. -/
def LsForm (L : List (List Int)) : Prop := ∀ l ∈ L, l.length = L.length
/-- The numbers of a table of losses are right. -/
def LsOk (L : List (List Int)) : Prop := ∀ (i : Nat) (l : List Int), L[i]? = some l → ∀ (j : Nat) (x : Int), l[j]? = some x → (0 ≤ x ∧ x ≤ 1048576) ∧ (i = j → x = 0)
open Classical in
/-- The code of a table of losses. -/
noncomputable def lsC (L : List (List Int)) : Int := if L.length = 0 then 1 else if 32 < L.length then 4 else if LsForm L then (if LsOk L then 0 else 3) else 2

theorem lsC_one {L : List (List Int)} (h : L.length = 0) : lsC L = 1 := if_pos h
theorem lsC_four {L : List (List Int)} (h : L.length ≠ 0) (h1 : 32 < L.length) : lsC L = 4 := by unfold lsC; rw [if_neg h, if_pos h1]
theorem lsC_two {L : List (List Int)} (h : L.length ≠ 0) (h1 : ¬ 32 < L.length) (h2 : ¬ LsForm L) : lsC L = 2 := by unfold lsC; rw [if_neg h, if_neg h1, if_neg h2]
theorem lsC_three {L : List (List Int)} (h : L.length ≠ 0) (h1 : ¬ 32 < L.length) (h2 : LsForm L) (h3 : ¬ LsOk L) : lsC L = 3 := by unfold lsC; rw [if_neg h, if_neg h1, if_pos h2, if_neg h3]
theorem lsC_ok {L : List (List Int)} (h : L.length ≠ 0) (h1 : ¬ 32 < L.length) (h2 : LsForm L) (h3 : LsOk L) : lsC L = 0 := by unfold lsC; rw [if_neg h, if_neg h1, if_pos h2, if_pos h3]
theorem lsC_zero {L : List (List Int)} (h : lsC L = 0) : 1 ≤ L.length ∧ L.length ≤ 32 ∧ LsForm L ∧ LsOk L := by
 by_cases h0 : L.length = 0
 ·rw [lsC_one h0] at h; cases h
 by_cases h1 : 32 < L.length
 ·rw [lsC_four h0 h1] at h; cases h
 by_cases h2 : LsForm L
 ·by_cases h3 : LsOk L
  ·exact ⟨by omega, by omega, h2, h3⟩
  ·rw [lsC_three h0 h1 h2 h3] at h; cases h
 ·rw [lsC_two h0 h1 h2] at h; cases h

set_option maxRecDepth 100000 in
set_option maxHeartbeats 8000000 in
theorem klosses_any (w : World) (v : Value) (L : List (List Int)) (h : IMat w v L) :
 Calls Tryz.prog 134 #[v] w fun e w' => e = .returned (.int .i64 (lsC L)) ∧ Below w.heap.size w w' := by
 have H := Lib.hid h
 obtain ⟨A, cap, rfl, h, l1, l2⟩ := h.op
 have lm : L.length ≤ 9223372036854775807 := by unfold maxLen at l2; omega
 clear h
 obtain ⟨m, hm⟩ : ∃ m, L.length = m := ⟨_, rfl⟩
 rw [hm] at l1 lm
 have HM := Lib.hid hm
 have H2 : Hid (IMat w (.slice A m cap) L) := by have h9 := H.out; rw [hm] at h9; exact h9
 rw [hm]
 obtain ⟨R, hR⟩ : ∃ R, lsC L = R := ⟨_, rfl⟩
 rw [hR]
 have HR := Lib.hid hR
 clear hm hR H
 have L1 := made1 w #[.slice A m cap] 90
 by_cases h0 : m = 0
 ·subst h0
  have HE : Hid (R = 1) := by rw [← HR.out]; exact lsC_one HM.out
  go_enter Tryz.func134, Tryz.ntmps134
  go_wp2_with fail
  go_ret
  exact ⟨by first | rfl | (rw [HE.out]; rfl) | rw [HE.out], bel⟩
 have q1 : ((m : Int) == 0) = false := beq_eq_false_iff_ne.2 (by omega)
 have N0 : Hid (L.length ≠ 0) := by show _ ≠ _; rw [HM.out]; exact h0
 by_cases h1 : 32 < m
 ·have HE : Hid (R = 4) := by rw [← HR.out]; exact lsC_four N0.out (by rw [HM.out]; exact h1)
  have q2 : decide ((32 : Int) < (m : Int)) = true := decide_eq_true (by omega)
  go_enter Tryz.func134, Tryz.ntmps134
  go_wp2_with fail
  go_ret
  exact ⟨by first | rfl | (rw [HE.out]; rfl) | rw [HE.out], bel⟩
 have q2 : decide ((32 : Int) < (m : Int)) = false := decide_eq_false (by omega)
 have N1 : Hid (¬ 32 < L.length) := by show ¬ _; rw [HM.out]; exact h1
 have hm32 : m ≤ 32 := by omega
 clear h0 h1
 go_enter Tryz.func134, Tryz.ntmps134
 go_wp2_with fail
 refine (containsLo_any _ 264 #[.pointer (some ⟨w.heap.size, 0, none⟩)] (fun l => l.length ≠ m) _ L (H2.out.keep kp) (enters Tryz.func264 (by kernel_rfl) (by kernel_rfl)) (fun W B c l hW hl _ => klosses1_any W B A l.length c w.heap.size m cap (Loc.c 0 (L1.to (w' := W))))).mono ?_
 rintro e w1 ⟨⟨b, rfl, hb⟩, hb1⟩
 have y1 := hb1.size; (try simp only [zs] at y1)
 obtain ⟨e1, f1, l1'⟩ := L1.all (w' := w1)
 cases b
 case true =>
  have HE : Hid (R = 2) := by
   rw [← HR.out]
   exact lsC_two N0.out N1.out (fun hf => by
    obtain ⟨l, hl, hn⟩ := hb.out.1 rfl
    exact hn (by rw [hf l hl, HM.out]))
  clear hb
  go_wp2_with fail
  go_ret
  exact ⟨by first | rfl | (rw [HE.out]; rfl) | rw [HE.out], bel⟩
 have HF : Hid (LsForm L) := fun l hl => Classical.byContradiction fun hn => by
  have := hb.out.2 ⟨l, hl, by rw [← HM.out]; exact hn⟩
  cases this
 clear hb
 go_wp2_with fail
 go_loopw [18] (fun i wr => ∃ (c : Nat), c ≤ m ∧ i = .int .i64 c ∧ Hid (∀ (i : Nat) (l : List Int), i < c → L[i]? = some l → ∀ (j : Nat) (x : Int), l[j]? = some x → (0 ≤ x ∧ x ≤ 1048576) ∧ (i = j → x = 0)) ∧ Below w.heap.size w wr) (fun i _ => m - (intOf i).toNat)
 case atStart => exact ⟨0, by omega, rfl, Lib.hid (fun i l hi => absurd hi (by omega)), bel⟩
 case round =>
  obtain ⟨c, hc, rfl, hall, hB⟩ := hrel
  obtain ⟨wo, rfl⟩ : ∃ wo : World, wo = wr := ⟨_, rfl⟩
  have y5 := hB.size; (try simp only [zs] at y5)
  clear e1 f1 l1'
  by_cases hlt : c < m
  ·obtain ⟨l, he⟩ : ∃ l, L[c]? = some l := ⟨_, List.getElem?_eq_getElem (by rw [HM.out]; exact hlt)⟩
   obtain ⟨a, D, d, rfl, hab, hcell, hnum, l3, l4⟩ := (H2.out.keep (.of_below hB)).at he
   have HE := Lib.hid he
   have HNUM := Lib.hid hnum
   have k0 : (0 : Int) ≤ (c : Int) := by omega
   have k1 : (c : Int) < (m : Int) := by omega
   obtain ⟨n, hn⟩ : ∃ n, l.length = n := ⟨_, rfl⟩
   have HN := Lib.hid hn
   rw [hn] at hcell hnum l3 HNUM
   have hnm : n ≤ 32 := by rw [← hn, HF.out l (List.mem_of_getElem? he), HM.out]; exact hm32
   clear he hnum hn
   go_wp2_with fail
   go_loopw [25] (fun i wr => ∃ (j : Nat), j ≤ n ∧ i = .int .i64 j ∧ Hid (∀ (j' : Nat) (x : Int), j' < j → l[j']? = some x → (0 ≤ x ∧ x ≤ 1048576) ∧ (c = j' → x = 0)) ∧ Below w.heap.size w wr ∧ Below wo.heap.size wo wr) (fun i _ => n - (intOf i).toNat)
   case atStart => exact ⟨0, by omega, rfl, Lib.hid (fun i x hi => absurd hi (by omega)), bel, bel⟩
   case round =>
    obtain ⟨j, hj, rfl, hall2, hB2, hB3⟩ := hrel
    obtain ⟨wp, rfl⟩ : ∃ wp : World, wp = wr := ⟨_, rfl⟩
    have y6 := hB2.size; (try simp only [zs] at y6)
    have y7 := hB3.size; (try simp only [zs] at y7)
    by_cases hlt2 : j < n
    ·obtain ⟨x, hx⟩ : ∃ x, l[j]? = some x := ⟨_, List.getElem?_eq_getElem (by rw [HN.out]; exact hlt2)⟩
     obtain ⟨b, rfl, hbb, hcx, zb1, zb2⟩ := (HNUM.out.keep (.of_below hB3)).at hx
     have HX := Lib.hid hx
     have k2 : (0 : Int) ≤ (j : Int) := by omega
     have k3 : (j : Int) < (n : Int) := by omega
     have HBAD : Hid (¬ ((0 ≤ x ∧ x ≤ 1048576) ∧ (c = j → x = 0)) → R = 3) := fun hq => by
      rw [← HR.out]
      exact lsC_three N0.out N1.out HF.out (fun hok => hq (hok c l HE.out j x HX.out))
     have HNEXT : Hid (((0 ≤ x ∧ x ≤ 1048576) ∧ (c = j → x = 0)) → ∀ (j' : Nat) (x : Int), j' < j + 1 → l[j']? = some x → (0 ≤ x ∧ x ≤ 1048576) ∧ (c = j' → x = 0)) := fun hq j' x' hj' hx' => by
      by_cases hh : j' < j
      ·exact hall2.out j' x' hh hx'
      ·obtain rfl : j' = j := by omega
       rw [HX.out] at hx'
       injection hx' with hx'
       subst hx'
       exact hq
     clear hx
     by_cases z0 : x < 0
     ·have HE3 : Hid (R = 3) := HBAD.out (fun h => by omega)
      have d1 : decide (x < 0) = true := decide_eq_true z0
      clear z0
      go_wp2_with fail
      go_ret
      exact ⟨by first | rfl | (rw [HE3.out]; rfl) | rw [HE3.out], bel⟩
     have d1 : decide (x < 0) = false := decide_eq_false z0
     by_cases z1 : 1048576 < x
     ·have HE3 : Hid (R = 3) := HBAD.out (fun h => by omega)
      have d2 : decide (1048576 < x) = true := decide_eq_true z1
      clear z0 z1
      go_wp2_with fail
      go_ret
      exact ⟨by first | rfl | (rw [HE3.out]; rfl) | rw [HE3.out], bel⟩
     have d2 : decide (1048576 < x) = false := decide_eq_false z1
     by_cases z2 : c = j
     ·have d3 : ((c : Int) == (j : Int)) = true := beq_iff_eq.2 (by omega)
      by_cases z3 : x = 0
      ·have HNX := Lib.hid (HNEXT.out ⟨by omega, fun _ => z3⟩)
       have d4 : (x == 0) = true := beq_iff_eq.2 z3
       have d5 : (x != 0) = false := by simp only [bne, d4]; rfl
       clear z0 z1 z2 z3
       go_wp2_with fail
       go_roundw
       case rel => exact ⟨j + 1, by omega, by go_num, HNX, bel, bel⟩
       case measure => simp only [intOf]; omega
      ·have HE3 : Hid (R = 3) := HBAD.out (fun h => z3 (h.2 z2))
       have d4 : (x == 0) = false := beq_eq_false_iff_ne.2 z3
       have d5 : (x != 0) = true := bne_iff_ne.2 z3
       clear z0 z1 z2 z3
       go_wp2_with fail
       go_ret
       exact ⟨by first | rfl | (rw [HE3.out]; rfl) | rw [HE3.out], bel⟩
     ·have d3 : ((c : Int) == (j : Int)) = false := beq_eq_false_iff_ne.2 (by omega)
      have HNX := Lib.hid (HNEXT.out ⟨by omega, fun h => absurd h z2⟩)
      clear z0 z1 z2
      go_wp2_with fail
      go_roundw
      case rel => exact ⟨j + 1, by omega, by go_num, HNX, bel, bel⟩
      case measure => simp only [intOf]; omega
    ·obtain rfl : j = n := by omega
     have HNX : Hid (∀ (i : Nat) (l' : List Int), i < c + 1 → L[i]? = some l' → ∀ (j : Nat) (x : Int), l'[j]? = some x → (0 ≤ x ∧ x ≤ 1048576) ∧ (i = j → x = 0)) := fun i l' hi hl' j' x hx => by
      by_cases hh : i < c
      ·exact hall.out i l' hh hl' j' x hx
      ·obtain rfl : i = c := by omega
       rw [HE.out] at hl'
       injection hl' with hl'
       subst hl'
       exact hall2.out j' x (by rw [← HN.out]; exact (List.getElem?_eq_some_iff.1 hx).1) hx
     go_wp2_with fail
     go_roundw
     case rel => exact ⟨c + 1, by omega, by go_num, HNX, bel⟩
     case measure => simp only [intOf]; omega
  ·obtain rfl : c = m := by omega
   have HV : Hid (R = 0) := by
    rw [← HR.out]
    exact lsC_ok N0.out N1.out HF.out (fun i l hl j x hx => hall.out i l (by rw [← HM.out]; exact (List.getElem?_eq_some_iff.1 hl).1) hl j x hx)
   go_wp2_with fail
   go_ret
   exact ⟨by first | rfl | (rw [HV.out]; rfl) | rw [HV.out], hB⟩

/- The costs of groups of outputs: merge.whole, merge.interval, the checker's closure. -/

/-- What k outputs from h on lose as r. -/
def msum (L : List (List Int)) (r h : Nat) : Nat → Int
 | 0 => 0
 | k + 1 => msum L r h k + ent L (h + k) r
/-- The least of the first k reports. -/
def mbest (L : List (List Int)) (h len : Nat) : Nat → Int
 | 0 => 0
 | k + 1 => if k = 0 ∨ msum L (h + k) h len < mbest L h len k then msum L (h + k) h len else mbest L h len k
/-- What the outputs from h to i - 1 lose as a group. -/
def mc (L : List (List Int)) (h i : Nat) : Int := mbest L h (i - h) (i - h)

theorem ent_loss {L : List (List Int)} (h : LsOk L) (j i : Nat) : 0 ≤ ent L j i ∧ ent L j i ≤ 1048576 := by
 unfold ent
 cases hl : L[j]? with
 | none => simp
 | some l =>
   rw [Option.getD_some]
   cases hx : l[i]? with
   | none => simp
   | some x => rw [Option.getD_some]; exact (h j l hl i x hx).1

theorem msum_range {L : List (List Int)} (h : LsOk L) (r a : Nat) : ∀ k, 0 ≤ msum L r a k ∧ msum L r a k ≤ 1048576 * (k : Int)
 | 0 => by unfold msum; omega
 | k + 1 => by
   have h1 := msum_range h r a k
   have h2 := ent_loss h (a + k) r
   unfold msum
   omega

theorem mbest_range {L : List (List Int)} (h : LsOk L) (a len : Nat) : ∀ k, 0 ≤ mbest L a len k ∧ mbest L a len k ≤ 1048576 * (len : Int)
 | 0 => by unfold mbest; omega
 | k + 1 => by
   have h1 := mbest_range h a len k
   have h2 := msum_range h (a + k) a len
   unfold mbest
   split <;> omega

theorem IMat.loss {w : World} {A : Option Addr} {m cap : Nat} {L : List (List Int)} (h : IMat w (.slice A m cap) L) (hm : L.length = m) (hf : LsForm L) {j i : Nat} (hj : j < m) (hi : i < m) :
 ∃ (a a' : Addr) (d : Nat), A = some a ∧ a.block < w.heap.size ∧ a'.block < w.heap.size ∧ w.cell? (a.add j) = some (.slice (some a') m d) ∧ w.cell? (a'.add i) = some (.int .i64 (ent L j i)) ∧ m ≤ d ∧ d ≤ maxLen := by
 obtain ⟨a, a', d, q1, q2, q3, q4, q5, q6, q7⟩ := h.entry (n := m - 1) (fun l hl => by have := hf l hl; omega) (j := j) (i := i) (by omega) (by omega)
 have e : m - 1 + 1 = m := by omega
 rw [e] at q4 q6
 exact ⟨a, a', d, q1, q2, q3, q4, q5, q6, q7⟩

set_option maxRecDepth 100000 in
set_option maxHeartbeats 8000000 in
theorem mwhole_any (w : World) (v : Value) (L : List (List Int)) (h i r : Nat) (hL : IMat w v L) (hf : LsForm L) (hok : LsOk L) (hm : L.length ≤ 32) (hh : h ≤ i) (hi : i ≤ L.length) (hr : r < L.length) :
 Calls Tryz.prog 367 #[v, .int .i64 (h : Int), .int .i64 (i : Int), .int .i64 (r : Int)] w fun e w' => e = .returned (.int .i64 (msum L r h (i - h))) ∧ Below w.heap.size w w' := by
 have H := Lib.hid hL
 have HF := Lib.hid hf
 have HOK := Lib.hid hok
 obtain ⟨A, cap, rfl, hL, l1, l2⟩ := hL.op
 obtain ⟨m, hml⟩ : ∃ m, L.length = m := ⟨_, rfl⟩
 have HM := Lib.hid hml
 have H2 : Hid (IMat w (.slice A m cap) L) := by have h9 := H.out; rw [hml] at h9; exact h9
 rw [hml] at l1 hm hi hr ⊢
 clear hf hok hL hml H
 obtain ⟨len, hlen⟩ : ∃ n, i - h = n := ⟨_, rfl⟩
 rw [hlen]
 have hi2 : i = h + len := by omega
 clear hlen
 subst hi2
 have k0 : (r : Int) < (m : Int) := by omega
 have k1 : (0 : Int) ≤ (r : Int) := by omega
 go_enter Tryz.func367, Tryz.ntmps367
 go_wp2_with fail
 go_loopw [9, 10] (fun s j wr => ∃ (c : Nat), c ≤ len ∧ j = .int .i64 ((h + c : Nat) : Int) ∧ s = .int .i64 (msum L r h c) ∧ Below w.heap.size w wr) (fun _ j _ => h + len - (intOf j).toNat)
 case atStart => exact ⟨0, by omega, rfl, rfl, bel⟩
 case round =>
  obtain ⟨c, hc, rfl, rfl, hB⟩ := hrel
  obtain ⟨wo, rfl⟩ : ∃ wo : World, wo = wr := ⟨_, rfl⟩
  have y5 := hB.size; (try simp only [zs] at y5)
  obtain ⟨S, hS⟩ : ∃ S, msum L r h c = S := ⟨_, rfl⟩
  have hrg := msum_range HOK.out r h c
  rw [hS] at hrg
  have HS := Lib.hid hS
  rw [hS]
  clear hS
  by_cases hlt : c < len
  ·have k2 : ((h + c : Nat) : Int) < ((h + len : Nat) : Int) := by omega
   have k3 : (0 : Int) ≤ ((h + c : Nat) : Int) := by omega
   have k4 : ((h + c : Nat) : Int) < (m : Int) := by omega
   obtain ⟨a, b, d, rfl, -, -, x0, x1, l3, l4⟩ := (H2.out.keep (.of_below hB)).loss HM.out HF.out (j := h + c) (i := r) (by omega) hr
   have hx := ent_loss HOK.out (h + c) r
   obtain ⟨x, hxx⟩ : ∃ x, ent L (h + c) r = x := ⟨_, rfl⟩
   rw [hxx] at x1 hx
   have HNX : Hid (msum L r h (c + 1) = S + x) := by show msum L r h c + ent L (h + c) r = _; rw [HS.out, hxx]
   clear hxx
   have k5 : IntKind.i64.wrap (S + x) = S + x := by rw [IntKind.wrap_i64]; omega
   have k6 : IntKind.i64.wrap (((h + c : Nat) : Int) + 1) = ((h + (c + 1) : Nat) : Int) := by rw [IntKind.wrap_i64]; omega
   go_wp2_with fail
   go_roundw
   case rel => exact ⟨c + 1, by omega, by first | rfl | go_num, by first | rfl | (rw [HNX.out]; rfl) | rw [HNX.out], bel⟩
   case measure => simp only [intOf]; omega
  ·obtain rfl : c = len := by omega
   have HE := HS
   have k2 : ¬ ((h + c : Nat) : Int) < ((h + c : Nat) : Int) := by omega
   go_wp2_with fail
   go_ret
   exact ⟨by first | rfl | (rw [HS.out]; rfl) | rw [HS.out], bel⟩
end Go.Proofs.YtbdcjhoedhhabaaGreat

