/- Contracts of the functions that the statements reach, part 30. -/
import Derived.Test.YtbdcjhoedhhabaaGreatRows
import Derived.Test.YtbdcjhoedhhabaaGreatD26
import Derived.Test.YtbdcjhoedhhabaaGreatD29
set_option linter.unusedSimpArgs false
set_option linter.unusedVariables false

/- checker.Bellman. Printed by gen_bm9.py. -/
namespace Go.Proofs.YtbdcjhoedhhabaaGreat
open Go.RowKit
attribute [local go_sem ↓] Go.wp_at_zero Go.wp_at_succ

set_option maxRecDepth 100000 in
set_option maxHeartbeats 32000000 in
theorem kbellman_any (w : World) (ns : Int) (vm vg vt : Value) (L G : List (List Int)) (left : Int) (l : List (Int × Int × Int)) (bound : Int) (h : IMat w vm L) (hg : IMat w vg G) (ht : Bels w vt l) :
 Calls Tryz.prog 53 #[.agg #[.int .i64 ns, vm], vg, .int .i64 left, vt, .int .i64 bound] w fun e w' => (∃ r : Int, e = .returned (.int .i64 r) ∧ Hid (BeC ns L G left l bound r)) ∧ Below w.heap.size w w' := by
 have H := Lib.hid h
 have HG := Lib.hid hg
 have HT := Lib.hid ht
 obtain ⟨A, cap0, rfl, h, l1, l2⟩ := h.op
 obtain ⟨D, cap2, rfl, hg, l5, l6⟩ := hg.op
 obtain ⟨B, cap1, rfl, ht, l3, l4⟩ := ht.op
 clear h ht hg
 obtain ⟨m, hml⟩ : ∃ m, L.length = m := ⟨_, rfl⟩
 have HM := Lib.hid hml
 have H2 : Hid (IMat w (.slice A m cap0) L) := by have h9 := H.out; rw [hml] at h9; exact h9
 obtain ⟨g, hgl⟩ : ∃ g, G.length = g := ⟨_, rfl⟩
 have HG2 : Hid (IMat w (.slice D g cap2) G) := by have h9 := HG.out; rw [hgl] at h9; exact h9
 obtain ⟨n, hn⟩ : ∃ n, l.length = n := ⟨_, rfl⟩
 have HN := Lib.hid hn
 have HT2 : Hid (Bels w (.slice B n cap1) l) := by have h9 := HT.out; rw [hn] at h9; exact h9
 rw [hml, hn, hgl]
 rw [hml] at l1
 rw [hn] at l3
 rw [hgl] at l5
 clear hml hn hgl H HT HG
 have NO : Hid (¬ AskOk ns L G left → BeC ns L G left l bound 1) := fun h => BeC.one h
 have L1 := made1 w #[.int .i64 ns, .slice A m cap0] 84
 go_enter Tryz.func53, Tryz.ntmps53
 go_wp2_with fail
 refine (kmenu_any _ ns _ L (H2.out.keep kp)).mono ?_
 rintro e w1 ⟨⟨b1, rfl, hb1'⟩, hb1⟩
 have y1 := hb1.size; (try simp only [zs] at y1)
 cases b1
 ·have HV := Lib.hid (NO.out (fun h => by have := hb1'.out.2 h.1; cases this))
  clear hb1'
  go_wp2_with fail
  go_ret
  exact ⟨⟨_, rfl, HV⟩, bel⟩
 have HMN := Lib.hid (hb1'.out.1 rfl)
 have HL1 : Hid (Loc w1 w.heap.size 84 #[.int .i64 ns, .slice A m cap0]) := by show Loc _ _ _ _; exact L1.to
 have HB1 : Hid (Below w.heap.size w w1) := by show Below _ _ _; exact bel
 clear hb1' L1 hb1
 obtain ⟨e1, f1, -⟩ := Loc.all HL1.out (w' := w1)
 go_wp2_with fail
 refine (kgain_any _ ns _ _ G ⟨_, _, _, rfl⟩ (HG2.out.keep (.of_below HB1.out))).mono ?_
 rintro e w2 ⟨⟨b2, rfl, hb2'⟩, hb2⟩
 have y2 := hb2.size; (try simp only [zs] at y2)
 have HL2 : Hid (Loc w2 w.heap.size 84 #[.int .i64 ns, .slice A m cap0]) := Loc.below HL1.out hb2
 have HB2 : Hid (Below w.heap.size w w2) := HB1.out.trans (hb2.mono HB1.out.size)
 clear e1 f1 hb2 HL1 HB1
 cases b2
 ·have HV := Lib.hid (NO.out (fun h => by have := hb2'.out.2 h.2.1; cases this))
  clear hb2'
  go_wp2_with fail
  go_ret
  exact ⟨⟨_, rfl, HV⟩, HB2.out⟩
 have HGN := Lib.hid (hb2'.out.1 rfl)
 clear hb2'
 by_cases z0 : left < 0
 ·have HV := Lib.hid (NO.out (fun h => by have := h.2.2; omega))
  have d1 : decide (left < 0) = true := decide_eq_true z0
  clear z0
  go_wp2_with fail
  go_ret
  exact ⟨⟨_, rfl, HV⟩, HB2.out⟩
 have d0 : decide (left < 0) = false := decide_eq_false z0
 by_cases z1 : 8 < left
 ·have HV := Lib.hid (NO.out (fun h => by have := h.2.2; omega))
  have d2 : decide (8 < left) = true := decide_eq_true z1
  clear z0 z1
  go_wp2_with fail
  go_ret
  exact ⟨⟨_, rfl, HV⟩, HB2.out⟩
 have d0' : decide (8 < left) = false := decide_eq_false z1
 have HASK : Hid (AskOk ns L G left) := ⟨HMN.out, HGN.out, by omega, by omega⟩
 have hlr : 0 ≤ left ∧ left ≤ 8 := by omega
 have hns := HMN.out.1
 obtain ⟨nn, rfl⟩ : ∃ nn : Nat, ns = (nn : Int) := ⟨ns.toNat, by omega⟩
 have hnn : nn ≤ 62 := by omega
 have hm8 : m ≤ 8 := by have := HMN.out.2.1; have := HM.out; omega
 clear hns NO z0 z1
 by_cases h0 : 4096 < n
 ·have HV := Lib.hid (BeC.four (l := l) (bound := bound) HASK.out (by rw [HN.out]; exact h0))
  have d1 : decide ((4096 : Int) < (n : Int)) = true := decide_eq_true (by omega)
  have d1' : decide (4096 < n) = true := decide_eq_true h0
  clear h0
  go_wp2_with fail
  go_ret
  exact ⟨⟨_, rfl, HV⟩, HB2.out⟩
 have d1 : decide ((4096 : Int) < (n : Int)) = false := decide_eq_false (by omega)
 have d1' : decide (4096 < n) = false := decide_eq_false h0
 have HN4 : Hid (¬ 4096 < l.length) := by show ¬ _; rw [HN.out]; exact h0
 have hn4 : n ≤ 4096 := by omega
 clear h0
 go_wp2_with fail
 clear d1 d1' d0 d0'
 go_loopw [11] (fun i wr => ∃ (c : Nat), 1 ≤ c ∧ c ≤ n + 1 ∧ i = .int .i64 c ∧ Hid (DscTo l c) ∧ Hid (Loc wr w.heap.size 84 #[.int .i64 (nn : Int), .slice A m cap0]) ∧ Below w.heap.size w wr) (fun i _ => n - (intOf i).toNat)
 case atStart => exact ⟨1, by omega, by omega, rfl, Lib.hid (fun i x y hi => absurd hi (by omega)), HL2, HB2.out⟩
 case round =>
  clear HL2 HB2
  obtain ⟨c, hc1, hc, rfl, hA, hL, hB⟩ := hrel
  obtain ⟨wo, rfl⟩ : ∃ wo : World, wo = wr := ⟨_, rfl⟩
  have y5 := hB.size; (try simp only [zs] at y5)
  by_cases hlt : c < n
  ·obtain ⟨⟨y1, y2, y3⟩, hy⟩ : ∃ z, l[c]? = some z := ⟨_, List.getElem?_eq_getElem (by rw [HN.out]; exact hlt)⟩
   obtain ⟨⟨x1, x2, x3⟩, hx⟩ : ∃ z, l[c - 1]? = some z := ⟨_, List.getElem?_eq_getElem (by rw [HN.out]; omega)⟩
   obtain ⟨a, rfl, hab, cy, cy2, -, -, -, -⟩ := (HT2.out.keep (.of_below hB)).at hy
   obtain ⟨a', ea, hab', cx, cx2, -, -, -, -⟩ := (HT2.out.keep (.of_below hB)).at hx
   injection ea with ea
   subst ea
   simp only at cy cx cy2 cx2
   rw [addr_one] at cy2 cx2
   have HY := Lib.hid hy
   have HX := Lib.hid hx
   have HCS : Hid ((wo.cell? (a.add (c * 3)) = some (.int .i64 y1) ∧ wo.cell? ⟨(a.add (c * 3)).block, (a.add (c * 3)).off + 1, none⟩ = some (.int .i64 y2)) ∧ wo.cell? (a.add ((c - 1) * 3)) = some (.int .i64 x1) ∧ wo.cell? ⟨(a.add ((c - 1) * 3)).block, (a.add ((c - 1) * 3)).off + 1, none⟩ = some (.int .i64 x2)) := ⟨⟨cy, cy2⟩, cx, cx2⟩
   have HTEN : Hid (¬ OrdB (x1, x2, x3) (y1, y2, y3) → BeC (nn : Int) L G left l bound 10) := fun hq => BeC.ten HASK.out HN4.out (fun h => hq (h (c - 1) _ _ (by rw [HN.out]; omega) HX.out (by rw [show c - 1 + 1 = c by omega]; exact HY.out)))
   have HNEXT : Hid (OrdB (x1, x2, x3) (y1, y2, y3) → DscTo l (c + 1)) := fun hq => hA.out.next hc1 HX.out HY.out hq
   have k0 : (0 : Int) ≤ (c : Int) := by omega
   have k1 : (c : Int) < (n : Int) := by omega
   have k2 : IntKind.i64.wrap ((c : Int) - 1) = ((c - 1 : Nat) : Int) := by rw [IntKind.wrap_i64]; omega
   have k3 : (0 : Int) ≤ ((c - 1 : Nat) : Int) := by omega
   have k4 : ((c - 1 : Nat) : Int) < (n : Int) := by omega
   clear hx hy cy cx cy2 cx2
   by_cases z0 : x2 < y2
   ·have HV := Lib.hid (HTEN.out (fun h => by unfold OrdB at h; simp only at h; omega))
    have d1 : decide (x2 < y2) = true := decide_eq_true z0
    clear z0
    go_wp2_with fail
    refine wp_region_noPanic ?_
    refine wp_region_held_drew (S := (fun W => (W.cell? (a.add (c * 3)) = some (.int .i64 y1) ∧ W.cell? ⟨(a.add (c * 3)).block, (a.add (c * 3)).off + 1, none⟩ = some (.int .i64 y2)) ∧ W.cell? (a.add ((c - 1) * 3)) = some (.int .i64 x1) ∧ W.cell? ⟨(a.add ((c - 1) * 3)).block, (a.add ((c - 1) * 3)).off + 1, none⟩ = some (.int .i64 x2))) (by kernel_rfl) ?_ (fun hHeld => ?_)
    ·exact HCS.out
    refine takeT 0 hHeld ?_
    (try simp only [Act.put, ly])
    refine takeT 1 hHeld ?_
    (try simp only [Act.put, ly])
    refine takeT 2 hHeld ?_
    (try simp only [Act.put, ly])
    refine takeT 3 hHeld ?_
    (try simp only [Act.put, ly])
    refine takeT 4 hHeld ?_
    (try simp only [Act.put, ly])
    refine takeT 5 hHeld ?_
    (try simp only [Act.put, ly])
    refine takeT 6 hHeld ?_
    (try simp only [Act.put, ly])
    refine takeT 7 hHeld ?_
    (try simp only [Act.put, ly])
    refine takeT 8 hHeld ?_
    (try simp only [Act.put, ly])
    refine takeT 9 hHeld ?_
    (try simp only [Act.put, ly])
    refine takeT 10 hHeld ?_
    (try simp only [Act.put, ly])
    refine takeT 11 hHeld ?_
    (try simp only [Act.put, ly])
    refine takeT 12 hHeld ?_
    (try simp only [Act.put, ly])
    refine offT 13 hHeld ?_
    refine offT 14 hHeld ?_
    refine offT 15 hHeld ?_
    refine offT 16 hHeld ?_
    refine offT 17 hHeld ?_
    refine offT 18 hHeld ?_
    refine offT 19 hHeld ?_
    refine offT 20 hHeld ?_
    refine offT 21 hHeld ?_
    refine offT 22 hHeld ?_
    refine offT 23 hHeld ?_
    refine offT 24 hHeld ?_
    refine offT 25 hHeld ?_
    refine offT 26 hHeld ?_
    refine offT 27 hHeld ?_
    refine offT 28 hHeld ?_
    refine offT 29 hHeld ?_
    refine offT 30 hHeld ?_
    refine offT 31 hHeld ?_
    refine offT 32 hHeld ?_
    refine offT 33 hHeld ?_
    refine offT 34 hHeld ?_
    refine offT 35 hHeld ?_
    refine offT 36 hHeld ?_
    refine offT 37 hHeld ?_
    (try simp only [Act.put, ly])
    refine offT 38 hHeld ?_
    (try simp only [Act.put, ly])
    refine takeT 39 hHeld ?_
    (try simp only [Act.put, ly])
    refine wpAnyH_done (by kernel_rfl) ?_ _
    refine NoPanic.normal ?_
    go_wp2_with fail
    go_ret
    exact ⟨⟨_, rfl, HV⟩, bel⟩
   have d1 : decide (x2 < y2) = false := decide_eq_false z0
   by_cases z1 : y2 = x2
   case neg =>
    have HNX := Lib.hid (HNEXT.out (Or.inl (by show y2 < x2; omega)))
    have d2 : (y2 == x2) = false := beq_eq_false_iff_ne.2 z1
    clear z0 z1
    go_wp2_with fail
    refine wp_region_noPanic ?_
    refine wp_region_held_drew (S := (fun W => (W.cell? (a.add (c * 3)) = some (.int .i64 y1) ∧ W.cell? ⟨(a.add (c * 3)).block, (a.add (c * 3)).off + 1, none⟩ = some (.int .i64 y2)) ∧ W.cell? (a.add ((c - 1) * 3)) = some (.int .i64 x1) ∧ W.cell? ⟨(a.add ((c - 1) * 3)).block, (a.add ((c - 1) * 3)).off + 1, none⟩ = some (.int .i64 x2))) (by kernel_rfl) ?_ (fun hHeld => ?_)
    ·exact HCS.out
    refine takeT 0 hHeld ?_
    (try simp only [Act.put, ly])
    refine takeT 1 hHeld ?_
    (try simp only [Act.put, ly])
    refine takeT 2 hHeld ?_
    (try simp only [Act.put, ly])
    refine takeT 3 hHeld ?_
    (try simp only [Act.put, ly])
    refine takeT 4 hHeld ?_
    (try simp only [Act.put, ly])
    refine takeT 5 hHeld ?_
    (try simp only [Act.put, ly])
    refine takeT 6 hHeld ?_
    (try simp only [Act.put, ly])
    refine takeT 7 hHeld ?_
    (try simp only [Act.put, ly])
    refine takeT 8 hHeld ?_
    (try simp only [Act.put, ly])
    refine takeT 9 hHeld ?_
    (try simp only [Act.put, ly])
    refine takeT 10 hHeld ?_
    (try simp only [Act.put, ly])
    refine takeT 11 hHeld ?_
    (try simp only [Act.put, ly])
    refine takeT 12 hHeld ?_
    (try simp only [Act.put, ly])
    refine takeT 13 hHeld ?_
    (try simp only [Act.put, ly])
    refine takeT 14 hHeld ?_
    (try simp only [Act.put, ly])
    refine takeT 15 hHeld ?_
    (try simp only [Act.put, ly])
    refine takeT 16 hHeld ?_
    (try simp only [Act.put, ly])
    refine takeT 17 hHeld ?_
    (try simp only [Act.put, ly])
    refine takeT 18 hHeld ?_
    (try simp only [Act.put, ly])
    refine takeT 19 hHeld ?_
    (try simp only [Act.put, ly])
    refine takeT 20 hHeld ?_
    (try simp only [Act.put, ly])
    refine takeT 21 hHeld ?_
    (try simp only [Act.put, ly])
    refine takeT 22 hHeld ?_
    (try simp only [Act.put, ly])
    refine takeT 23 hHeld ?_
    (try simp only [Act.put, ly])
    refine takeT 24 hHeld ?_
    (try simp only [Act.put, ly])
    refine takeT 25 hHeld ?_
    (try simp only [Act.put, ly])
    refine offT 26 hHeld ?_
    refine offT 27 hHeld ?_
    refine offT 28 hHeld ?_
    refine offT 29 hHeld ?_
    refine offT 30 hHeld ?_
    refine offT 31 hHeld ?_
    refine offT 32 hHeld ?_
    refine offT 33 hHeld ?_
    refine offT 34 hHeld ?_
    refine offT 35 hHeld ?_
    refine offT 36 hHeld ?_
    refine offT 37 hHeld ?_
    (try simp only [Act.put, ly])
    refine takeT 38 hHeld ?_
    (try simp only [Act.put, ly])
    refine takeT 39 hHeld ?_
    (try simp only [Act.put, ly])
    refine wpAnyH_done (by kernel_rfl) ?_ _
    refine NoPanic.normal ?_
    go_wp2_with fail
    go_roundw
    case rel => exact ⟨c + 1, by omega, by omega, by go_num, HNX, hL, bel⟩
    case measure => simp only [intOf]; omega
   subst z1
   have d2 : (y2 == y2) = true := beq_self_eq_true y2
   by_cases z2 : y1 ≤ x1
   ·have HV := Lib.hid (HTEN.out (fun h => by unfold OrdB at h; simp only at h; omega))
    have d3 : decide (y1 ≤ x1) = true := decide_eq_true z2
    clear z0 z2
    go_wp2_with fail
    refine wp_region_noPanic ?_
    refine wp_region_held_drew (S := (fun W => (W.cell? (a.add (c * 3)) = some (.int .i64 y1) ∧ W.cell? ⟨(a.add (c * 3)).block, (a.add (c * 3)).off + 1, none⟩ = some (.int .i64 y2)) ∧ W.cell? (a.add ((c - 1) * 3)) = some (.int .i64 x1) ∧ W.cell? ⟨(a.add ((c - 1) * 3)).block, (a.add ((c - 1) * 3)).off + 1, none⟩ = some (.int .i64 y2))) (by kernel_rfl) ?_ (fun hHeld => ?_)
    ·exact HCS.out
    refine takeT 0 hHeld ?_
    (try simp only [Act.put, ly])
    refine takeT 1 hHeld ?_
    (try simp only [Act.put, ly])
    refine takeT 2 hHeld ?_
    (try simp only [Act.put, ly])
    refine takeT 3 hHeld ?_
    (try simp only [Act.put, ly])
    refine takeT 4 hHeld ?_
    (try simp only [Act.put, ly])
    refine takeT 5 hHeld ?_
    (try simp only [Act.put, ly])
    refine takeT 6 hHeld ?_
    (try simp only [Act.put, ly])
    refine takeT 7 hHeld ?_
    (try simp only [Act.put, ly])
    refine takeT 8 hHeld ?_
    (try simp only [Act.put, ly])
    refine takeT 9 hHeld ?_
    (try simp only [Act.put, ly])
    refine takeT 10 hHeld ?_
    (try simp only [Act.put, ly])
    refine takeT 11 hHeld ?_
    (try simp only [Act.put, ly])
    refine takeT 12 hHeld ?_
    (try simp only [Act.put, ly])
    refine takeT 13 hHeld ?_
    (try simp only [Act.put, ly])
    refine takeT 14 hHeld ?_
    (try simp only [Act.put, ly])
    refine takeT 15 hHeld ?_
    (try simp only [Act.put, ly])
    refine takeT 16 hHeld ?_
    (try simp only [Act.put, ly])
    refine takeT 17 hHeld ?_
    (try simp only [Act.put, ly])
    refine takeT 18 hHeld ?_
    (try simp only [Act.put, ly])
    refine takeT 19 hHeld ?_
    (try simp only [Act.put, ly])
    refine takeT 20 hHeld ?_
    (try simp only [Act.put, ly])
    refine takeT 21 hHeld ?_
    (try simp only [Act.put, ly])
    refine takeT 22 hHeld ?_
    (try simp only [Act.put, ly])
    refine takeT 23 hHeld ?_
    (try simp only [Act.put, ly])
    refine takeT 24 hHeld ?_
    (try simp only [Act.put, ly])
    refine takeT 25 hHeld ?_
    (try simp only [Act.put, ly])
    refine takeT 26 hHeld ?_
    (try simp only [Act.put, ly])
    refine takeT 27 hHeld ?_
    (try simp only [Act.put, ly])
    refine takeT 28 hHeld ?_
    (try simp only [Act.put, ly])
    refine takeT 29 hHeld ?_
    (try simp only [Act.put, ly])
    refine takeT 30 hHeld ?_
    (try simp only [Act.put, ly])
    refine takeT 31 hHeld ?_
    (try simp only [Act.put, ly])
    refine takeT 32 hHeld ?_
    (try simp only [Act.put, ly])
    refine takeT 33 hHeld ?_
    (try simp only [Act.put, ly])
    refine takeT 34 hHeld ?_
    (try simp only [Act.put, ly])
    refine takeT 35 hHeld ?_
    (try simp only [Act.put, ly])
    refine takeT 36 hHeld ?_
    (try simp only [Act.put, ly])
    refine takeT 37 hHeld ?_
    (try simp only [Act.put, ly])
    refine takeT 38 hHeld ?_
    (try simp only [Act.put, ly])
    refine takeT 39 hHeld ?_
    (try simp only [Act.put, ly])
    refine wpAnyH_done (by kernel_rfl) ?_ _
    refine NoPanic.normal ?_
    go_wp2_with fail
    go_ret
    exact ⟨⟨_, rfl, HV⟩, bel⟩
   have HNX := Lib.hid (HNEXT.out (Or.inr ⟨rfl, by show x1 < y1; omega⟩))
   have d3 : decide (y1 ≤ x1) = false := decide_eq_false z2
   clear z0 z2
   go_wp2_with fail
   refine wp_region_noPanic ?_
   refine wp_region_held_drew (S := (fun W => (W.cell? (a.add (c * 3)) = some (.int .i64 y1) ∧ W.cell? ⟨(a.add (c * 3)).block, (a.add (c * 3)).off + 1, none⟩ = some (.int .i64 y2)) ∧ W.cell? (a.add ((c - 1) * 3)) = some (.int .i64 x1) ∧ W.cell? ⟨(a.add ((c - 1) * 3)).block, (a.add ((c - 1) * 3)).off + 1, none⟩ = some (.int .i64 y2))) (by kernel_rfl) ?_ (fun hHeld => ?_)
   ·exact HCS.out
   refine takeT 0 hHeld ?_
   (try simp only [Act.put, ly])
   refine takeT 1 hHeld ?_
   (try simp only [Act.put, ly])
   refine takeT 2 hHeld ?_
   (try simp only [Act.put, ly])
   refine takeT 3 hHeld ?_
   (try simp only [Act.put, ly])
   refine takeT 4 hHeld ?_
   (try simp only [Act.put, ly])
   refine takeT 5 hHeld ?_
   (try simp only [Act.put, ly])
   refine takeT 6 hHeld ?_
   (try simp only [Act.put, ly])
   refine takeT 7 hHeld ?_
   (try simp only [Act.put, ly])
   refine takeT 8 hHeld ?_
   (try simp only [Act.put, ly])
   refine takeT 9 hHeld ?_
   (try simp only [Act.put, ly])
   refine takeT 10 hHeld ?_
   (try simp only [Act.put, ly])
   refine takeT 11 hHeld ?_
   (try simp only [Act.put, ly])
   refine takeT 12 hHeld ?_
   (try simp only [Act.put, ly])
   refine takeT 13 hHeld ?_
   (try simp only [Act.put, ly])
   refine takeT 14 hHeld ?_
   (try simp only [Act.put, ly])
   refine takeT 15 hHeld ?_
   (try simp only [Act.put, ly])
   refine takeT 16 hHeld ?_
   (try simp only [Act.put, ly])
   refine takeT 17 hHeld ?_
   (try simp only [Act.put, ly])
   refine takeT 18 hHeld ?_
   (try simp only [Act.put, ly])
   refine takeT 19 hHeld ?_
   (try simp only [Act.put, ly])
   refine takeT 20 hHeld ?_
   (try simp only [Act.put, ly])
   refine takeT 21 hHeld ?_
   (try simp only [Act.put, ly])
   refine takeT 22 hHeld ?_
   (try simp only [Act.put, ly])
   refine takeT 23 hHeld ?_
   (try simp only [Act.put, ly])
   refine takeT 24 hHeld ?_
   (try simp only [Act.put, ly])
   refine takeT 25 hHeld ?_
   (try simp only [Act.put, ly])
   refine takeT 26 hHeld ?_
   (try simp only [Act.put, ly])
   refine takeT 27 hHeld ?_
   (try simp only [Act.put, ly])
   refine takeT 28 hHeld ?_
   (try simp only [Act.put, ly])
   refine takeT 29 hHeld ?_
   (try simp only [Act.put, ly])
   refine takeT 30 hHeld ?_
   (try simp only [Act.put, ly])
   refine takeT 31 hHeld ?_
   (try simp only [Act.put, ly])
   refine takeT 32 hHeld ?_
   (try simp only [Act.put, ly])
   refine takeT 33 hHeld ?_
   (try simp only [Act.put, ly])
   refine takeT 34 hHeld ?_
   (try simp only [Act.put, ly])
   refine takeT 35 hHeld ?_
   (try simp only [Act.put, ly])
   refine takeT 36 hHeld ?_
   (try simp only [Act.put, ly])
   refine takeT 37 hHeld ?_
   (try simp only [Act.put, ly])
   refine takeT 38 hHeld ?_
   (try simp only [Act.put, ly])
   refine takeT 39 hHeld ?_
   (try simp only [Act.put, ly])
   refine wpAnyH_done (by kernel_rfl) ?_ _
   refine NoPanic.normal ?_
   go_wp2_with fail
   go_roundw
   case rel => exact ⟨c + 1, by omega, by omega, by go_num, HNX, hL, bel⟩
   case measure => simp only [intOf]; omega
  ·have HASC : Hid (DscTo l l.length) := hA.out.all (by rw [HN.out]; omega)
   have hnc : ¬ (c : Int) < (n : Int) := by omega
   have HBADX : Hid (¬ AllB (nn : Int) L G left l bound → BeC (nn : Int) L G left l bound 13) := fun h => BeC.bad HASK.out HN4.out HASC.out h
   have HOKX : Hid (AllB (nn : Int) L G left l bound → BeC (nn : Int) L G left l bound 0) := fun h => BeC.ok HASK.out HN4.out HASC.out h
   have hmk := run_makeMap (P := Tryz.prog) 242 wo
   have hbw : w.heap.size < wo.heap.size := Loc.lt hL.out
   have s1 := shl_one hnn
   have hp : 1 ≤ 2 ^ nn ∧ 2 ^ nn ≤ 4611686018427387904 := ⟨Nat.one_le_two_pow, Nat.le_trans (Nat.pow_le_pow_right (by decide) hnn) (by decide)⟩
   obtain ⟨p, hpe⟩ : ∃ p : Nat, 2 ^ nn = p := ⟨_, rfl⟩
   have HPE : Hid (2 ^ (nn : Int).toNat = p) := by show _ = _; rw [Int.toNat_natCast]; exact hpe
   rw [hpe] at s1 hp
   have HM0 : Hid (MapF (wo.alloc (.map #[] 0)) 200 wo.heap.size 0 0 (bvF l 0)) := MapF.made wo 200
   have HL0 : Hid (Loc (wo.alloc (.map #[] 0)) w.heap.size 84 #[.int .i64 (nn : Int), .slice A m cap0]) := hL.out.alloc _
   have HB0 : Hid (Below w.heap.size w (wo.alloc (.map #[] 0))) := hB.alloc y5 _
   clear hpe hA hL
   go_wp2_with fail
   clear hmk hnc
   go_loopw [95] (fun i wr => ∃ (q k : Nat), q ≤ n ∧ i = .int .i64 q ∧ Hid (MapF wr 200 wo.heap.size q k (bvF l q)) ∧ Hid (∀ (i : Nat) (x : Int × Int × Int), i < q → l[i]? = some x → GoodB (nn : Int) G x) ∧ Hid (Loc wr w.heap.size 84 #[.int .i64 (nn : Int), .slice A m cap0]) ∧ Below w.heap.size w wr) (fun i _ => n - (intOf i).toNat)
   case atStart => exact ⟨0, 0, by omega, rfl, HM0, Lib.hid (fun i x hi => absurd hi (by omega)), HL0, HB0.out⟩
   case round =>
    clear HM0 HL0 HB0
    obtain ⟨q, k, hq, rfl, hM, hR, hL, hB7⟩ := hrel
    obtain ⟨wp, rfl⟩ : ∃ wp : World, wp = wr := ⟨_, rfl⟩
    have y7 := hB7.size; (try simp only [zs] at y7)
    by_cases hlt2 : q < n
    ·obtain ⟨⟨x1, x2, x3⟩, hx⟩ : ∃ z, l[q]? = some z := ⟨_, List.getElem?_eq_getElem (by rw [HN.out]; exact hlt2)⟩
     obtain ⟨a, rfl, hab, cx, cx2, cx3, zb1, zb2, zb3⟩ := (HT2.out.keep (.of_below hB7)).at hx
     simp only at cx cx2 cx3 zb1 zb2 zb3
     rw [addr_one] at cx2
     rw [addr_two] at cx3
     have HX := Lib.hid hx
     have k0 : (0 : Int) ≤ (q : Int) := by omega
     have k1 : (q : Int) < (n : Int) := by omega
     have hwbs : wo.heap.size < wp.heap.size := hM.out.lt
     obtain ⟨wx, hwx⟩ : ∃ W, wp.alloc (.cells #[.int .i64 x1, .int .i64 x2, .int .i64 x3] 241) = W := ⟨_, rfl⟩
     have HWX := Lib.hid hwx
     have hbx : Below wp.heap.size wp wx := by rw [← hwx]; exact below1 _ _
     have HBX : Hid (Below w.heap.size w wx) := hB7.trans (hbx.mono (by omega))
     have LX : Hid (Loc wx wp.heap.size 241 #[.int .i64 x1, .int .i64 x2, .int .i64 x3]) := by show Loc _ _ _ _; rw [← hwx]; exact made1 wp _ _
     have HLX : Hid (Loc wx w.heap.size 84 #[.int .i64 (nn : Int), .slice A m cap0]) := Loc.below hL.out hbx
     have HMX : Hid (MapF wx 200 wo.heap.size q k (bvF l q)) := hM.out.below hbx hwbs
     have hwx2 : wo.heap.size < wx.heap.size := HMX.out.lt
     have HSS : Hid (∀ W, Below wx.heap.size wx W → ((W.cell? ⟨wp.heap.size, 0, none⟩ = some (.int .i64 x1) ∧ W.cell? ⟨wp.heap.size, 1, none⟩ = some (.int .i64 x2)) ∧ W.cell? ⟨wp.heap.size, 2, none⟩ = some (.int .i64 x3)) ∧ W.cell? ⟨w.heap.size, 0, none⟩ = some (.int .i64 (nn : Int))) := fun W hW => ⟨⟨⟨Loc.cell (Loc.below LX.out hW) 0, Loc.cell (Loc.below LX.out hW) 1⟩, Loc.cell (Loc.below LX.out hW) 2⟩, Loc.cell (Loc.below HLX.out hW) 0⟩
     have HBY : Hid (∀ W, Below wx.heap.size wx W → Below w.heap.size w W) := fun W hW => HBX.out.trans (hW.mono (by have := HBX.out.size; omega))
     have HBAD : Hid (¬ GoodB (nn : Int) G (x1, x2, x3) → BeC (nn : Int) L G left l bound 13) := fun hq' => HBADX.out (fun h => hq' (h.1 _ (List.mem_of_getElem? HX.out)))
     have HGD : Hid (GoodB (nn : Int) G (x1, x2, x3) ↔ 0 ≤ x2 ∧ (1 ≤ x1 ∧ x1 < (p : Int)) ∧ leafG G x1.toNat G.length ≤ x3 ∧ x3 ≤ 1099511627776) := by
      show _ ↔ _
      unfold GoodB
      rw [HPE.out]
      simp only
      constructor <;> (rintro ⟨a1, a2, a3, a4⟩; exact ⟨a1, by omega, a3, a4⟩)
     obtain ⟨k', hk'⟩ : ∃ k', (if ((bvF l q) (keyL x1 x2)).isSome then k else k + 1) = k' := ⟨_, rfl⟩
     have HK' := Lib.hid hk'
     clear hx hwx hk' hbx cx cx2 cx3
     obtain ⟨a', ea, hab', cx, cx2, cx3, -, -, -⟩ := (HT2.out.keep (.of_below hB7)).at HX.out
     injection ea with ea
     subst ea
     simp only at cx cx2 cx3
     rw [addr_one] at cx2
     rw [addr_two] at cx3
     go_wp2_with fail
     rw [HWX.out]
     clear cx cx2 cx3
     by_cases z0 : x2 < 0
     ·have HV := Lib.hid (HBAD.out (fun h => by have := (HGD.out.1 h).1; omega))
      have d1 : decide (x2 < 0) = true := decide_eq_true z0
      clear z0
      refine wp_region_noPanic ?_
      refine wp_region_held_drew (S := (fun W => ((W.cell? ⟨wp.heap.size, 0, none⟩ = some (.int .i64 x1) ∧ W.cell? ⟨wp.heap.size, 1, none⟩ = some (.int .i64 x2)) ∧ W.cell? ⟨wp.heap.size, 2, none⟩ = some (.int .i64 x3)) ∧ W.cell? ⟨w.heap.size, 0, none⟩ = some (.int .i64 (nn : Int)))) (by kernel_rfl) ?_ (fun hHeld => ?_)
      ·exact HSS.out _ ((Below.refl _ _).drew)
      refine takeT 0 hHeld ?_
      (try simp only [Act.put, ly])
      refine takeT 1 hHeld ?_
      (try simp only [Act.put, ly])
      refine takeT 2 hHeld ?_
      (try simp only [Act.put, ly])
      refine takeT 3 hHeld ?_
      (try simp only [Act.put, ly])
      refine offT 4 hHeld ?_
      refine offT 5 hHeld ?_
      refine offT 6 hHeld ?_
      (try simp only [Act.put, ly])
      refine takeT 7 hHeld ?_
      (try simp only [Act.put, ly])
      refine takeT 8 hHeld ?_
      (try simp only [Act.put, ly])
      refine offT 9 hHeld ?_
      refine offT 10 hHeld ?_
      refine offT 11 hHeld ?_
      refine offT 12 hHeld ?_
      refine offT 13 hHeld ?_
      refine offT 14 hHeld ?_
      (try simp only [Act.put, ly])
      refine takeT 15 hHeld ?_
      (try simp only [Act.put, ly])
      refine takeT 16 hHeld ?_
      (try simp only [Act.put, ly])
      refine offT 17 hHeld ?_
      refine offT 18 hHeld ?_
      refine offT 19 hHeld ?_
      (try simp only [Act.put, ly])
      refine takeT 20 hHeld ?_
      (try simp only [Act.put, ly])
      refine takeT 21 hHeld ?_
      (try simp only [Act.put, ly])
      refine offT 22 hHeld ?_
      refine offT 23 hHeld ?_
      refine offT 24 hHeld ?_
      refine offT 25 hHeld ?_
      refine offT 26 hHeld ?_
      refine offT 27 hHeld ?_
      refine offT 28 hHeld ?_
      (try simp only [Act.put, ly])
      refine takeT 29 hHeld ?_
      (try simp only [Act.put, ly])
      refine wpAnyH_done (by kernel_rfl) ?_ _
      refine NoPanic.normal ?_
      go_wp2_with fail
      go_ret
      exact ⟨⟨_, rfl, HV⟩, HBY.out _ ((Below.refl _ _).drew)⟩
     have d1 : decide (x2 < 0) = false := decide_eq_false z0
     by_cases z1 : x1 < 1
     ·have HV := Lib.hid (HBAD.out (fun h => by have := (HGD.out.1 h).2.1; omega))
      have d2 : decide (x1 < 1) = true := decide_eq_true z1
      clear z0 z1
      refine wp_region_noPanic ?_
      refine wp_region_held_drew (S := (fun W => ((W.cell? ⟨wp.heap.size, 0, none⟩ = some (.int .i64 x1) ∧ W.cell? ⟨wp.heap.size, 1, none⟩ = some (.int .i64 x2)) ∧ W.cell? ⟨wp.heap.size, 2, none⟩ = some (.int .i64 x3)) ∧ W.cell? ⟨w.heap.size, 0, none⟩ = some (.int .i64 (nn : Int)))) (by kernel_rfl) ?_ (fun hHeld => ?_)
      ·exact HSS.out _ ((Below.refl _ _).drew)
      refine takeT 0 hHeld ?_
      (try simp only [Act.put, ly])
      refine takeT 1 hHeld ?_
      (try simp only [Act.put, ly])
      refine takeT 2 hHeld ?_
      (try simp only [Act.put, ly])
      refine takeT 3 hHeld ?_
      (try simp only [Act.put, ly])
      refine takeT 4 hHeld ?_
      (try simp only [Act.put, ly])
      refine takeT 5 hHeld ?_
      (try simp only [Act.put, ly])
      refine takeT 6 hHeld ?_
      (try simp only [Act.put, ly])
      refine takeT 7 hHeld ?_
      (try simp only [Act.put, ly])
      refine takeT 8 hHeld ?_
      (try simp only [Act.put, ly])
      refine offT 9 hHeld ?_
      refine offT 10 hHeld ?_
      refine offT 11 hHeld ?_
      refine offT 12 hHeld ?_
      refine offT 13 hHeld ?_
      refine offT 14 hHeld ?_
      (try simp only [Act.put, ly])
      refine takeT 15 hHeld ?_
      (try simp only [Act.put, ly])
      refine takeT 16 hHeld ?_
      (try simp only [Act.put, ly])
      refine offT 17 hHeld ?_
      refine offT 18 hHeld ?_
      refine offT 19 hHeld ?_
      (try simp only [Act.put, ly])
      refine takeT 20 hHeld ?_
      (try simp only [Act.put, ly])
      refine takeT 21 hHeld ?_
      (try simp only [Act.put, ly])
      refine offT 22 hHeld ?_
      refine offT 23 hHeld ?_
      refine offT 24 hHeld ?_
      refine offT 25 hHeld ?_
      refine offT 26 hHeld ?_
      refine offT 27 hHeld ?_
      refine offT 28 hHeld ?_
      (try simp only [Act.put, ly])
      refine takeT 29 hHeld ?_
      (try simp only [Act.put, ly])
      refine wpAnyH_done (by kernel_rfl) ?_ _
      refine NoPanic.normal ?_
      go_wp2_with fail
      go_ret
      exact ⟨⟨_, rfl, HV⟩, HBY.out _ ((Below.refl _ _).drew)⟩
     have d2 : decide (x1 < 1) = false := decide_eq_false z1
     by_cases z2 : (p : Int) ≤ x1
     ·have HV := Lib.hid (HBAD.out (fun h => by have := (HGD.out.1 h).2.1; omega))
      have d3 : decide ((p : Int) ≤ x1) = true := decide_eq_true z2
      clear z0 z1 z2
      refine wp_region_noPanic ?_
      refine wp_region_held_drew (S := (fun W => ((W.cell? ⟨wp.heap.size, 0, none⟩ = some (.int .i64 x1) ∧ W.cell? ⟨wp.heap.size, 1, none⟩ = some (.int .i64 x2)) ∧ W.cell? ⟨wp.heap.size, 2, none⟩ = some (.int .i64 x3)) ∧ W.cell? ⟨w.heap.size, 0, none⟩ = some (.int .i64 (nn : Int)))) (by kernel_rfl) ?_ (fun hHeld => ?_)
      ·exact HSS.out _ ((Below.refl _ _).drew)
      refine takeT 0 hHeld ?_
      (try simp only [Act.put, ly])
      refine takeT 1 hHeld ?_
      (try simp only [Act.put, ly])
      refine takeT 2 hHeld ?_
      (try simp only [Act.put, ly])
      refine takeT 3 hHeld ?_
      (try simp only [Act.put, ly])
      refine takeT 4 hHeld ?_
      (try simp only [Act.put, ly])
      refine takeT 5 hHeld ?_
      (try simp only [Act.put, ly])
      refine takeT 6 hHeld ?_
      (try simp only [Act.put, ly])
      refine takeT 7 hHeld ?_
      (try simp only [Act.put, ly])
      refine takeT 8 hHeld ?_
      (try simp only [Act.put, ly])
      refine takeT 9 hHeld ?_
      (try simp only [Act.put, ly])
      refine takeT 10 hHeld ?_
      (try simp only [Act.put, ly])
      refine takeT 11 hHeld ?_
      (try simp only [Act.put, ly])
      refine takeT 12 hHeld ?_
      (try simp only [Act.put, ly])
      refine takeT 13 hHeld ?_
      (try simp only [Act.put, ly])
      refine takeT 14 hHeld ?_
      (try simp only [Act.put, ly])
      refine takeT 15 hHeld ?_
      (try simp only [Act.put, ly])
      refine takeT 16 hHeld ?_
      (try simp only [Act.put, ly])
      refine offT 17 hHeld ?_
      refine offT 18 hHeld ?_
      refine offT 19 hHeld ?_
      (try simp only [Act.put, ly])
      refine takeT 20 hHeld ?_
      (try simp only [Act.put, ly])
      refine takeT 21 hHeld ?_
      (try simp only [Act.put, ly])
      refine offT 22 hHeld ?_
      refine offT 23 hHeld ?_
      refine offT 24 hHeld ?_
      refine offT 25 hHeld ?_
      refine offT 26 hHeld ?_
      refine offT 27 hHeld ?_
      refine offT 28 hHeld ?_
      (try simp only [Act.put, ly])
      refine takeT 29 hHeld ?_
      (try simp only [Act.put, ly])
      refine wpAnyH_done (by kernel_rfl) ?_ _
      refine NoPanic.normal ?_
      go_wp2_with fail
      go_ret
      exact ⟨⟨_, rfl, HV⟩, HBY.out _ ((Below.refl _ _).drew)⟩
     have d3 : decide ((p : Int) ≤ x1) = false := decide_eq_false z2
     by_cases z3 : 1099511627776 < x3
     ·have HV := Lib.hid (HBAD.out (fun h => by have := (HGD.out.1 h).2.2.2; omega))
      have d4 : decide (1099511627776 < x3) = true := decide_eq_true z3
      clear z0 z1 z2 z3
      refine wp_region_noPanic ?_
      refine wp_region_held_drew (S := (fun W => ((W.cell? ⟨wp.heap.size, 0, none⟩ = some (.int .i64 x1) ∧ W.cell? ⟨wp.heap.size, 1, none⟩ = some (.int .i64 x2)) ∧ W.cell? ⟨wp.heap.size, 2, none⟩ = some (.int .i64 x3)) ∧ W.cell? ⟨w.heap.size, 0, none⟩ = some (.int .i64 (nn : Int)))) (by kernel_rfl) ?_ (fun hHeld => ?_)
      ·exact HSS.out _ ((Below.refl _ _).drew)
      refine takeT 0 hHeld ?_
      (try simp only [Act.put, ly])
      refine takeT 1 hHeld ?_
      (try simp only [Act.put, ly])
      refine takeT 2 hHeld ?_
      (try simp only [Act.put, ly])
      refine takeT 3 hHeld ?_
      (try simp only [Act.put, ly])
      refine takeT 4 hHeld ?_
      (try simp only [Act.put, ly])
      refine takeT 5 hHeld ?_
      (try simp only [Act.put, ly])
      refine takeT 6 hHeld ?_
      (try simp only [Act.put, ly])
      refine takeT 7 hHeld ?_
      (try simp only [Act.put, ly])
      refine takeT 8 hHeld ?_
      (try simp only [Act.put, ly])
      refine takeT 9 hHeld ?_
      (try simp only [Act.put, ly])
      refine takeT 10 hHeld ?_
      (try simp only [Act.put, ly])
      refine takeT 11 hHeld ?_
      (try simp only [Act.put, ly])
      refine takeT 12 hHeld ?_
      (try simp only [Act.put, ly])
      refine takeT 13 hHeld ?_
      (try simp only [Act.put, ly])
      refine takeT 14 hHeld ?_
      (try simp only [Act.put, ly])
      refine takeT 15 hHeld ?_
      (try simp only [Act.put, ly])
      refine takeT 16 hHeld ?_
      (try simp only [Act.put, ly])
      refine takeT 17 hHeld ?_
      (try simp only [Act.put, ly])
      refine takeT 18 hHeld ?_
      (try simp only [Act.put, ly])
      refine takeT 19 hHeld ?_
      (try simp only [Act.put, ly])
      refine takeT 20 hHeld ?_
      (try simp only [Act.put, ly])
      refine takeT 21 hHeld ?_
      (try simp only [Act.put, ly])
      refine offT 22 hHeld ?_
      refine offT 23 hHeld ?_
      refine offT 24 hHeld ?_
      refine offT 25 hHeld ?_
      refine offT 26 hHeld ?_
      refine offT 27 hHeld ?_
      refine offT 28 hHeld ?_
      (try simp only [Act.put, ly])
      refine takeT 29 hHeld ?_
      (try simp only [Act.put, ly])
      refine wpAnyH_done (by kernel_rfl) ?_ _
      refine NoPanic.normal ?_
      go_wp2_with fail
      go_ret
      exact ⟨⟨_, rfl, HV⟩, HBY.out _ ((Below.refl _ _).drew)⟩
     have d4 : decide (1099511627776 < x3) = false := decide_eq_false z3
     have z9 : 0 ≤ x2 ∧ (1 ≤ x1 ∧ x1 < (p : Int)) ∧ x3 ≤ 1099511627776 := by omega
     have HZ9 := Lib.hid z9
     obtain ⟨S, rfl⟩ : ∃ S : Nat, x1 = (S : Int) := ⟨x1.toNat, by omega⟩
     have hSb : S < 4611686018427387904 := by omega
     have d2n : ¬ (S : Int) < 1 := by omega
     have d2' : decide (S < 1) = false := decide_eq_false (by omega)
     have d3n : ¬ (p : Int) ≤ (S : Int) := by omega
     have d3' : decide (p ≤ S) = false := decide_eq_false (by omega)
     obtain ⟨lf, hlf⟩ : ∃ lf, leafG G S G.length = lf := ⟨_, rfl⟩
     have HLF := Lib.hid hlf
     clear z0 z1 z2 z3 z9 hlf
     refine wp_region_noPanic ?_
     refine wp_region_held_drew (S := (fun W => ((W.cell? ⟨wp.heap.size, 0, none⟩ = some (.int .i64 (S : Int)) ∧ W.cell? ⟨wp.heap.size, 1, none⟩ = some (.int .i64 x2)) ∧ W.cell? ⟨wp.heap.size, 2, none⟩ = some (.int .i64 x3)) ∧ W.cell? ⟨w.heap.size, 0, none⟩ = some (.int .i64 (nn : Int)))) (by kernel_rfl) ?_ (fun hHeld => ?_)
     ·exact HSS.out _ ((Below.refl _ _).drew)
     refine takeT 0 hHeld ?_
     (try simp only [Act.put, ly])
     refine takeT 1 hHeld ?_
     (try simp only [Act.put, ly])
     refine takeT 2 hHeld ?_
     (try simp only [Act.put, ly])
     refine takeT 3 hHeld ?_
     (try simp only [Act.put, ly])
     refine takeT 4 hHeld ?_
     (try simp only [Act.put, ly])
     refine takeT 5 hHeld ?_
     (try simp only [Act.put, ly])
     refine takeT 6 hHeld ?_
     (try simp only [Act.put, ly])
     refine takeT 7 hHeld ?_
     (try simp only [Act.put, ly])
     refine takeT 8 hHeld ?_
     (try simp only [Act.put, ly])
     refine takeT 9 hHeld ?_
     (try simp only [Act.put, ly])
     refine takeT 10 hHeld ?_
     (try simp only [Act.put, ly])
     refine takeT 11 hHeld ?_
     (try simp only [Act.put, ly])
     refine takeT 12 hHeld ?_
     (try simp only [Act.put, ly])
     refine takeT 13 hHeld ?_
     (try simp only [Act.put, ly])
     refine takeT 14 hHeld ?_
     (try simp only [Act.put, ly])
     refine takeT 15 hHeld ?_
     (try simp only [Act.put, ly])
     refine takeT 16 hHeld ?_
     (try simp only [Act.put, ly])
     refine takeT 17 hHeld ?_
     (try simp only [Act.put, ly])
     refine takeT 18 hHeld ?_
     (try simp only [Act.put, ly])
     refine takeT 19 hHeld ?_
     (try simp only [Act.put, ly])
     refine takeT 20 hHeld ?_
     (try simp only [Act.put, ly])
     refine takeT 21 hHeld ?_
     (try simp only [Act.put, ly])
     refine takeT 22 hHeld ?_
     (try simp only [Act.put, ly])
     refine takeT 23 hHeld ?_
     (try simp only [Act.put, ly])
     refine takeT 24 hHeld ?_
     (try simp only [Act.put, ly])
     refine takeT 25 hHeld ?_
     (try simp only [Act.put, ly])
     refine takeT 26 hHeld ?_
     (try simp only [Act.put, ly])
     refine wpAnyH_ready (rs := [27]) (by kernel_rfl) (by simp) ?_
     refine AllReadyH.cons rfl (fun K hK => ?_) AllReadyH.nil
     go_simp
     refine (kleaf_any _ (nn : Int) _ G S (HG2.out.keep (.of_below (HBY.out _ ((Below.refl _ _).drew)))) HGN.out (by omega) hSb).mono ?_
     rintro e w6 ⟨he, hb6⟩
     rw [HLF.out] at he
     subst he
     have hb6 : Below wx.heap.size wx w6 := ((Below.refl _ _).drew).trans hb6
     have y6 := hb6.size; (try simp only [zs] at y6)
     have HBW := Lib.hid hb6
     (try go_wp2_with fail)
     refine hK.out _ _ ?_ (fun hHeld => ?_)
     ·(try dsimp only)
      exact HSS.out _ hb6
     clear hK K
     (try simp only [Act.put, ly])
     by_cases z4 : x3 < lf
     ·have HV := Lib.hid (HBAD.out (fun h => by have h9 := (HGD.out.1 h).2.2.1; rw [Int.toNat_natCast, HLF.out] at h9; omega))
      have d5 : decide (x3 < lf) = true := decide_eq_true z4
      clear z4
      refine takeT 28 hHeld ?_
      (try simp only [Act.put, ly])
      refine takeT 29 hHeld ?_
      (try simp only [Act.put, ly])
      refine wpAnyH_done (by kernel_rfl) ?_ _
      refine NoPanic.normal ?_
      go_wp2_with fail
      go_ret
      exact ⟨⟨_, rfl, HV⟩, HBY.out _ HBW.out⟩
     have d5 : decide (x3 < lf) = false := decide_eq_false z4
     have HGDX : Hid (GoodB (nn : Int) G ((S : Int), x2, x3)) := HGD.out.2 ⟨HZ9.out.1, HZ9.out.2.1, by rw [Int.toNat_natCast, HLF.out]; omega, HZ9.out.2.2⟩
     clear z4
     refine takeT 28 hHeld ?_
     (try simp only [Act.put, ly])
     refine takeT 29 hHeld ?_
     (try simp only [Act.put, ly])
     refine wpAnyH_done (by kernel_rfl) ?_ _
     refine NoPanic.normal ?_
     obtain ⟨⟨⟨g0, g1⟩, g2⟩, -⟩ := HSS.out _ hb6
     have HM6 : Hid (MapF w6 200 wo.heap.size q k (bvF l q)) := HMX.out.below hb6 hwx2
     have HL6 : Hid (Loc w6 w.heap.size 84 #[.int .i64 (nn : Int), .slice A m cap0]) := Loc.below HLX.out hb6
     have HB6 : Hid (Below w.heap.size w w6) := HBY.out _ hb6
     go_wp2_with (at_mapUpdate; refine wpList_putF _ rfl _ _ _ rfl keyed_arr Tryz.underlying242 rfl HM6.out (by omega) (.agg #[.int .i64 (S : Int), .int .i64 x2]) (keyL (S : Int) x2) x3 rfl rfl (key_arr zb1 zb2) zb3 k' HK'.out ?_)
     intro w7 hM7 hg7
     have y9 := hg7.size
     have HM7 : Hid (MapF w7 200 wo.heap.size (q + 1) k' (bvF l (q + 1))) := by show MapF _ _ _ _ _ _; rw [bvF_next HX.out]; exact hM7
     have HL7 : Hid (Loc w7 w.heap.size 84 #[.int .i64 (nn : Int), .slice A m cap0]) := loc_grown HL6.out hg7 (fun e => by injection e with e; omega)
     have HB7 : Hid (Below w.heap.size w w7) := HB6.out.grown hg7 HB6.out.size (fun z hz => by injection hz with hz; omega)
     have HR7 : Hid (∀ (i : Nat) (x : Int × Int × Int), i < q + 1 → l[i]? = some x → GoodB (nn : Int) G x) := fun i x hi hx => by
      by_cases e : i < q
      ·exact hR.out i x e hx
      ·obtain rfl : i = q := by omega
       rw [HX.out] at hx
       injection hx with hx
       subst hx
       exact HGDX.out
     clear hM7 hg7 g0 g1 g2
     go_wp2_with fail
     go_roundw
     case rel => exact ⟨q + 1, k', by omega, by go_num, HM7, HR7, HL7, HB7.out⟩
     case measure => simp only [intOf]; omega
    ·obtain rfl : q = n := by omega
     have HGOOD : Hid (∀ x ∈ l, GoodB (nn : Int) G x) := fun x hx => by
      obtain ⟨i, hi, rfl⟩ := List.getElem_of_mem hx
      exact hR.out i _ (by rw [← HN.out]; exact hi) (List.getElem?_eq_getElem hi)
     have HF : Hid (∀ kl d, bvF l q kl = some d → 0 ≤ d ∧ d ≤ 1099511627776) := bvF_range q (fun i x hi hx => by
      have h9 := hR.out i x hi hx
      have h8 := leafG_pos G x.1.toNat G.length
      have := h9.2.2
      omega)
     have hwbs : wo.heap.size < wp.heap.size := hM.out.lt
     have hnq : ¬ (q : Int) < (q : Int) := by omega
     clear hR
     go_wp2_with fail
     clear hnq
     go_loopw [140] (fun i wr => ∃ (t : Nat), t ≤ q ∧ i = .int .i64 t ∧ Hid (MapF wr 200 wo.heap.size q k (bvF l q)) ∧ Hid (∀ (i : Nat) (x : Int × Int × Int), i < t → l[i]? = some x → 0 < x.2.1 → BndP L x.1.toNat x.2.1 x.2.2 (bvF l q)) ∧ Hid (Loc wr w.heap.size 84 #[.int .i64 (nn : Int), .slice A m cap0]) ∧ Below w.heap.size w wr) (fun i _ => q - (intOf i).toNat)
     case atStart => exact ⟨0, by omega, rfl, hM, Lib.hid (fun i x hi => absurd hi (by omega)), hL, hB7⟩
     case round =>
      clear hM hL hB7
      obtain ⟨t, ht, rfl, hM, hG, hL, hB8⟩ := hrel
      obtain ⟨wq, rfl⟩ : ∃ wq : World, wq = wr := ⟨_, rfl⟩
      have y8 := hB8.size; (try simp only [zs] at y8)
      have hwbq : wo.heap.size < wq.heap.size := hM.out.lt
      by_cases hlt3 : t < q
      ·obtain ⟨⟨x1, x2, x3⟩, hx⟩ : ∃ z, l[t]? = some z := ⟨_, List.getElem?_eq_getElem (by rw [HN.out]; exact hlt3)⟩
       have HX := Lib.hid hx
       have hxr := HGOOD.out (x1, x2, x3) (List.mem_of_getElem? hx)
       unfold GoodB at hxr
       rw [HPE.out] at hxr
       simp only at hxr
       have hx3 := leafG_pos G x1.toNat G.length
       have hx4 : 0 ≤ x3 ∧ x3 ≤ 1099511627776 := by omega
       obtain ⟨S, rfl⟩ : ∃ S : Nat, x1 = (S : Int) := ⟨x1.toNat, by omega⟩
       have hSb : S < 4611686018427387904 := by omega
       have hx2 : 0 ≤ x2 := hxr.1
       obtain ⟨a, rfl, hab, cx, cx2, cx3, zb1, zb2, zb3⟩ := (HT2.out.keep (.of_below hB8)).at hx
       simp only at cx cx2 cx3 zb1 zb2 zb3
       rw [addr_one] at cx2
       rw [addr_two] at cx3
       have k0 : (0 : Int) ≤ (t : Int) := by omega
       have k1 : (t : Int) < (q : Int) := by omega
       obtain ⟨wx, hwx⟩ : ∃ W, wq.alloc (.cells #[.int .i64 (S : Int), .int .i64 x2, .int .i64 x3] 241) = W := ⟨_, rfl⟩
       have HWX := Lib.hid hwx
       have hbx : Below wq.heap.size wq wx := by rw [← hwx]; exact below1 _ _
       have HBX : Hid (Below w.heap.size w wx) := hB8.trans (hbx.mono (by omega))
       have LX : Hid (Loc wx wq.heap.size 241 #[.int .i64 (S : Int), .int .i64 x2, .int .i64 x3]) := by show Loc _ _ _ _; rw [← hwx]; exact made1 wq _ _
       have HLX : Hid (Loc wx w.heap.size 84 #[.int .i64 (nn : Int), .slice A m cap0]) := Loc.below hL.out hbx
       have HMX : Hid (MapF wx 200 wo.heap.size q k (bvF l q)) := hM.out.below hbx hwbq
       have ywx : wq.heap.size < wx.heap.size := Loc.lt LX.out
       have hwx2 : wo.heap.size < wx.heap.size := by omega
       have hwx3 : w.heap.size < wq.heap.size := Loc.lt hL.out
       have HNEXT : Hid ((0 < x2 → BndP L S x2 x3 (bvF l q)) → ∀ (i : Nat) (x : Int × Int × Int), i < t + 1 → l[i]? = some x → 0 < x.2.1 → BndP L x.1.toNat x.2.1 x.2.2 (bvF l q)) := fun hh i x hi hx' h0 => by
        by_cases e : i < t
        ·exact hG.out i x e hx' h0
        ·obtain rfl : i = t := by omega
         rw [HX.out] at hx'
         injection hx' with hx'
         subst hx'
         simp only [Int.toNat_natCast] at h0 ⊢
         exact hh h0
       have HBAD : Hid (0 < x2 → ¬ BndP L S x2 x3 (bvF l q) → BeC (nn : Int) L G left l bound 13) := fun h0 hq' => HBADX.out (fun h => hq' (by
        have h9 := h.2.1 _ (List.mem_of_getElem? HX.out)
        rw [HN.out] at h9
        simp only [Int.toNat_natCast] at h9
        exact h9 h0))
       clear hx hwx hxr hx3 hbx
       have e1 := Loc.cell hL.out 0
       have e2 := Loc.cell hL.out 1
       simp only [List.getElem?_toArray, List.getElem?_cons_zero, List.getElem?_cons_succ] at e1 e2
       go_wp2_with fail
       rw [HWX.out]
       clear cx cx2 cx3 e1 e2
       go_loopw [147] (fun i wr => ∃ (c : Nat), c ≤ m ∧ i = .int .i64 c ∧ Hid (∀ (i : Nat) (v : List Int), i < c → L[i]? = some v → 0 < x2 → BndV (bvF l q) (x2 - 1) x3 (nzp S v)) ∧ Hid (Loc wr w.heap.size 84 #[.int .i64 (nn : Int), .slice A m cap0]) ∧ Hid (Loc wr wq.heap.size 241 #[.int .i64 (S : Int), .int .i64 x2, .int .i64 x3]) ∧ Hid (MapF wr 200 wo.heap.size q k (bvF l q)) ∧ Below w.heap.size w wr ∧ Below wx.heap.size wx wr) (fun i _ => m - (intOf i).toNat)
       case atStart => exact ⟨0, by omega, rfl, Lib.hid (fun i v hi => absurd hi (by omega)), HLX, LX, HMX, HBX.out, Below.refl _ _⟩
       case round =>
        clear HLX LX HMX HBX
        obtain ⟨c2, hc2, rfl, hall, hL1, hL2, hM2, hB9, hB10⟩ := hrel
        obtain ⟨wv, rfl⟩ : ∃ wv : World, wv = wr := ⟨_, rfl⟩
        have y9 := hB9.size; (try simp only [zs] at y9)
        have y10 := hB10.size; (try simp only [zs] at y10)
        by_cases hlt4 : c2 < m
        case neg =>
         obtain rfl : c2 = m := by omega
         have HNX := Lib.hid (HNEXT.out (fun h0 v hv => by
          obtain ⟨j, hj, rfl⟩ := List.getElem_of_mem hv
          exact hall.out j _ (by rw [← HM.out]; exact hj) (List.getElem?_eq_getElem hj) h0))
         go_wp2_with fail
         go_roundw
         case rel => exact ⟨t + 1, by omega, by go_num, hM2, HNX, hL1, hB9⟩
         case measure => simp only [intOf]; omega
        obtain ⟨v, he⟩ : ∃ l, L[c2]? = some l := ⟨_, List.getElem?_eq_getElem (by rw [HM.out]; exact hlt4)⟩
        obtain ⟨a3, E, d, rfl, hab3, hcell, hnum, l15, l16⟩ := (H2.out.keep (.of_below hB9)).at he
        have HE := Lib.hid he
        have HNUM := Lib.hid hnum
        have hvm := HMN.out.2.2 v (List.mem_of_getElem? he)
        have HVL : Hid (v.length ≤ 62) := by show _ ≤ _; omega
        have HCG : Hid (canGo 0 v) := hvm.2
        have k2 : (0 : Int) ≤ (c2 : Int) := by omega
        have k3 : (c2 : Int) < (m : Int) := by omega
        obtain ⟨e1, f1, -⟩ := Loc.all hL2.out (w' := wv)
        clear he hnum hvm
        by_cases x0 : x2 = 0
        ·have d1 : (x2 == 0) = true := beq_iff_eq.2 x0
         have HNX := Lib.hid (HNEXT.out (fun h0 => absurd h0 (by omega)))
         clear x0
         go_wp2_with fail
         go_roundw
         case rel => exact ⟨t + 1, by omega, by go_num, hM2, HNX, hL1, hB9⟩
         case measure => simp only [intOf]; omega
        have d1 : (x2 == 0) = false := beq_eq_false_iff_ne.2 x0
        have hx20 : 0 < x2 := by omega
        have kw : IntKind.i64.wrap (x2 - 1) = x2 - 1 := by rw [IntKind.wrap_i64]; omega
        clear x0
        go_wp2_with fail
        refine (split_any _ _ v S (HNUM.out.keep kp) HVL.out HCG.out hSb).mono ?_
        rintro e w2 ⟨⟨v2, rfl, hv2⟩, hb2⟩
        have y2 := hb2.size; (try simp only [zs] at y2)
        have HB2 : Hid (Below w.heap.size w w2) := hB9.trans (hb2.mono (by omega))
        have HBX2 : Hid (Below wx.heap.size wx w2) := hB10.trans (hb2.mono (by omega))
        have HL1 : Hid (Loc w2 w.heap.size 84 #[.int .i64 (nn : Int), .slice (some a3) m cap0]) := Loc.below hL1.out hb2
        have HL2 : Hid (Loc w2 wq.heap.size 241 #[.int .i64 (S : Int), .int .i64 x2, .int .i64 x3]) := Loc.below hL2.out hb2
        have HM2 : Hid (MapF w2 200 wo.heap.size q k (bvF l q)) := hM2.out.below hb2 (by omega)
        have HZN : Hid ((nzp S v).length ≤ 62) := by
         show _ ≤ _
         have h1 : (nzs (parts v S v.length v.length)).length ≤ (parts v S v.length v.length).length := List.length_filter_le ..
         rw [parts_len] at h1
         have := HVL.out
         show (nzs (parts v S v.length v.length)).length ≤ _
         omega
        have hv2 : Hid (IntsV w2 v2 (nzp S v)) := hv2
        obtain ⟨Z, hZZ⟩ : ∃ Z, nzp S v = Z := ⟨_, rfl⟩
        rw [hZZ] at hv2 HZN
        obtain ⟨B2, cp2, rfl, -, l7, l8⟩ := hv2.out.op
        obtain ⟨N, hN⟩ : ∃ q, Z.length = q := ⟨_, rfl⟩
        have HNN := Lib.hid hN
        have HV3 : Hid (IntsV w2 (.slice B2 N cp2) Z) := by have h9 := hv2.out; rw [hN] at h9; exact h9
        have hN62 : N ≤ 62 := by have := HZN.out; omega
        rw [hN] at l7 ⊢
        have HALL : Hid (BndV (bvF l q) (x2 - 1) x3 Z → ∀ (i : Nat) (v : List Int), i < c2 + 1 → L[i]? = some v → 0 < x2 → BndV (bvF l q) (x2 - 1) x3 (nzp S v)) := fun hq i v' hi hv' h0 => by
         by_cases hh : i < c2
         ·exact hall.out i v' hh hv' h0
         ·obtain rfl : i = c2 := by omega
          rw [HE.out] at hv'
          injection hv' with hv'
          subst hv'
          rw [hZZ]
          exact hq
        have HBAD2 : Hid (¬ BndV (bvF l q) (x2 - 1) x3 Z → BeC (nn : Int) L G left l bound 13) := fun hq => HBAD.out hx20 (fun hp => hq (by rw [← hZZ]; exact hp v (List.mem_of_getElem? HE.out)))
        clear e1 f1 hv2 hN hcell hab3 l15 l16 hL1 hL2 hM2 hB9 hB10 hb2
        go_wp2_with fail
        go_loopw [19, 159] (fun sv i wr => ∃ (u : Nat) (s : Int), u ≤ N ∧ i = .int .i64 u ∧ sv = .int .i64 s ∧ Hid (sumB (bvF l q) (x2 - 1) (Z.take u) = s) ∧ Hid (∀ y ∈ Z.take u, ∃ d, bvF l q (keyL y (x2 - 1)) = some d) ∧ Hid (Loc wr w.heap.size 84 #[.int .i64 (nn : Int), .slice (some a3) m cap0]) ∧ Hid (Loc wr wq.heap.size 241 #[.int .i64 (S : Int), .int .i64 x2, .int .i64 x3]) ∧ Hid (MapF wr 200 wo.heap.size q k (bvF l q)) ∧ Below w.heap.size w wr ∧ Below wx.heap.size wx wr ∧ Below w2.heap.size w2 wr) (fun _ i _ => N - (intOf i).toNat)
        case atStart => exact ⟨0, 0, by omega, rfl, rfl, Lib.hid rfl, Lib.hid (fun y hy => by simp at hy), HL1, HL2, HM2, HB2.out, HBX2.out, Below.refl _ _⟩
        case round =>
         clear HL1 HL2 HM2 HB2 HBX2
         obtain ⟨u, s, hu, rfl, rfl, hs, hkn, hL1, hL2, hM2, hB11, hB12, hB13⟩ := hrel
         obtain ⟨wz, rfl⟩ : ∃ wz : World, wz = wr := ⟨_, rfl⟩
         have y11 := hB11.size; (try simp only [zs] at y11)
         have y12 := hB12.size; (try simp only [zs] at y12)
         have y13 := hB13.size; (try simp only [zs] at y13)
         obtain ⟨e1, f1, -⟩ := Loc.all hL2.out (w' := wz)
         by_cases hlt5 : u < N
         ·obtain ⟨z, hz⟩ : ∃ z, Z[u]? = some z := ⟨_, List.getElem?_eq_getElem (by rw [HNN.out]; exact hlt5)⟩
          obtain ⟨a2, rfl, hab2, hcell2, zr, -⟩ := (HV3.out.keep (.of_below hB13)).at hz
          have k4 : (0 : Int) ≤ (u : Int) := by omega
          have k5 : (u : Int) < (N : Int) := by omega
          have HTA : Hid (Z.take (u + 1) = Z.take u ++ [z]) := by show _ = _; rw [List.take_add_one, hz]; rfl
          have HZM := Lib.hid (List.mem_of_getElem? hz)
          have zr2 : -9223372036854775808 ≤ z ∧ z ≤ 9223372036854775807 := by
           obtain ⟨_, _, _, _, _, _, h6⟩ := HV3.out
           exact h6 z (List.mem_of_getElem? hz)
          have hrun := hM2.out.look keyed_arr Tryz.underlying242 (key_arr (a := z) (b := x2 - 1) zr2 (by omega))
          obtain ⟨o, ho⟩ : ∃ o, bvF l q (keyL z (x2 - 1)) = o := ⟨_, rfl⟩
          rw [ho] at hrun
          have HO := Lib.hid ho
          clear ho hz
          cases o with
          | none =>
            have hr2 : (Instr.lookup 242 (.map (some wo.heap.size)) (.agg #[.int .i64 z, .int .i64 (x2 - 1)]) true).run Tryz.prog wz = .ok (.tuple #[.int .i64 0, .bool false]) wz := hrun
            have HV := Lib.hid (HBAD2.out (fun h => by obtain ⟨d, hd⟩ := h.1 z HZM.out; rw [HO.out] at hd; cases hd))
            clear hrun
            go_wp2_with fail
            go_ret
            exact ⟨⟨_, rfl, HV⟩, hB11⟩
          | some d =>
            have hr2 : (Instr.lookup 242 (.map (some wo.heap.size)) (.agg #[.int .i64 z, .int .i64 (x2 - 1)]) true).run Tryz.prog wz = .ok (.tuple #[.int .i64 d, .bool true]) wz := hrun
            have hdr := HF.out _ d HO.out
            have hsr := sumB_range HF.out (x2 - 1) (Z.take u)
            have hsl : (Z.take u).length ≤ u := by rw [List.length_take]; omega
            rw [hs.out] at hsr
            have kv : IntKind.i64.wrap (s + d) = s + d := by rw [IntKind.wrap_i64]; omega
            have HSX : Hid (sumB (bvF l q) (x2 - 1) (Z.take (u + 1)) = s + d) := by show _ = _; rw [HTA.out, sumB_append, hs.out, sumB_one _ (x2 - 1) z d HO.out]
            have HKX : Hid (∀ y ∈ Z.take (u + 1), ∃ d, bvF l q (keyL y (x2 - 1)) = some d) := by
             show ∀ y ∈ _, _
             rw [HTA.out]
             intro y hy
             rcases List.mem_append.1 hy with h | h
             ·exact hkn.out y h
             ·rcases List.mem_singleton.1 h with rfl
              exact ⟨d, HO.out⟩
            clear hrun hdr hsr hsl
            go_wp2_with fail
            go_roundw
            case rel => exact ⟨u + 1, s + d, by omega, by go_num, by first | rfl | rw [kv], HSX, HKX, hL1, hL2, hM2, hB11, hB12, hB13⟩
            case measure => simp only [intOf]; omega
         ·obtain rfl : u = N := by omega
          have HTK : Hid (Z.take u = Z) := by show _ = _; rw [List.take_of_length_le (by rw [HNN.out]; exact Nat.le_refl _)]
          by_cases hsb : x3 < s
          ·have d2 : decide (x3 < s) = true := decide_eq_true hsb
           have HV := Lib.hid (HBAD2.out (fun h => by have h9 := h.2; rw [← HTK.out, hs.out] at h9; omega))
           clear hsb
           go_wp2_with fail
           go_ret
           exact ⟨⟨_, rfl, HV⟩, hB11⟩
          ·have d2 : decide (x3 < s) = false := decide_eq_false hsb
           have HNX := Lib.hid (HALL.out (by
            rw [← HTK.out]
            exact ⟨hkn.out, by rw [hs.out]; omega⟩))
           clear hsb
           go_wp2_with fail
           go_roundw
           case rel => exact ⟨c2 + 1, by omega, by go_num, HNX, hL1, hL2, hM2, hB11, hB12⟩
           case measure => simp only [intOf]; omega
      ·obtain rfl : t = q := by omega
       have HBNX : Hid (∀ x ∈ l, 0 < x.2.1 → BndP L x.1.toNat x.2.1 x.2.2 (bvF l l.length)) := fun x hx h0 => by
        obtain ⟨i, hi, rfl⟩ := List.getElem_of_mem hx
        rw [HN.out]
        exact hG.out i _ (by rw [← HN.out]; exact hi) (List.getElem?_eq_getElem hi) h0
       have k9 : IntKind.i64.wrap ((p : Int) - 1) = ((p - 1 : Nat) : Int) := by rw [IntKind.wrap_i64]; omega
       have hrun := hM.out.look keyed_arr Tryz.underlying242 (key_arr (a := ((p - 1 : Nat) : Int)) (b := left) (by omega) (by omega))
       obtain ⟨o, ho⟩ : ∃ o, bvF l t (keyL ((p - 1 : Nat) : Int) left) = o := ⟨_, rfl⟩
       have HTOP : Hid (TopB (nn : Int) left (bvF l l.length) bound ↔ (∃ d, o = some d ∧ d ≤ bound)) := by
        show _ ↔ _
        unfold TopB
        rw [HPE.out, HN.out, ho]
       rw [ho] at hrun
       have c0 := Loc.cell hL.out 0
       simp only [List.getElem?_toArray, List.getElem?_cons_zero, List.getElem?_cons_succ] at c0
       have hnq : ¬ (t : Int) < (t : Int) := by omega
       have HBAD : Hid (¬ (∃ d, o = some d ∧ d ≤ bound) → BeC (nn : Int) L G left l bound 13) := fun h => HBADX.out (fun h' => h (HTOP.out.1 h'.2.2))
       have HOK : Hid ((∃ d, o = some d ∧ d ≤ bound) → BeC (nn : Int) L G left l bound 0) := fun h => HOKX.out ⟨HGOOD.out, HBNX.out, HTOP.out.2 h⟩
       clear ho
       cases o with
       | none =>
         have hr2 : (Instr.lookup 242 (.map (some wo.heap.size)) (.agg #[.int .i64 ((p - 1 : Nat) : Int), .int .i64 left]) true).run Tryz.prog wq = .ok (.tuple #[.int .i64 0, .bool false]) wq := hrun
         have HV := Lib.hid (HBAD.out (fun h => by obtain ⟨d, h1, -⟩ := h; cases h1))
         clear hrun
         go_wp2_with fail
         go_ret
         exact ⟨⟨_, rfl, HV⟩, hB8⟩
       | some d =>
         have hr2 : (Instr.lookup 242 (.map (some wo.heap.size)) (.agg #[.int .i64 ((p - 1 : Nat) : Int), .int .i64 left]) true).run Tryz.prog wq = .ok (.tuple #[.int .i64 d, .bool true]) wq := hrun
         clear hrun
         by_cases z0 : bound < d
         ·have HV := Lib.hid (HBAD.out (fun h => by obtain ⟨d', h1, h2⟩ := h; injection h1 with h1; omega))
          have d1 : decide (bound < d) = true := decide_eq_true z0
          clear z0
          go_wp2_with fail
          go_ret
          exact ⟨⟨_, rfl, HV⟩, hB8⟩
         ·have HV := Lib.hid (HOK.out ⟨d, rfl, by omega⟩)
          have d1 : decide (bound < d) = false := decide_eq_false z0
          clear z0
          go_wp2_with fail
          go_ret
          exact ⟨⟨_, rfl, HV⟩, hB8⟩
end Go.Proofs.YtbdcjhoedhhabaaGreat

