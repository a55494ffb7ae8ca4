/- Contracts of the functions that the statements reach, part 31. -/
import Derived.Test.YtbdcjhoedhhabaaGreatRows
import Derived.Test.YtbdcjhoedhhabaaGreatD26
import Derived.Test.YtbdcjhoedhhabaaGreatD29
set_option linter.unusedSimpArgs false
set_option linter.unusedVariables false

/- adaptive.Prove. Printed by gen_bm10.py. -/
namespace Go.Proofs.YtbdcjhoedhhabaaGreat
open Go.RowKit
attribute [local go_sem ↓] Go.wp_at_zero Go.wp_at_succ

set_option maxRecDepth 100000 in
set_option maxHeartbeats 32000000 in
theorem aprove_any (w : World) (ns : Int) (vm vg vt : Value) (L G : List (List Int)) (left : Int) (l : List (Int × Int × Int)) (bound : Int) (h : IMat w vm L) (hg : IMat w vg G) (ht : Bels w vt l) :
 Calls Tryz.prog 54 #[.agg #[.int .i64 ns, vm], vg, .int .i64 left, vt, .int .i64 bound] w fun e w' => (∃ r : Int, e = .returned (.int .i64 r) ∧ Hid (BeC ns L G left l bound r)) ∧ Below w.heap.size w w' := by
 have H := Lib.hid h
 have HG := Lib.hid hg
 have HT := Lib.hid ht
 obtain ⟨A, cap0, rfl, h, l1, l2⟩ := h.op
 obtain ⟨D, cap2, rfl, hg, l5, l6⟩ := hg.op
 obtain ⟨B, cap1, rfl, ht, l3, l4⟩ := ht.op
 clear h ht hg
 obtain ⟨m, hml⟩ : ∃ m, L.length = m := ⟨_, rfl⟩
 have HM := Lib.hid hml
 have H2 : Hid (IMat w (.slice A m cap0) L) := by have h9 := H.out; rw [hml] at h9; exact h9
 obtain ⟨g, hgl⟩ : ∃ g, G.length = g := ⟨_, rfl⟩
 have HG2 : Hid (IMat w (.slice D g cap2) G) := by have h9 := HG.out; rw [hgl] at h9; exact h9
 obtain ⟨n, hn⟩ : ∃ n, l.length = n := ⟨_, rfl⟩
 have HN := Lib.hid hn
 have HT2 : Hid (Bels w (.slice B n cap1) l) := by have h9 := HT.out; rw [hn] at h9; exact h9
 rw [hml, hn, hgl]
 rw [hml] at l1
 rw [hn] at l3
 rw [hgl] at l5
 clear hml hn hgl H HT HG
 have L1 := made1 w #[.int .i64 ns, .slice A m cap0] 84
 go_enter Tryz.func54, Tryz.ntmps54
 go_wp2_with fail
 refine (asked48_any _ ns _ _ L G left (H2.out.keep kp) (HG2.out.keep kp)).mono ?_
 rintro e w1 ⟨⟨r, rfl, hr⟩, hb1⟩
 have y1 := hb1.size; (try simp only [zs] at y1)
 by_cases hask : AskOk ns L G left
 case neg =>
  obtain rfl : r = 1 := hr.out.2 hask
  have HV := Lib.hid (BeC.one (l := l) (bound := bound) hask)
  clear hr hask
  go_wp2_with fail
  go_ret
  exact ⟨⟨_, rfl, HV⟩, bel⟩
 obtain rfl : r = 0 := hr.out.1 hask
 have HASK := Lib.hid hask
 have HMN := Lib.hid hask.1
 have HGN := Lib.hid hask.2.1
 have hlr : 0 ≤ left ∧ left ≤ 8 := hask.2.2
 clear hr hask
 have hns := HMN.out.1
 obtain ⟨nn, rfl⟩ : ∃ nn : Nat, ns = (nn : Int) := ⟨ns.toNat, by omega⟩
 have hnn : nn ≤ 62 := by omega
 have hm8 : m ≤ 8 := by have := HMN.out.2.1; have := HM.out; omega
 have HL1 : Hid (Loc w1 w.heap.size 84 #[.int .i64 (nn : Int), .slice A m cap0]) := by show Loc _ _ _ _; exact L1.to
 have HB1 : Hid (Below w.heap.size w w1) := by show Below _ _ _; exact bel
 clear hns L1 hb1
 by_cases h0 : 4096 < n
 ·have HV := Lib.hid (BeC.four (l := l) (bound := bound) HASK.out (by rw [HN.out]; exact h0))
  have d1 : decide ((4096 : Int) < (n : Int)) = true := decide_eq_true (by omega)
  have d1' : decide (4096 < n) = true := decide_eq_true h0
  clear h0
  go_wp2_with fail
  go_ret
  exact ⟨⟨_, rfl, HV⟩, HB1.out⟩
 have d1 : decide ((4096 : Int) < (n : Int)) = false := decide_eq_false (by omega)
 have d1' : decide (4096 < n) = false := decide_eq_false h0
 have HN4 : Hid (¬ 4096 < l.length) := by show ¬ _; rw [HN.out]; exact h0
 have hn4 : n ≤ 4096 := by omega
 clear h0
 go_wp2_with fail
 clear d1 d1'
 go_loopw [32] (fun i wr => ∃ (c : Nat), c ≤ n ∧ i = .int .i64 c ∧ Hid (DscTo l c) ∧ Hid (Loc wr w.heap.size 84 #[.int .i64 (nn : Int), .slice A m cap0]) ∧ Below w.heap.size w wr) (fun i _ => n - (intOf i).toNat)
 case atStart => exact ⟨0, by omega, rfl, Lib.hid (fun i x y hi => absurd hi (by omega)), HL1, HB1.out⟩
 case round =>
  clear HL1 HB1
  obtain ⟨c, hc, rfl, hA, hL, hB⟩ := hrel
  obtain ⟨wo, rfl⟩ : ∃ wo : World, wo = wr := ⟨_, rfl⟩
  have y5 := hB.size; (try simp only [zs] at y5)
  by_cases hlt : c < n
  ·have k0 : (0 : Int) ≤ (c : Int) := by omega
   have k1 : (c : Int) < (n : Int) := by omega
   by_cases z0 : c = 0
   ·have HNX : Hid (DscTo l (c + 1)) := fun i x y hi => absurd hi (by omega)
    have d1 : decide ((0 : Int) < (c : Int)) = false := decide_eq_false (by omega)
    have d1' : decide (0 < c) = false := decide_eq_false (by omega)
    clear z0
    go_wp2_with fail
    refine wp_region_noPanic ?_
    refine wp_region_held_drew (S := (fun W => True)) (by kernel_rfl) ?_ (fun hHeld => ?_)
    ·exact True.intro
    refine takeT 0 hHeld ?_
    (try simp only [Act.put, ly])
    refine takeT 1 hHeld ?_
    (try simp only [Act.put, ly])
    refine takeT 2 hHeld ?_
    (try simp only [Act.put, ly])
    refine offT 3 hHeld ?_
    refine offT 4 hHeld ?_
    refine offT 5 hHeld ?_
    refine offT 6 hHeld ?_
    refine offT 7 hHeld ?_
    refine offT 8 hHeld ?_
    refine offT 9 hHeld ?_
    refine offT 10 hHeld ?_
    refine offT 11 hHeld ?_
    refine offT 12 hHeld ?_
    refine offT 13 hHeld ?_
    (try simp only [Act.put, ly])
    refine takeT 14 hHeld ?_
    (try simp only [Act.put, ly])
    refine wpAnyH_done (by kernel_rfl) ?_ _
    refine NoPanic.normal ?_
    go_wp2_with fail
    go_roundw
    case rel => exact ⟨c + 1, by omega, by go_num, HNX, hL, bel⟩
    case measure => simp only [intOf]; omega
   have d1 : decide ((0 : Int) < (c : Int)) = true := decide_eq_true (by omega)
   have d1' : decide (0 < c) = true := decide_eq_true (by omega)
   have hc1 : 1 ≤ c := by omega
   obtain ⟨⟨y1, y2, y3⟩, hy⟩ : ∃ z, l[c]? = some z := ⟨_, List.getElem?_eq_getElem (by rw [HN.out]; exact hlt)⟩
   obtain ⟨⟨x1, x2, x3⟩, hx⟩ : ∃ z, l[c - 1]? = some z := ⟨_, List.getElem?_eq_getElem (by rw [HN.out]; omega)⟩
   obtain ⟨a, rfl, hab, -, -, -, -, -, -⟩ := (HT2.out.keep (.of_below hB)).at hy
   have HY := Lib.hid hy
   have HX := Lib.hid hx
   have HCS : Hid (∀ W, Below wo.heap.size wo W → ((W.cell? (a.add (c * 3)) = some (.int .i64 y1) ∧ W.cell? ⟨(a.add (c * 3)).block, (a.add (c * 3)).off + 1, none⟩ = some (.int .i64 y2)) ∧ W.cell? ⟨(a.add (c * 3)).block, (a.add (c * 3)).off + 2, none⟩ = some (.int .i64 y3)) ∧ (W.cell? (a.add ((c - 1) * 3)) = some (.int .i64 x1) ∧ W.cell? ⟨(a.add ((c - 1) * 3)).block, (a.add ((c - 1) * 3)).off + 1, none⟩ = some (.int .i64 x2)) ∧ W.cell? ⟨(a.add ((c - 1) * 3)).block, (a.add ((c - 1) * 3)).off + 2, none⟩ = some (.int .i64 x3)) := fun W hW => by
    have hBW : Below w.heap.size w W := hB.trans (hW.mono y5)
    obtain ⟨a', ea, -, cy, cy2, cy3, -, -, -⟩ := (HT2.out.keep (.of_below hBW)).at HY.out
    obtain ⟨a'', ea', -, cx, cx2, cx3, -, -, -⟩ := (HT2.out.keep (.of_below hBW)).at HX.out
    injection ea with ea
    injection ea' with ea'
    subst ea ea'
    simp only at cy cx cy2 cx2 cy3 cx3
    rw [addr_one] at cy2 cx2
    rw [addr_two] at cy3 cx3
    exact ⟨⟨⟨cy, cy2⟩, cy3⟩, ⟨cx, cx2⟩, cx3⟩
   have HTEN : Hid (¬ OrdB (x1, x2, x3) (y1, y2, y3) → BeC (nn : Int) L G left l bound 10) := fun hq => BeC.ten HASK.out HN4.out (fun h => hq (h (c - 1) _ _ (by rw [HN.out]; omega) HX.out (by rw [show c - 1 + 1 = c by omega]; exact HY.out)))
   have HNEXT : Hid (OrdB (x1, x2, x3) (y1, y2, y3) → DscTo l (c + 1)) := fun hq => hA.out.next hc1 HX.out HY.out hq
   have k2 : IntKind.i64.wrap ((c : Int) - 1) = ((c - 1 : Nat) : Int) := by rw [IntKind.wrap_i64]; omega
   have k3 : (0 : Int) ≤ ((c - 1 : Nat) : Int) := by omega
   have k4 : ((c - 1 : Nat) : Int) < (n : Int) := by omega
   obtain ⟨oc, hoc⟩ : ∃ oc, ordC x1 x2 y1 y2 = oc := ⟨_, rfl⟩
   have HOC := Lib.hid hoc
   clear hx hy hoc z0
   go_wp2_with fail
   refine wp_region_noPanic ?_
   refine wp_region_held_drew (S := (fun W => ((W.cell? (a.add (c * 3)) = some (.int .i64 y1) ∧ W.cell? ⟨(a.add (c * 3)).block, (a.add (c * 3)).off + 1, none⟩ = some (.int .i64 y2)) ∧ W.cell? ⟨(a.add (c * 3)).block, (a.add (c * 3)).off + 2, none⟩ = some (.int .i64 y3)) ∧ (W.cell? (a.add ((c - 1) * 3)) = some (.int .i64 x1) ∧ W.cell? ⟨(a.add ((c - 1) * 3)).block, (a.add ((c - 1) * 3)).off + 1, none⟩ = some (.int .i64 x2)) ∧ W.cell? ⟨(a.add ((c - 1) * 3)).block, (a.add ((c - 1) * 3)).off + 2, none⟩ = some (.int .i64 x3))) (by kernel_rfl) ?_ (fun hHeld => ?_)
   ·exact HCS.out _ ((Below.refl _ _).drew)
   refine takeT 0 hHeld ?_
   (try simp only [Act.put, ly])
   refine takeT 1 hHeld ?_
   (try simp only [Act.put, ly])
   refine takeT 2 hHeld ?_
   (try simp only [Act.put, ly])
   refine takeT 3 hHeld ?_
   (try simp only [Act.put, ly])
   refine takeT 4 hHeld ?_
   (try simp only [Act.put, ly])
   refine takeT 5 hHeld ?_
   (try simp only [Act.put, ly])
   refine takeT 6 hHeld ?_
   (try simp only [Act.put, ly])
   refine takeT 7 hHeld ?_
   (try simp only [Act.put, ly])
   refine takeT 8 hHeld ?_
   (try simp only [Act.put, ly])
   refine takeT 9 hHeld ?_
   (try simp only [Act.put, ly])
   refine takeT 10 hHeld ?_
   (try simp only [Act.put, ly])
   refine takeT 11 hHeld ?_
   (try simp only [Act.put, ly])
   refine wpAnyH_ready (rs := [12]) (by kernel_rfl) (by simp) ?_
   refine AllReadyH.cons rfl (fun K hK => ?_) AllReadyH.nil
   go_simp
   refine (order_any48 _ x1 x2 x3 y1 y2 y3).mono ?_
   rintro e w6 ⟨he, hb6⟩
   rw [HOC.out] at he
   subst he
   have hb6 : Below wo.heap.size wo w6 := ((Below.refl _ _).drew).trans hb6
   have y6 := hb6.size; (try simp only [zs] at y6)
   have HBW := Lib.hid hb6
   (try go_wp2_with fail)
   refine hK.out _ _ ?_ (fun hHeld => ?_)
   ·(try dsimp only)
    exact HCS.out _ hb6
   clear hK K
   (try simp only [Act.put, ly])
   have HL6 : Hid (Loc w6 w.heap.size 84 #[.int .i64 (nn : Int), .slice A m cap0]) := Loc.below hL.out hb6
   have HB6 : Hid (Below w.heap.size w w6) := hB.trans (hb6.mono y5)
   by_cases z1 : 0 ≤ oc
   ·have HV := Lib.hid (HTEN.out (fun h => by have h9 := ordC_neg.2 h; rw [HOC.out] at h9; omega))
    have d2 : decide (0 ≤ oc) = true := decide_eq_true z1
    clear z1
    refine takeT 13 hHeld ?_
    (try simp only [Act.put, ly])
    refine takeT 14 hHeld ?_
    (try simp only [Act.put, ly])
    refine wpAnyH_done (by kernel_rfl) ?_ _
    refine NoPanic.normal ?_
    go_wp2_with fail
    go_ret
    exact ⟨⟨_, rfl, HV⟩, HB6.out⟩
   ·have HNX := Lib.hid (HNEXT.out (ordC_neg.1 (by rw [HOC.out]; omega)))
    have d2 : decide (0 ≤ oc) = false := decide_eq_false z1
    clear z1
    refine takeT 13 hHeld ?_
    (try simp only [Act.put, ly])
    refine takeT 14 hHeld ?_
    (try simp only [Act.put, ly])
    refine wpAnyH_done (by kernel_rfl) ?_ _
    refine NoPanic.normal ?_
    go_wp2_with fail
    go_roundw
    case rel => exact ⟨c + 1, by omega, by go_num, HNX, HL6, HB6.out⟩
    case measure => simp only [intOf]; omega
  ·obtain rfl : c = n := by omega
   have HASC : Hid (DscTo l l.length) := by show DscTo _ _; rw [HN.out]; exact hA.out
   have hnc : ¬ (c : Int) < (c : Int) := by omega
   have HBADX : Hid (¬ AllB (nn : Int) L G left l bound → BeC (nn : Int) L G left l bound 13) := fun h => BeC.bad HASK.out HN4.out HASC.out h
   have HOKX : Hid (AllB (nn : Int) L G left l bound → BeC (nn : Int) L G left l bound 0) := fun h => BeC.ok HASK.out HN4.out HASC.out h
   have hmk := run_makeMap (P := Tryz.prog) 247 wo
   have hbw : w.heap.size < wo.heap.size := Loc.lt hL.out
   have hp : 1 ≤ 2 ^ nn ∧ 2 ^ nn ≤ 4611686018427387904 := ⟨Nat.one_le_two_pow, Nat.le_trans (Nat.pow_le_pow_right (by decide) hnn) (by decide)⟩
   obtain ⟨p, hpe⟩ : ∃ p : Nat, 2 ^ nn = p := ⟨_, rfl⟩
   have HPE : Hid (2 ^ (nn : Int).toNat = p) := by show _ = _; rw [Int.toNat_natCast]; exact hpe
   have HEV : Hid ((2 ^ nn - 1 : Nat) = p - 1) := by show _ = _; rw [hpe]
   rw [hpe] at hp
   have HM0 : Hid (MapF (wo.alloc (.map #[] 0)) 249 wo.heap.size 0 0 (bvF l 0)) := MapF.made wo 249
   have HL0 : Hid (Loc (wo.alloc (.map #[] 0)) w.heap.size 84 #[.int .i64 (nn : Int), .slice A m cap0]) := hL.out.alloc _
   have HB0 : Hid (Below w.heap.size w (wo.alloc (.map #[] 0))) := hB.alloc y5 _
   clear hpe hA hL
   go_wp2_with fail
   clear hmk hnc
   go_loopw [54] (fun i wr => ∃ (q k : Nat), q ≤ c ∧ i = .int .i64 q ∧ Hid (MapF wr 249 wo.heap.size q k (bvF l q)) ∧ Hid (∀ (i : Nat) (x : Int × Int × Int), i < q → l[i]? = some x → GoodB (nn : Int) G x) ∧ Hid (Loc wr w.heap.size 84 #[.int .i64 (nn : Int), .slice A m cap0]) ∧ Below w.heap.size w wr) (fun i _ => c - (intOf i).toNat)
   case atStart => exact ⟨0, 0, by omega, rfl, HM0, Lib.hid (fun i x hi => absurd hi (by omega)), HL0, HB0.out⟩
   case round =>
    clear HM0 HL0 HB0
    obtain ⟨q, k, hq, rfl, hM, hR, hL, hB7⟩ := hrel
    obtain ⟨wp, rfl⟩ : ∃ wp : World, wp = wr := ⟨_, rfl⟩
    have y7 := hB7.size; (try simp only [zs] at y7)
    by_cases hlt2 : q < c
    ·obtain ⟨⟨x1, x2, x3⟩, hx⟩ : ∃ z, l[q]? = some z := ⟨_, List.getElem?_eq_getElem (by rw [HN.out]; exact hlt2)⟩
     obtain ⟨a, rfl, hab, cx, cx2, cx3, zb1, zb2, zb3⟩ := (HT2.out.keep (.of_below hB7)).at hx
     simp only at cx cx2 cx3 zb1 zb2 zb3
     rw [addr_one] at cx2
     rw [addr_two] at cx3
     have HX := Lib.hid hx
     have k0 : (0 : Int) ≤ (q : Int) := by omega
     have k1 : (q : Int) < (c : Int) := by omega
     have hwbs : wo.heap.size < wp.heap.size := hM.out.lt
     obtain ⟨wx, hwx⟩ : ∃ W, wp.alloc (.cells #[.int .i64 x1, .int .i64 x2, .int .i64 x3] 241) = W := ⟨_, rfl⟩
     have HWX := Lib.hid hwx
     have hbx : Below wp.heap.size wp wx := by rw [← hwx]; exact below1 _ _
     have HBX : Hid (Below w.heap.size w wx) := hB7.trans (hbx.mono (by omega))
     have LX : Hid (Loc wx wp.heap.size 241 #[.int .i64 x1, .int .i64 x2, .int .i64 x3]) := by show Loc _ _ _ _; rw [← hwx]; exact made1 wp _ _
     have HLX : Hid (Loc wx w.heap.size 84 #[.int .i64 (nn : Int), .slice A m cap0]) := Loc.below hL.out hbx
     have HMX : Hid (MapF wx 249 wo.heap.size q k (bvF l q)) := hM.out.below hbx hwbs
     have hwx2 : wo.heap.size < wx.heap.size := HMX.out.lt
     have HSS : Hid (∀ W, Below wx.heap.size wx W → ((W.cell? ⟨wp.heap.size, 0, none⟩ = some (.int .i64 x1) ∧ W.cell? ⟨wp.heap.size, 1, none⟩ = some (.int .i64 x2)) ∧ W.cell? ⟨wp.heap.size, 2, none⟩ = some (.int .i64 x3)) ∧ W.cell? ⟨w.heap.size, 0, none⟩ = some (.int .i64 (nn : Int)) ∧ W.cell? ⟨w.heap.size, 1, none⟩ = some (.slice A m cap0)) := fun W hW => ⟨⟨⟨Loc.cell (Loc.below LX.out hW) 0, Loc.cell (Loc.below LX.out hW) 1⟩, Loc.cell (Loc.below LX.out hW) 2⟩, Loc.cell (Loc.below HLX.out hW) 0, Loc.cell (Loc.below HLX.out hW) 1⟩
     have HBY : Hid (∀ W, Below wx.heap.size wx W → Below w.heap.size w W) := fun W hW => HBX.out.trans (hW.mono (by have := HBX.out.size; omega))
     have HBAD : Hid (¬ GoodB (nn : Int) G (x1, x2, x3) → BeC (nn : Int) L G left l bound 13) := fun hq' => HBADX.out (fun h => hq' (h.1 _ (List.mem_of_getElem? HX.out)))
     have HGD : Hid (GoodB (nn : Int) G (x1, x2, x3) ↔ 0 ≤ x2 ∧ (1 ≤ x1 ∧ x1 ≤ ((p - 1 : Nat) : Int)) ∧ leafG G x1.toNat G.length ≤ x3 ∧ x3 ≤ 1099511627776) := by
      show _ ↔ _
      unfold GoodB
      rw [HPE.out]
     obtain ⟨k', hk'⟩ : ∃ k', (if ((bvF l q) (keyL x1 x2)).isSome then k else k + 1) = k' := ⟨_, rfl⟩
     have HK' := Lib.hid hk'
     clear hx hwx hk' hbx
     go_wp2_with fail
     rw [HWX.out]
     clear cx cx2 cx3
     by_cases z0 : x2 < 0
     ·have HV := Lib.hid (HBAD.out (fun h => by have := (HGD.out.1 h).1; omega))
      have d1 : decide (x2 < 0) = true := decide_eq_true z0
      clear z0
      refine wp_region_noPanic ?_
      refine wp_region_held_drew (S := (fun W => ((W.cell? ⟨wp.heap.size, 0, none⟩ = some (.int .i64 x1) ∧ W.cell? ⟨wp.heap.size, 1, none⟩ = some (.int .i64 x2)) ∧ W.cell? ⟨wp.heap.size, 2, none⟩ = some (.int .i64 x3)) ∧ W.cell? ⟨w.heap.size, 0, none⟩ = some (.int .i64 (nn : Int)) ∧ W.cell? ⟨w.heap.size, 1, none⟩ = some (.slice A m cap0))) (by kernel_rfl) ?_ (fun hHeld => ?_)
      ·exact HSS.out _ ((Below.refl _ _).drew)
      refine takeT 0 hHeld ?_
      (try simp only [Act.put, ly])
      refine takeT 1 hHeld ?_
      (try simp only [Act.put, ly])
      refine takeT 2 hHeld ?_
      (try simp only [Act.put, ly])
      refine takeT 3 hHeld ?_
      (try simp only [Act.put, ly])
      refine offT 4 hHeld ?_
      refine offT 5 hHeld ?_
      refine offT 6 hHeld ?_
      (try simp only [Act.put, ly])
      refine takeT 7 hHeld ?_
      (try simp only [Act.put, ly])
      refine takeT 8 hHeld ?_
      (try simp only [Act.put, ly])
      refine offT 9 hHeld ?_
      refine offT 10 hHeld ?_
      refine offT 11 hHeld ?_
      refine offT 12 hHeld ?_
      refine offT 13 hHeld ?_
      (try simp only [Act.put, ly])
      refine takeT 14 hHeld ?_
      (try simp only [Act.put, ly])
      refine takeT 15 hHeld ?_
      (try simp only [Act.put, ly])
      refine offT 16 hHeld ?_
      refine offT 17 hHeld ?_
      refine offT 18 hHeld ?_
      refine offT 19 hHeld ?_
      refine offT 20 hHeld ?_
      refine offT 21 hHeld ?_
      refine offT 22 hHeld ?_
      (try simp only [Act.put, ly])
      refine takeT 23 hHeld ?_
      (try simp only [Act.put, ly])
      refine takeT 24 hHeld ?_
      (try simp only [Act.put, ly])
      refine offT 25 hHeld ?_
      refine offT 26 hHeld ?_
      refine offT 27 hHeld ?_
      (try simp only [Act.put, ly])
      refine takeT 28 hHeld ?_
      (try simp only [Act.put, ly])
      refine wpAnyH_done (by kernel_rfl) ?_ _
      refine NoPanic.normal ?_
      go_wp2_with fail
      go_ret
      exact ⟨⟨_, rfl, HV⟩, HBY.out _ ((Below.refl _ _).drew)⟩
     have d1 : decide (x2 < 0) = false := decide_eq_false z0
     by_cases z1 : x1 < 1
     ·have HV := Lib.hid (HBAD.out (fun h => by have := (HGD.out.1 h).2.1; omega))
      have d2 : decide (x1 < 1) = true := decide_eq_true z1
      clear z0 z1
      refine wp_region_noPanic ?_
      refine wp_region_held_drew (S := (fun W => ((W.cell? ⟨wp.heap.size, 0, none⟩ = some (.int .i64 x1) ∧ W.cell? ⟨wp.heap.size, 1, none⟩ = some (.int .i64 x2)) ∧ W.cell? ⟨wp.heap.size, 2, none⟩ = some (.int .i64 x3)) ∧ W.cell? ⟨w.heap.size, 0, none⟩ = some (.int .i64 (nn : Int)) ∧ W.cell? ⟨w.heap.size, 1, none⟩ = some (.slice A m cap0))) (by kernel_rfl) ?_ (fun hHeld => ?_)
      ·exact HSS.out _ ((Below.refl _ _).drew)
      refine takeT 0 hHeld ?_
      (try simp only [Act.put, ly])
      refine takeT 1 hHeld ?_
      (try simp only [Act.put, ly])
      refine takeT 2 hHeld ?_
      (try simp only [Act.put, ly])
      refine takeT 3 hHeld ?_
      (try simp only [Act.put, ly])
      refine takeT 4 hHeld ?_
      (try simp only [Act.put, ly])
      refine takeT 5 hHeld ?_
      (try simp only [Act.put, ly])
      refine takeT 6 hHeld ?_
      (try simp only [Act.put, ly])
      refine takeT 7 hHeld ?_
      (try simp only [Act.put, ly])
      refine takeT 8 hHeld ?_
      (try simp only [Act.put, ly])
      refine offT 9 hHeld ?_
      refine offT 10 hHeld ?_
      refine offT 11 hHeld ?_
      refine offT 12 hHeld ?_
      refine offT 13 hHeld ?_
      (try simp only [Act.put, ly])
      refine takeT 14 hHeld ?_
      (try simp only [Act.put, ly])
      refine takeT 15 hHeld ?_
      (try simp only [Act.put, ly])
      refine offT 16 hHeld ?_
      refine offT 17 hHeld ?_
      refine offT 18 hHeld ?_
      refine offT 19 hHeld ?_
      refine offT 20 hHeld ?_
      refine offT 21 hHeld ?_
      refine offT 22 hHeld ?_
      (try simp only [Act.put, ly])
      refine takeT 23 hHeld ?_
      (try simp only [Act.put, ly])
      refine takeT 24 hHeld ?_
      (try simp only [Act.put, ly])
      refine offT 25 hHeld ?_
      refine offT 26 hHeld ?_
      refine offT 27 hHeld ?_
      (try simp only [Act.put, ly])
      refine takeT 28 hHeld ?_
      (try simp only [Act.put, ly])
      refine wpAnyH_done (by kernel_rfl) ?_ _
      refine NoPanic.normal ?_
      go_wp2_with fail
      go_ret
      exact ⟨⟨_, rfl, HV⟩, HBY.out _ ((Below.refl _ _).drew)⟩
     have d2 : decide (x1 < 1) = false := decide_eq_false z1
     by_cases z2 : ((p - 1 : Nat) : Int) < x1
     ·have HV := Lib.hid (HBAD.out (fun h => by have := (HGD.out.1 h).2.1; omega))
      have d3 : decide (((p - 1 : Nat) : Int) < x1) = true := decide_eq_true z2
      clear z0 z1 z2
      refine wp_region_noPanic ?_
      refine wp_region_held_drew (S := (fun W => ((W.cell? ⟨wp.heap.size, 0, none⟩ = some (.int .i64 x1) ∧ W.cell? ⟨wp.heap.size, 1, none⟩ = some (.int .i64 x2)) ∧ W.cell? ⟨wp.heap.size, 2, none⟩ = some (.int .i64 x3)) ∧ W.cell? ⟨w.heap.size, 0, none⟩ = some (.int .i64 (nn : Int)) ∧ W.cell? ⟨w.heap.size, 1, none⟩ = some (.slice A m cap0))) (by kernel_rfl) ?_ (fun hHeld => ?_)
      ·exact HSS.out _ ((Below.refl _ _).drew)
      refine takeT 0 hHeld ?_
      (try simp only [Act.put, ly])
      refine takeT 1 hHeld ?_
      (try simp only [Act.put, ly])
      refine takeT 2 hHeld ?_
      (try simp only [Act.put, ly])
      refine takeT 3 hHeld ?_
      (try simp only [Act.put, ly])
      refine takeT 4 hHeld ?_
      (try simp only [Act.put, ly])
      refine takeT 5 hHeld ?_
      (try simp only [Act.put, ly])
      refine takeT 6 hHeld ?_
      (try simp only [Act.put, ly])
      refine takeT 7 hHeld ?_
      (try simp only [Act.put, ly])
      refine takeT 8 hHeld ?_
      (try simp only [Act.put, ly])
      refine takeT 9 hHeld ?_
      (try simp only [Act.put, ly])
      refine takeT 10 hHeld ?_
      (try simp only [Act.put, ly])
      refine takeT 11 hHeld ?_
      (try simp only [Act.put, ly])
      refine wpAnyH_ready (rs := [12]) (by kernel_rfl) (by simp) ?_
      refine AllReadyH.cons rfl (fun K hK => ?_) AllReadyH.nil
      go_simp
      refine (everything_any _ nn _ hnn ⟨_, _, _, rfl⟩).mono ?_
      rintro e w6 ⟨he, hb6⟩
      rw [HEV.out] at he
      subst he
      have hb6 : Below wx.heap.size wx w6 := ((Below.refl _ _).drew).trans hb6
      have y6 := hb6.size; (try simp only [zs] at y6)
      have HBW := Lib.hid hb6
      (try go_wp2_with fail)
      refine hK.out _ _ ?_ (fun hHeld => ?_)
      ·(try dsimp only)
       exact HSS.out _ hb6
      clear hK K
      (try simp only [Act.put, ly])
      refine takeT 13 hHeld ?_
      (try simp only [Act.put, ly])
      refine takeT 14 hHeld ?_
      (try simp only [Act.put, ly])
      refine takeT 15 hHeld ?_
      (try simp only [Act.put, ly])
      refine offT 16 hHeld ?_
      refine offT 17 hHeld ?_
      refine offT 18 hHeld ?_
      refine offT 19 hHeld ?_
      refine offT 20 hHeld ?_
      refine offT 21 hHeld ?_
      refine offT 22 hHeld ?_
      (try simp only [Act.put, ly])
      refine takeT 23 hHeld ?_
      (try simp only [Act.put, ly])
      refine takeT 24 hHeld ?_
      (try simp only [Act.put, ly])
      refine offT 25 hHeld ?_
      refine offT 26 hHeld ?_
      refine offT 27 hHeld ?_
      (try simp only [Act.put, ly])
      refine takeT 28 hHeld ?_
      (try simp only [Act.put, ly])
      refine wpAnyH_done (by kernel_rfl) ?_ _
      refine NoPanic.normal ?_
      go_wp2_with fail
      go_ret
      exact ⟨⟨_, rfl, HV⟩, HBY.out _ HBW.out⟩
     have d3 : decide (((p - 1 : Nat) : Int) < x1) = false := decide_eq_false z2
     have z9 : 0 ≤ x2 ∧ 1 ≤ x1 ∧ x1 ≤ ((p - 1 : Nat) : Int) := by omega
     have HZ9 := Lib.hid z9
     obtain ⟨S, rfl⟩ : ∃ S : Nat, x1 = (S : Int) := ⟨x1.toNat, by omega⟩
     have hSb : S < 4611686018427387904 := by omega
     have d2n : ¬ (S : Int) < 1 := by omega
     have d2' : decide (S < 1) = false := decide_eq_false (by omega)
     have d3n : ¬ p - 1 < S := by omega
     have d3' : decide (p - 1 < S) = false := decide_eq_false (by omega)
     obtain ⟨lf, hlf⟩ : ∃ lf, leafG G S G.length = lf := ⟨_, rfl⟩
     have HLF := Lib.hid hlf
     clear z0 z1 z2 z9 hlf
     refine wp_region_noPanic ?_
     refine wp_region_held_drew (S := (fun W => ((W.cell? ⟨wp.heap.size, 0, none⟩ = some (.int .i64 (S : Int)) ∧ W.cell? ⟨wp.heap.size, 1, none⟩ = some (.int .i64 x2)) ∧ W.cell? ⟨wp.heap.size, 2, none⟩ = some (.int .i64 x3)) ∧ W.cell? ⟨w.heap.size, 0, none⟩ = some (.int .i64 (nn : Int)) ∧ W.cell? ⟨w.heap.size, 1, none⟩ = some (.slice A m cap0))) (by kernel_rfl) ?_ (fun hHeld => ?_)
     ·exact HSS.out _ ((Below.refl _ _).drew)
     refine takeT 0 hHeld ?_
     (try simp only [Act.put, ly])
     refine takeT 1 hHeld ?_
     (try simp only [Act.put, ly])
     refine takeT 2 hHeld ?_
     (try simp only [Act.put, ly])
     refine takeT 3 hHeld ?_
     (try simp only [Act.put, ly])
     refine takeT 4 hHeld ?_
     (try simp only [Act.put, ly])
     refine takeT 5 hHeld ?_
     (try simp only [Act.put, ly])
     refine takeT 6 hHeld ?_
     (try simp only [Act.put, ly])
     refine takeT 7 hHeld ?_
     (try simp only [Act.put, ly])
     refine takeT 8 hHeld ?_
     (try simp only [Act.put, ly])
     refine takeT 9 hHeld ?_
     (try simp only [Act.put, ly])
     refine takeT 10 hHeld ?_
     (try simp only [Act.put, ly])
     refine takeT 11 hHeld ?_
     (try simp only [Act.put, ly])
     refine wpAnyH_ready (rs := [12]) (by kernel_rfl) (by simp) ?_
     refine AllReadyH.cons rfl (fun K hK => ?_) AllReadyH.nil
     go_simp
     refine (everything_any _ nn _ hnn ⟨_, _, _, rfl⟩).mono ?_
     rintro e w6 ⟨he, hb6⟩
     rw [HEV.out] at he
     subst he
     have hb6 : Below wx.heap.size wx w6 := ((Below.refl _ _).drew).trans hb6
     have y6 := hb6.size; (try simp only [zs] at y6)
     have HBW := Lib.hid hb6
     (try go_wp2_with fail)
     refine hK.out _ _ ?_ (fun hHeld => ?_)
     ·(try dsimp only)
      exact HSS.out _ hb6
     clear hK K
     (try simp only [Act.put, ly])
     refine takeT 13 hHeld ?_
     (try simp only [Act.put, ly])
     refine takeT 14 hHeld ?_
     (try simp only [Act.put, ly])
     refine takeT 15 hHeld ?_
     (try simp only [Act.put, ly])
     refine takeT 16 hHeld ?_
     (try simp only [Act.put, ly])
     refine takeT 17 hHeld ?_
     (try simp only [Act.put, ly])
     refine takeT 18 hHeld ?_
     (try simp only [Act.put, ly])
     refine takeT 19 hHeld ?_
     (try simp only [Act.put, ly])
     refine takeT 20 hHeld ?_
     (try simp only [Act.put, ly])
     refine wpAnyH_ready (rs := [21]) (by kernel_rfl) (by simp) ?_
     refine AllReadyH.cons rfl (fun K hK => ?_) AllReadyH.nil
     go_simp
     refine (aleaf_any _ (nn : Int) _ G S (HG2.out.keep (.of_below (HBY.out _ hb6))) HGN.out (by omega) hSb).mono ?_
     rintro e w8 ⟨he, hb8z⟩
     rw [HLF.out] at he
     subst he
     clear HBW
     have hb8z : Below wx.heap.size wx w8 := hb6.trans (hb8z.mono (by omega))
     have y9 := hb8z.size; (try simp only [zs] at y9)
     have HBW := Lib.hid hb8z
     (try go_wp2_with fail)
     refine hK.out _ _ ?_ (fun hHeld => ?_)
     ·(try dsimp only)
      exact HSS.out _ hb8z
     clear hK K
     (try simp only [Act.put, ly])
     by_cases z4 : x3 < lf
     ·have HV := Lib.hid (HBAD.out (fun h => by have h9 := (HGD.out.1 h).2.2.1; rw [Int.toNat_natCast, HLF.out] at h9; omega))
      have d5 : decide (x3 < lf) = true := decide_eq_true z4
      clear z4
      refine takeT 22 hHeld ?_
      (try simp only [Act.put, ly])
      refine takeT 23 hHeld ?_
      (try simp only [Act.put, ly])
      refine takeT 24 hHeld ?_
      (try simp only [Act.put, ly])
      refine offT 25 hHeld ?_
      refine offT 26 hHeld ?_
      refine offT 27 hHeld ?_
      (try simp only [Act.put, ly])
      refine takeT 28 hHeld ?_
      (try simp only [Act.put, ly])
      refine wpAnyH_done (by kernel_rfl) ?_ _
      refine NoPanic.normal ?_
      go_wp2_with fail
      go_ret
      exact ⟨⟨_, rfl, HV⟩, HBY.out _ HBW.out⟩
     have d5 : decide (x3 < lf) = false := decide_eq_false z4
     by_cases z5 : 1099511627776 < x3
     ·have HV := Lib.hid (HBAD.out (fun h => by have h9 := (HGD.out.1 h).2.2.2; omega))
      have d6 : decide (1099511627776 < x3) = true := decide_eq_true z5
      clear z4 z5
      refine takeT 22 hHeld ?_
      (try simp only [Act.put, ly])
      refine takeT 23 hHeld ?_
      (try simp only [Act.put, ly])
      refine takeT 24 hHeld ?_
      (try simp only [Act.put, ly])
      refine takeT 25 hHeld ?_
      (try simp only [Act.put, ly])
      refine takeT 26 hHeld ?_
      (try simp only [Act.put, ly])
      refine takeT 27 hHeld ?_
      (try simp only [Act.put, ly])
      refine takeT 28 hHeld ?_
      (try simp only [Act.put, ly])
      refine wpAnyH_done (by kernel_rfl) ?_ _
      refine NoPanic.normal ?_
      go_wp2_with fail
      go_ret
      exact ⟨⟨_, rfl, HV⟩, HBY.out _ HBW.out⟩
     have d6 : decide (1099511627776 < x3) = false := decide_eq_false z5
     have HGDX : Hid (GoodB (nn : Int) G ((S : Int), x2, x3)) := HGD.out.2 ⟨HZ9.out.1, HZ9.out.2, by rw [Int.toNat_natCast, HLF.out]; omega, by omega⟩
     clear z4 z5
     refine takeT 22 hHeld ?_
     (try simp only [Act.put, ly])
     refine takeT 23 hHeld ?_
     (try simp only [Act.put, ly])
     refine takeT 24 hHeld ?_
     (try simp only [Act.put, ly])
     refine takeT 25 hHeld ?_
     (try simp only [Act.put, ly])
     refine takeT 26 hHeld ?_
     (try simp only [Act.put, ly])
     refine takeT 27 hHeld ?_
     (try simp only [Act.put, ly])
     refine takeT 28 hHeld ?_
     (try simp only [Act.put, ly])
     refine wpAnyH_done (by kernel_rfl) ?_ _
     refine NoPanic.normal ?_
     obtain ⟨⟨⟨g0, g1⟩, g2⟩, -⟩ := HSS.out _ hb8z
     have HM6 : Hid (MapF w8 249 wo.heap.size q k (bvF l q)) := HMX.out.below hb8z hwx2
     have HL6 : Hid (Loc w8 w.heap.size 84 #[.int .i64 (nn : Int), .slice A m cap0]) := Loc.below HLX.out hb8z
     have HB6 : Hid (Below w.heap.size w w8) := HBY.out _ hb8z
     go_wp2_with (at_mapUpdate; refine wpList_putF _ rfl _ _ _ rfl keyed_pair Tryz.underlying247 rfl HM6.out (by omega) (.agg #[.int .i64 (S : Int), .int .i64 x2]) (keyL (S : Int) x2) x3 rfl rfl (key_pair zb1 zb2) zb3 k' HK'.out ?_)
     intro w7 hM7 hg7
     have y10 := hg7.size
     have HM7 : Hid (MapF w7 249 wo.heap.size (q + 1) k' (bvF l (q + 1))) := by show MapF _ _ _ _ _ _; rw [bvF_next HX.out]; exact hM7
     have HL7 : Hid (Loc w7 w.heap.size 84 #[.int .i64 (nn : Int), .slice A m cap0]) := loc_grown HL6.out hg7 (fun e => by injection e with e; omega)
     have HB7 : Hid (Below w.heap.size w w7) := HB6.out.grown hg7 HB6.out.size (fun z hz => by injection hz with hz; omega)
     have HR7 : Hid (∀ (i : Nat) (x : Int × Int × Int), i < q + 1 → l[i]? = some x → GoodB (nn : Int) G x) := fun i x hi hx => by
      by_cases e : i < q
      ·exact hR.out i x e hx
      ·obtain rfl : i = q := by omega
       rw [HX.out] at hx
       injection hx with hx
       subst hx
       exact HGDX.out
     clear hM7 hg7 g0 g1 g2
     go_wp2_with fail
     go_roundw
     case rel => exact ⟨q + 1, k', by omega, by go_num, HM7, HR7, HL7, HB7.out⟩
     case measure => simp only [intOf]; omega
    ·obtain rfl : q = c := by omega
     have HGOOD : Hid (∀ x ∈ l, GoodB (nn : Int) G x) := fun x hx => by
      obtain ⟨i, hi, rfl⟩ := List.getElem_of_mem hx
      exact hR.out i _ (by rw [← HN.out]; exact hi) (List.getElem?_eq_getElem hi)
     have HF : Hid (∀ kl d, bvF l q kl = some d → 0 ≤ d ∧ d ≤ 1099511627776) := bvF_range q (fun i x hi hx => by
      have h9 := hR.out i x hi hx
      have h8 := leafG_pos G x.1.toNat G.length
      have := h9.2.2
      omega)
     have hwbs : wo.heap.size < wp.heap.size := hM.out.lt
     have hnq : ¬ (q : Int) < (q : Int) := by omega
     clear hR
     go_wp2_with fail
     clear hnq
     go_loopw [98] (fun i wr => ∃ (t : Nat), t ≤ q ∧ i = .int .i64 t ∧ Hid (MapF wr 249 wo.heap.size q k (bvF l q)) ∧ Hid (∀ (i : Nat) (x : Int × Int × Int), i < t → l[i]? = some x → 0 < x.2.1 → BndP L x.1.toNat x.2.1 x.2.2 (bvF l q)) ∧ Hid (Loc wr w.heap.size 84 #[.int .i64 (nn : Int), .slice A m cap0]) ∧ Below w.heap.size w wr) (fun i _ => q - (intOf i).toNat)
     case atStart => exact ⟨0, by omega, rfl, hM, Lib.hid (fun i x hi => absurd hi (by omega)), hL, hB7⟩
     case round =>
      clear hM hL hB7
      obtain ⟨t, ht, rfl, hM, hG, hL, hB8⟩ := hrel
      obtain ⟨wq, rfl⟩ : ∃ wq : World, wq = wr := ⟨_, rfl⟩
      have y8 := hB8.size; (try simp only [zs] at y8)
      have hwbq : wo.heap.size < wq.heap.size := hM.out.lt
      by_cases hlt3 : t < q
      ·obtain ⟨⟨x1, x2, x3⟩, hx⟩ : ∃ z, l[t]? = some z := ⟨_, List.getElem?_eq_getElem (by rw [HN.out]; exact hlt3)⟩
       have HX := Lib.hid hx
       have hxr := HGOOD.out (x1, x2, x3) (List.mem_of_getElem? hx)
       unfold GoodB at hxr
       rw [HPE.out] at hxr
       simp only at hxr
       obtain ⟨S, rfl⟩ : ∃ S : Nat, x1 = (S : Int) := ⟨x1.toNat, by omega⟩
       have hSb : S < 4611686018427387904 := by omega
       have hx2 : 0 ≤ x2 := hxr.1
       obtain ⟨a, rfl, hab, cx, cx2, cx3, zb1, zb2, zb3⟩ := (HT2.out.keep (.of_below hB8)).at hx
       simp only at cx cx2 cx3 zb1 zb2 zb3
       rw [addr_one] at cx2
       rw [addr_two] at cx3
       have k0 : (0 : Int) ≤ (t : Int) := by omega
       have k1 : (t : Int) < (q : Int) := by omega
       obtain ⟨wx, hwx⟩ : ∃ W, wq.alloc (.cells #[.int .i64 (S : Int), .int .i64 x2, .int .i64 x3] 241) = W := ⟨_, rfl⟩
       have HWX := Lib.hid hwx
       have hbx : Below wq.heap.size wq wx := by rw [← hwx]; exact below1 _ _
       have HBX : Hid (Below w.heap.size w wx) := hB8.trans (hbx.mono (by omega))
       have HLX : Hid (Loc wx w.heap.size 84 #[.int .i64 (nn : Int), .slice A m cap0]) := Loc.below hL.out hbx
       have HMX : Hid (MapF wx 249 wo.heap.size q k (bvF l q)) := hM.out.below hbx hwbq
       have hwx2 : wo.heap.size < wx.heap.size := HMX.out.lt
       have hwx4 : w.heap.size ≤ wx.heap.size := HBX.out.size
       have HNEXT : Hid ((0 < x2 → BndP L S x2 x3 (bvF l q)) → ∀ (i : Nat) (x : Int × Int × Int), i < t + 1 → l[i]? = some x → 0 < x.2.1 → BndP L x.1.toNat x.2.1 x.2.2 (bvF l q)) := fun hh i x hi hx' h0 => by
        by_cases e : i < t
        ·exact hG.out i x e hx' h0
        ·obtain rfl : i = t := by omega
         rw [HX.out] at hx'
         injection hx' with hx'
         subst hx'
         simp only [Int.toNat_natCast] at h0 ⊢
         exact hh h0
       have HBAD : Hid (0 < x2 → ¬ BndP L S x2 x3 (bvF l q) → BeC (nn : Int) L G left l bound 13) := fun h0 hq' => HBADX.out (fun h => hq' (by
        have h9 := h.2.1 _ (List.mem_of_getElem? HX.out)
        rw [HN.out] at h9
        simp only [Int.toNat_natCast] at h9
        exact h9 h0))
       clear hx hwx hxr hbx
       have hL9 := hL.out.alloc (.cells #[.int .i64 (S : Int), .int .i64 x2, .int .i64 x3] 241)
       have e1 := Loc.cell hL9 0
       have e2 := Loc.cell hL9 1
       simp only [List.getElem?_toArray, List.getElem?_cons_zero, List.getElem?_cons_succ] at e1 e2
       by_cases x0 : 0 < x2
       case neg =>
        have d1 : decide (0 < x2) = false := decide_eq_false x0
        have HNX := Lib.hid (HNEXT.out (fun h0 => absurd h0 x0))
        clear x0
        go_wp2_with fail
        rw [HWX.out]
        go_roundw
        case rel => exact ⟨t + 1, by omega, by go_num, HMX, HNX, HLX, HBX.out⟩
        case measure => simp only [intOf]; omega
       have d1 : decide (0 < x2) = true := decide_eq_true x0
       go_wp2_with fail
       rw [HWX.out]
       refine (bounded_any _ (nn : Int) _ L S x2 x3 wo.heap.size q k (bvF l q) (H2.out.keep (.of_below HBX.out)) HMN.out HMX.out hSb ⟨x0, zb2.2⟩ HF.out).mono ?_
       rintro e w9 ⟨⟨b9, rfl, hb9⟩, hbz⟩
       have y9 := hbz.size; (try simp only [zs] at y9)
       have HL9 : Hid (Loc w9 w.heap.size 84 #[.int .i64 (nn : Int), .slice A m cap0]) := Loc.below HLX.out hbz
       have HM9 : Hid (MapF w9 249 wo.heap.size q k (bvF l q)) := HMX.out.below hbz hwx2
       have HB9 : Hid (Below w.heap.size w w9) := HBX.out.trans (hbz.mono hwx4)
       cases b9
       ·have HV := Lib.hid (HBAD.out x0 (fun h => by have := hb9.out.2 h; cases this))
        clear hb9
        go_wp2_with fail
        go_ret
        exact ⟨⟨_, rfl, HV⟩, HB9.out⟩
       ·have HNX := Lib.hid (HNEXT.out (fun _ => hb9.out.1 rfl))
        clear hb9 x0
        go_wp2_with fail
        go_roundw
        case rel => exact ⟨t + 1, by omega, by go_num, HM9, HNX, HL9, HB9.out⟩
        case measure => simp only [intOf]; omega
      ·obtain rfl : t = q := by omega
       have HBNX : Hid (∀ x ∈ l, 0 < x.2.1 → BndP L x.1.toNat x.2.1 x.2.2 (bvF l l.length)) := fun x hx h0 => by
        obtain ⟨i, hi, rfl⟩ := List.getElem_of_mem hx
        rw [HN.out]
        exact hG.out i _ (by rw [← HN.out]; exact hi) (List.getElem?_eq_getElem hi) h0
       obtain ⟨e1, f1, -⟩ := Loc.all hL.out (w' := wq)
       have hnq : ¬ (t : Int) < (t : Int) := by omega
       go_wp2_with fail
       refine (everything_any _ nn _ hnn ⟨_, _, _, rfl⟩).mono ?_
       rintro e w6 ⟨he, hb6⟩
       rw [HEV.out] at he
       subst he
       have y6 := hb6.size; (try simp only [zs] at y6)
       have HB6 : Hid (Below w.heap.size w w6) := hB8.trans (hb6.mono y8)
       have HM6 : Hid (MapF w6 249 wo.heap.size t k (bvF l t)) := hM.out.below hb6 hwbq
       have hrun := HM6.out.look keyed_pair Tryz.underlying247 (key_pair (a := ((p - 1 : Nat) : Int)) (b := left) (by omega) (by omega))
       obtain ⟨o, ho⟩ : ∃ o, bvF l t (keyL ((p - 1 : Nat) : Int) left) = o := ⟨_, rfl⟩
       have HTOP : Hid (TopB (nn : Int) left (bvF l l.length) bound ↔ (∃ d, o = some d ∧ d ≤ bound)) := by
        show _ ↔ _
        unfold TopB
        rw [HPE.out, HN.out, ho]
       rw [ho] at hrun
       have HBAD : Hid (¬ (∃ d, o = some d ∧ d ≤ bound) → BeC (nn : Int) L G left l bound 13) := fun h => HBADX.out (fun h' => h (HTOP.out.1 h'.2.2))
       have HOK : Hid ((∃ d, o = some d ∧ d ≤ bound) → BeC (nn : Int) L G left l bound 0) := fun h => HOKX.out ⟨HGOOD.out, HBNX.out, HTOP.out.2 h⟩
       clear ho e1 f1
       cases o with
       | none =>
         have hr2 : (Instr.lookup 247 (.map (some wo.heap.size)) (.agg #[.int .i64 ((p - 1 : Nat) : Int), .int .i64 left]) true).run Tryz.prog w6 = .ok (.tuple #[.int .i64 0, .bool false]) w6 := hrun
         have HV := Lib.hid (HBAD.out (fun h => by obtain ⟨d, h1, -⟩ := h; cases h1))
         clear hrun
         go_wp2_with fail
         go_ret
         exact ⟨⟨_, rfl, HV⟩, HB6.out⟩
       | some d =>
         have hr2 : (Instr.lookup 247 (.map (some wo.heap.size)) (.agg #[.int .i64 ((p - 1 : Nat) : Int), .int .i64 left]) true).run Tryz.prog w6 = .ok (.tuple #[.int .i64 d, .bool true]) w6 := hrun
         clear hrun
         by_cases z0 : bound < d
         ·have HV := Lib.hid (HBAD.out (fun h => by obtain ⟨d', h1, h2⟩ := h; injection h1 with h1; omega))
          have d1 : decide (bound < d) = true := decide_eq_true z0
          clear z0
          go_wp2_with fail
          go_ret
          exact ⟨⟨_, rfl, HV⟩, HB6.out⟩
         ·have HV := Lib.hid (HOK.out ⟨d, rfl, by omega⟩)
          have d1 : decide (bound < d) = false := decide_eq_false z0
          clear z0
          go_wp2_with fail
          go_ret
          exact ⟨⟨_, rfl, HV⟩, HB6.out⟩
end Go.Proofs.YtbdcjhoedhhabaaGreat

