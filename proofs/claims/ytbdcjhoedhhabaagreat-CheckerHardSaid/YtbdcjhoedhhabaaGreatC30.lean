/- Contracts of the functions that the statements reach, part 30. -/
import Derived.Test.YtbdcjhoedhhabaaGreatRows
import Derived.Test.YtbdcjhoedhhabaaGreatC29
set_option linter.unusedSimpArgs false
set_option linter.unusedVariables false

/- adaptive.ProveLeast. Printed by gen_hd13.py. -/
namespace Go.Proofs.YtbdcjhoedhhabaaGreat
open Go.RowKit
attribute [local go_sem ↓] Go.wp_at_zero Go.wp_at_succ

set_option maxRecDepth 100000 in
set_option maxHeartbeats 16000000 in
theorem proveleast_any (w : World) (ns : Int) (vm vt : Value) (L : List (List Int)) (l : List (Int × Int)) (depth : Int) (h : IMat w vm L) (ht : Tims w vt l) :
 Calls Tryz.prog 43 #[.agg #[.int .i64 ns, vm], vt, .int .i64 depth] w fun e w' => (∃ r : Int, e = .returned (.int .i64 r) ∧ Hid (HdCode ns L l depth r)) ∧ Below w.heap.size w w' := by
 have H := Lib.hid h
 have HT := Lib.hid ht
 obtain ⟨A, cap0, rfl, h, l1, l2⟩ := h.op
 obtain ⟨B, cap1, rfl, ht, l3, l4⟩ := ht.op
 clear h ht
 obtain ⟨m, hml⟩ : ∃ m, L.length = m := ⟨_, rfl⟩
 have HM := Lib.hid hml
 have H2 : Hid (IMat w (.slice A m cap0) L) := by have h9 := H.out; rw [hml] at h9; exact h9
 obtain ⟨n, hn⟩ : ∃ n, l.length = n := ⟨_, rfl⟩
 have HN := Lib.hid hn
 have HT2 : Hid (Tims w (.slice B n cap1) l) := by have h9 := HT.out; rw [hn] at h9; exact h9
 rw [hml, hn]
 rw [hml] at l1
 rw [hn] at l3
 clear hml hn H HT
 have L1 := made1 w #[.int .i64 ns, .slice A m cap0] 84
 go_enter Tryz.func43, Tryz.ntmps43
 go_wp2_with fail
 refine (checkmenu_any _ ns _ L (H2.out.keep kp)).mono ?_
 rintro e w1 ⟨⟨r, rfl, hr⟩, hb1⟩
 have y1 := hb1.size; (try simp only [zs] at y1)
 by_cases hmn : MenuOk ns L
 case neg =>
  obtain rfl : r = 1 := hr.out.2 hmn
  have HV := Lib.hid (HdCode.one (l := l) (depth := depth) hmn)
  clear hr hmn
  go_wp2_with fail
  go_ret
  exact ⟨⟨_, rfl, HV⟩, bel⟩
 obtain rfl : r = 0 := hr.out.1 hmn
 have HMN := Lib.hid hmn
 clear hr hmn
 have hns := HMN.out.1
 obtain ⟨nn, rfl⟩ : ∃ nn : Nat, ns = (nn : Int) := ⟨ns.toNat, by omega⟩
 have hnn : nn ≤ 62 := by omega
 have hm8 : m ≤ 8 := by have := HMN.out.2.1; have := HM.out; omega
 clear hns
 by_cases h0 : 4096 < n
 ·have HV := Lib.hid (HdCode.four (l := l) (depth := depth) HMN.out (by rw [HN.out]; exact h0))
  have d1 : decide ((4096 : Int) < (n : Int)) = true := decide_eq_true (by omega)
  have d1' : decide (4096 < n) = true := decide_eq_true h0
  clear h0
  go_wp2_with fail
  go_ret
  exact ⟨⟨_, rfl, HV⟩, bel⟩
 have d1 : decide ((4096 : Int) < (n : Int)) = false := decide_eq_false (by omega)
 have d1' : decide (4096 < n) = false := decide_eq_false h0
 have HN4 : Hid (¬ 4096 < l.length) := by show ¬ _; rw [HN.out]; exact h0
 have hn4 : n ≤ 4096 := by omega
 have HL1 : Hid (Loc w1 w.heap.size 84 #[.int .i64 (nn : Int), .slice A m cap0]) := by show Loc _ _ _ _; exact L1.to
 have HB1 : Hid (Below w.heap.size w w1) := by show Below _ _ _; exact bel
 have hbw : w.heap.size < w1.heap.size := Loc.lt HL1.out
 have hmk := run_makeMap (P := Tryz.prog) 186 w1
 have HM0 : Hid (MapF (w1.alloc (.map #[] 0)) 3 w1.heap.size 0 0 (knF l 0)) := MapF.made w1 3
 have HL0 : Hid (Loc (w1.alloc (.map #[] 0)) w.heap.size 84 #[.int .i64 (nn : Int), .slice A m cap0]) := HL1.out.alloc _
 have HB0 : Hid (Below w.heap.size w (w1.alloc (.map #[] 0))) := HB1.out.alloc (by omega) _
 clear h0 L1
 go_wp2_with fail
 clear d1 d1' hmk
 go_loopw [24] (fun i wr => ∃ (c k : Nat), c ≤ n ∧ i = .int .i64 c ∧ Hid (MapF wr 3 w1.heap.size c k (knF l c)) ∧ Hid (AscTo l c) ∧ Hid (Loc wr w.heap.size 84 #[.int .i64 (nn : Int), .slice A m cap0]) ∧ Below w.heap.size w wr) (fun i _ => n - (intOf i).toNat)
 case atStart => exact ⟨0, 0, by omega, rfl, HM0, Lib.hid (fun i x y hi => absurd hi (by omega)), HL0, HB0.out⟩
 case round =>
  clear HL1 HB1 HM0 HL0 HB0 hb1
  obtain ⟨c, k, hc, rfl, hM, hA, hL, hB⟩ := hrel
  obtain ⟨wp, rfl⟩ : ∃ wp : World, wp = wr := ⟨_, rfl⟩
  have y7 := hB.size; (try simp only [zs] at y7)
  have hwbs : w1.heap.size < wp.heap.size := hM.out.lt
  by_cases hlt : c < n
  ·obtain ⟨⟨x1, x2⟩, hx⟩ : ∃ z, l[c]? = some z := ⟨_, List.getElem?_eq_getElem (by rw [HN.out]; exact hlt)⟩
   obtain ⟨a, rfl, hab, cx, cx2, zb1, zb2⟩ := (HT2.out.keep (.of_below hB)).at hx
   simp only at cx cx2 zb1 zb2
   rw [addr_one] at cx2
   have HX := Lib.hid hx
   have k0 : (0 : Int) ≤ (c : Int) := by omega
   have k1 : (c : Int) < (n : Int) := by omega
   obtain ⟨wx, hwx⟩ : ∃ W, wp.alloc (.cells #[.int .i64 x1, .int .i64 x2] 222) = W := ⟨_, rfl⟩
   have HWX := Lib.hid hwx
   have hbx : Below wp.heap.size wp wx := by rw [← hwx]; exact below1 _ _
   have HBX : Hid (Below w.heap.size w wx) := hB.trans (hbx.mono (by omega))
   have LX : Loc wx wp.heap.size 222 #[.int .i64 x1, .int .i64 x2] := by rw [← hwx]; exact made1 wp _ _
   have HLX : Hid (Loc wx w.heap.size 84 #[.int .i64 (nn : Int), .slice A m cap0]) := Loc.below hL.out hbx
   have HMX : Hid (MapF wx 3 w1.heap.size c k (knF l c)) := hM.out.below hbx hwbs
   have HCX : Hid (wx.cell? ⟨wp.heap.size, 0, none⟩ = some (.int .i64 x1) ∧ wx.cell? ⟨wp.heap.size, 1, none⟩ = some (.int .i64 x2)) := ⟨Loc.cell LX 0, Loc.cell LX 1⟩
   obtain ⟨k', hk'⟩ : ∃ k', (if ((knF l c) (.int .i64 x1)).isSome then k else k + 1) = k' := ⟨_, rfl⟩
   have HK' := Lib.hid hk'
   clear hx hwx LX hk'
   by_cases z0 : c = 0
   ·have HNX : Hid (AscTo l (c + 1)) := fun i x y hi => absurd hi (by omega)
    have d1 : decide ((0 : Int) < (c : Int)) = false := decide_eq_false (by omega)
    have d1' : decide (0 < c) = false := decide_eq_false (by omega)
    clear z0
    go_wp2_with fail
    rw [HWX.out]
    refine wp_region_noPanic ?_
    refine wp_region_held_drew (S := (fun W => W.cell? ⟨wp.heap.size, 0, none⟩ = some (.int .i64 x1))) (by kernel_rfl) ?_ (fun hHeld => ?_)
    ·exact HCX.out.1
    refine takeT 0 hHeld ?_
    (try simp only [Act.put, ly])
    refine takeT 1 hHeld ?_
    (try simp only [Act.put, ly])
    refine takeT 2 hHeld ?_
    (try simp only [Act.put, ly])
    refine offT 3 hHeld ?_
    refine offT 4 hHeld ?_
    refine offT 5 hHeld ?_
    refine offT 6 hHeld ?_
    refine offT 7 hHeld ?_
    refine offT 8 hHeld ?_
    refine offT 9 hHeld ?_
    refine offT 10 hHeld ?_
    refine offT 11 hHeld ?_
    (try simp only [Act.put, ly])
    refine takeT 12 hHeld ?_
    (try simp only [Act.put, ly])
    refine wpAnyH_done (by kernel_rfl) ?_ _
    refine NoPanic.normal ?_
    obtain ⟨g0, g1⟩ := HCX.out
    go_wp2_with (at_mapUpdate; refine wpList_putF _ rfl _ _ _ rfl keyed_int Tryz.underlying186 rfl HMX.out.drew (by omega) (.int .i64 x1) (.int .i64 x1) x2 rfl rfl (key_int zb1) zb2 k' HK'.out ?_)
    intro w7 hM7 hg7
    have y9 := hg7.size
    have HM7 : Hid (MapF w7 3 w1.heap.size (c + 1) k' (knF l (c + 1))) := by show MapF _ _ _ _ _ _; rw [knF_next HX.out]; exact hM7
    have HL7 : Hid (Loc w7 w.heap.size 84 #[.int .i64 (nn : Int), .slice A m cap0]) := loc_grown (w := wx.drew) HLX.out hg7 (fun e => by injection e with e; omega)
    have HB7 : Hid (Below w.heap.size w w7) := (HBX.out.drew).grown hg7 (by have := HBX.out.size; exact this) (fun z hz => by injection hz with hz; omega)
    clear hM7 hg7 g0 g1
    go_wp2_with fail
    go_roundw
    case rel => exact ⟨c + 1, k', by omega, by go_num, HM7, HNX, HL7, HB7.out⟩
    case measure => simp only [intOf]; omega
   have d1 : decide ((0 : Int) < (c : Int)) = true := decide_eq_true (by omega)
   have d1' : decide (0 < c) = true := decide_eq_true (by omega)
   obtain ⟨⟨v1, v2⟩, hv⟩ : ∃ z, l[c - 1]? = some z := ⟨_, List.getElem?_eq_getElem (by rw [HN.out]; omega)⟩
   have HBX9 := HBX.out
   obtain ⟨a', ea, hab', cv, -, -, -⟩ := (HT2.out.keep (.of_below HBX9)).at hv
   injection ea with ea
   subst ea
   simp only at cv
   have HV := Lib.hid hv
   have HCV := Lib.hid cv
   have k2 : IntKind.i64.wrap ((c : Int) - 1) = ((c - 1 : Nat) : Int) := by rw [IntKind.wrap_i64]; omega
   have k3 : (0 : Int) ≤ ((c - 1 : Nat) : Int) := by omega
   have k4 : ((c - 1 : Nat) : Int) < (n : Int) := by omega
   have hc1 : 1 ≤ c := by omega
   clear z0 hv cv HBX9
   by_cases hle : x1 ≤ v1
   ·have HQ := Lib.hid (HdCode.ten (l := l) (depth := depth) HMN.out HN4.out (fun h => by
     have h9 := h (c - 1) _ _ (by rw [HN.out]; omega) HV.out (by rw [show c - 1 + 1 = c by omega]; exact HX.out)
     simp only at h9
     omega))
    have d2 : decide (x1 ≤ v1) = true := decide_eq_true hle
    clear hle
    go_wp2_with fail
    rw [HWX.out]
    refine wp_region_noPanic ?_
    refine wp_region_held_drew (S := (fun W => W.cell? ⟨wp.heap.size, 0, none⟩ = some (.int .i64 x1) ∧ W.cell? (a.add ((c - 1) * 2)) = some (.int .i64 v1))) (by kernel_rfl) ?_ (fun hHeld => ?_)
    ·exact ⟨HCX.out.1, HCV.out⟩
    refine takeT 0 hHeld ?_
    (try simp only [Act.put, ly])
    refine takeT 1 hHeld ?_
    (try simp only [Act.put, ly])
    refine takeT 2 hHeld ?_
    (try simp only [Act.put, ly])
    refine takeT 3 hHeld ?_
    (try simp only [Act.put, ly])
    refine takeT 4 hHeld ?_
    (try simp only [Act.put, ly])
    refine takeT 5 hHeld ?_
    (try simp only [Act.put, ly])
    refine takeT 6 hHeld ?_
    (try simp only [Act.put, ly])
    refine takeT 7 hHeld ?_
    (try simp only [Act.put, ly])
    refine takeT 8 hHeld ?_
    (try simp only [Act.put, ly])
    refine takeT 9 hHeld ?_
    (try simp only [Act.put, ly])
    refine takeT 10 hHeld ?_
    (try simp only [Act.put, ly])
    refine takeT 11 hHeld ?_
    (try simp only [Act.put, ly])
    refine takeT 12 hHeld ?_
    (try simp only [Act.put, ly])
    refine wpAnyH_done (by kernel_rfl) ?_ _
    refine NoPanic.normal ?_
    go_wp2_with fail
    go_ret
    exact ⟨⟨_, rfl, HQ⟩, by have := HBX.out; exact bel⟩
   have HNX : Hid (AscTo l (c + 1)) := hA.out.next hc1 HV.out HX.out (by show v1 < x1; omega)
   have d2 : decide (x1 ≤ v1) = false := decide_eq_false hle
   clear hle
   go_wp2_with fail
   rw [HWX.out]
   refine wp_region_noPanic ?_
   refine wp_region_held_drew (S := (fun W => W.cell? ⟨wp.heap.size, 0, none⟩ = some (.int .i64 x1) ∧ W.cell? (a.add ((c - 1) * 2)) = some (.int .i64 v1))) (by kernel_rfl) ?_ (fun hHeld => ?_)
   ·exact ⟨HCX.out.1, HCV.out⟩
   refine takeT 0 hHeld ?_
   (try simp only [Act.put, ly])
   refine takeT 1 hHeld ?_
   (try simp only [Act.put, ly])
   refine takeT 2 hHeld ?_
   (try simp only [Act.put, ly])
   refine takeT 3 hHeld ?_
   (try simp only [Act.put, ly])
   refine takeT 4 hHeld ?_
   (try simp only [Act.put, ly])
   refine takeT 5 hHeld ?_
   (try simp only [Act.put, ly])
   refine takeT 6 hHeld ?_
   (try simp only [Act.put, ly])
   refine takeT 7 hHeld ?_
   (try simp only [Act.put, ly])
   refine takeT 8 hHeld ?_
   (try simp only [Act.put, ly])
   refine takeT 9 hHeld ?_
   (try simp only [Act.put, ly])
   refine takeT 10 hHeld ?_
   (try simp only [Act.put, ly])
   refine takeT 11 hHeld ?_
   (try simp only [Act.put, ly])
   refine takeT 12 hHeld ?_
   (try simp only [Act.put, ly])
   refine wpAnyH_done (by kernel_rfl) ?_ _
   refine NoPanic.normal ?_
   obtain ⟨g0, g1⟩ := HCX.out
   go_wp2_with (at_mapUpdate; refine wpList_putF _ rfl _ _ _ rfl keyed_int Tryz.underlying186 rfl HMX.out.drew (by omega) (.int .i64 x1) (.int .i64 x1) x2 rfl rfl (key_int zb1) zb2 k' HK'.out ?_)
   intro w7 hM7 hg7
   have y9 := hg7.size
   have HM7 : Hid (MapF w7 3 w1.heap.size (c + 1) k' (knF l (c + 1))) := by show MapF _ _ _ _ _ _; rw [knF_next HX.out]; exact hM7
   have HL7 : Hid (Loc w7 w.heap.size 84 #[.int .i64 (nn : Int), .slice A m cap0]) := loc_grown (w := wx.drew) HLX.out hg7 (fun e => by injection e with e; omega)
   have HB7 : Hid (Below w.heap.size w w7) := (HBX.out.drew).grown hg7 (by have := HBX.out.size; exact this) (fun z hz => by injection hz with hz; omega)
   clear hM7 hg7 g0 g1
   go_wp2_with fail
   go_roundw
   case rel => exact ⟨c + 1, k', by omega, by go_num, HM7, HNX, HL7, HB7.out⟩
   case measure => simp only [intOf]; omega
  ·obtain rfl : c = n := by omega
   have HASC : Hid (AscTo l l.length) := by show AscTo _ _; rw [HN.out]; exact hA.out
   have hnc : ¬ (c : Int) < (c : Int) := by omega
   have HBADX : Hid (¬ ((∀ x ∈ l, GoodE (nn : Int) L (knF l l.length) x) ∧ TopE (nn : Int) (knF l l.length) depth) → HdCode (nn : Int) L l depth 13) := fun h => HdCode.bad HMN.out HN4.out HASC.out h
   have HOKX : Hid (((∀ x ∈ l, GoodE (nn : Int) L (knF l l.length) x) ∧ TopE (nn : Int) (knF l l.length) depth) → HdCode (nn : Int) L l depth 0) := fun h => HdCode.ok HMN.out HN4.out HASC.out h
   have hp : 1 ≤ 2 ^ nn ∧ 2 ^ nn ≤ 4611686018427387904 := ⟨Nat.one_le_two_pow, Nat.le_trans (Nat.pow_le_pow_right (by decide) hnn) (by decide)⟩
   obtain ⟨p, hpe⟩ : ∃ p : Nat, 2 ^ nn = p := ⟨_, rfl⟩
   have HPE : Hid (2 ^ (nn : Int).toNat = p) := by show _ = _; rw [Int.toNat_natCast]; exact hpe
   have HPN := Lib.hid hpe
   rw [hpe] at hp
   obtain ⟨e1, f1, -⟩ := Loc.all hL.out (w' := wp)
   clear hpe hA
   go_wp2_with fail
   refine (alljoint_any _ nn _ L (H2.out.keep kp) HMN.out).mono ?_
   rintro e w5 ⟨⟨gJ, cJ, J, rfl, hRJ, hJ⟩, hb5⟩
   have y5 := hb5.size; (try simp only [zs] at y5)
   have HL5 : Hid (Loc w5 w.heap.size 84 #[.int .i64 (nn : Int), .slice A m cap0]) := Loc.below hL.out hb5
   have HM5 : Hid (MapF w5 3 w1.heap.size c k (knF l c)) := hM.out.below hb5 hwbs
   have HB5 : Hid (Below w.heap.size w w5) := hB.trans (hb5.mono (by omega))
   have HJV : Hid (∀ W, RowG W gJ cJ J → IntsV W (.slice (some ⟨gJ, 0, none⟩) nn cJ) J) := fun W hW => by
    have h9 := hW.vals (fun z hz => by have := hJ.out.2.2 z hz; omega)
    rw [hJ.out.1] at h9
    exact h9
   clear e1 f1 hnc hb5 hM hL hB hwbs y7
   go_wp2_with fail
   go_loopw [52] (fun i wr => ∃ (t : Nat), t ≤ c ∧ i = .int .i64 t ∧ Hid (MapF wr 3 w1.heap.size c k (knF l c)) ∧ Hid (∀ (i : Nat) (x : Int × Int), i < t → l[i]? = some x → GoodE (nn : Int) L (knF l c) x) ∧ Hid (Loc wr w.heap.size 84 #[.int .i64 (nn : Int), .slice A m cap0]) ∧ Hid (RowG wr gJ cJ J) ∧ Below w.heap.size w wr) (fun i _ => c - (intOf i).toNat)
   case atStart => exact ⟨0, by omega, rfl, HM5, Lib.hid (fun i x hi => absurd hi (by omega)), HL5, hRJ, HB5.out⟩
   case round =>
    clear HM5 HL5 HB5 hRJ
    obtain ⟨t, ht, rfl, hM, hG, hL, hRJ, hB8⟩ := hrel
    obtain ⟨wq, rfl⟩ : ∃ wq : World, wq = wr := ⟨_, rfl⟩
    have y8 := hB8.size; (try simp only [zs] at y8)
    have hwbq : w1.heap.size < wq.heap.size := hM.out.lt
    by_cases hlt3 : t < c
    ·obtain ⟨⟨x1, x2⟩, hx⟩ : ∃ z, l[t]? = some z := ⟨_, List.getElem?_eq_getElem (by rw [HN.out]; exact hlt3)⟩
     obtain ⟨a, rfl, hab, cx, cx2, zb1, zb2⟩ := (HT2.out.keep (.of_below hB8)).at hx
     simp only at cx cx2 zb1 zb2
     rw [addr_one] at cx2
     have HX := Lib.hid hx
     have k0 : (0 : Int) ≤ (t : Int) := by omega
     have k1 : (t : Int) < (c : Int) := by omega
     obtain ⟨wx, hwx⟩ : ∃ W, wq.alloc (.cells #[.int .i64 x1, .int .i64 x2] 222) = W := ⟨_, rfl⟩
     have HWX := Lib.hid hwx
     have hbx : Below wq.heap.size wq wx := by rw [← hwx]; exact below1 _ _
     have HBX : Hid (Below w.heap.size w wx) := hB8.trans (hbx.mono (by omega))
     have LX : Hid (Loc wx wq.heap.size 222 #[.int .i64 x1, .int .i64 x2]) := by show Loc _ _ _ _; rw [← hwx]; exact made1 wq _ _
     have HLX : Hid (Loc wx w.heap.size 84 #[.int .i64 (nn : Int), .slice A m cap0]) := Loc.below hL.out hbx
     have HMX : Hid (MapF wx 3 w1.heap.size c k (knF l c)) := hM.out.below hbx hwbq
     have HRX : Hid (RowG wx gJ cJ J) := hRJ.out.below hbx
     have hwx2 : w1.heap.size < wx.heap.size := HMX.out.lt
     have HBY : Hid (∀ W, Below wx.heap.size wx W → Below w.heap.size w W) := fun W hW => HBX.out.trans (hW.mono (by omega))
     have HSS : Hid (∀ W, Below wx.heap.size wx W → (W.cell? ⟨wq.heap.size, 0, none⟩ = some (.int .i64 x1) ∧ W.cell? ⟨wq.heap.size, 1, none⟩ = some (.int .i64 x2)) ∧ W.cell? ⟨w.heap.size, 0, none⟩ = some (.int .i64 (nn : Int)) ∧ W.cell? ⟨w.heap.size, 1, none⟩ = some (.slice A m cap0)) := fun W hW => ⟨⟨Loc.cell (Loc.below LX.out hW) 0, Loc.cell (Loc.below LX.out hW) 1⟩, Loc.cell (Loc.below HLX.out hW) 0, Loc.cell (Loc.below HLX.out hW) 1⟩
     have HNEXT : Hid (GoodE (nn : Int) L (knF l c) (x1, x2) → ∀ (i : Nat) (x : Int × Int), i < t + 1 → l[i]? = some x → GoodE (nn : Int) L (knF l c) x) := fun hh i x hi hx' => by
      by_cases e : i < t
      ·exact hG.out i x e hx'
      ·obtain rfl : i = t := by omega
       rw [HX.out] at hx'
       injection hx' with hx'
       subst hx'
       exact hh
     have HBAD : Hid (¬ GoodE (nn : Int) L (knF l c) (x1, x2) → HdCode (nn : Int) L l depth 13) := fun hq' => HBADX.out (fun h => hq' (by
      have h9 := h.1 _ (List.mem_of_getElem? HX.out)
      rw [HN.out] at h9
      exact h9))
     have HGD : Hid (GoodE (nn : Int) L (knF l c) (x1, x2) ↔ (1 ≤ x1 ∧ x1 ≤ ((p - 1 : Nat) : Int)) ∧ (0 < x2 → HardP L x1.toNat x2 (knF l c))) := by
      show _ ↔ _
      unfold GoodE
      rw [HPE.out]
     have HEV : Hid ((2 ^ nn - 1 : Nat) = p - 1) := by show _ = _; rw [HPN.out]
     clear hx hwx hbx
     go_wp2_with fail
     rw [HWX.out]
     by_cases z0 : x1 < 1
     ·have HV := Lib.hid (HBAD.out (fun h => by have := (HGD.out.1 h).1; omega))
      have d1 : decide (x1 < 1) = true := decide_eq_true z0
      have HBW : Hid (Below wx.heap.size wx wx.drew) := (Below.refl _ _).drew
      clear z0
      refine wp_region_noPanic ?_
      refine wp_region_held_drew (S := (fun W => (W.cell? ⟨wq.heap.size, 0, none⟩ = some (.int .i64 x1) ∧ W.cell? ⟨wq.heap.size, 1, none⟩ = some (.int .i64 x2)) ∧ W.cell? ⟨w.heap.size, 0, none⟩ = some (.int .i64 (nn : Int)) ∧ W.cell? ⟨w.heap.size, 1, none⟩ = some (.slice A m cap0))) (by kernel_rfl) ?_ (fun hHeld => ?_)
      ·exact HSS.out _ (Below.refl _ _).drew
      refine takeT 0 hHeld ?_
      (try simp only [Act.put, ly])
      refine takeT 1 hHeld ?_
      (try simp only [Act.put, ly])
      refine takeT 2 hHeld ?_
      (try simp only [Act.put, ly])
      refine takeT 3 hHeld ?_
      (try simp only [Act.put, ly])
      refine offT 4 hHeld ?_
      refine offT 5 hHeld ?_
      refine offT 6 hHeld ?_
      refine offT 7 hHeld ?_
      refine offT 8 hHeld ?_
      (try simp only [Act.put, ly])
      refine takeT 9 hHeld ?_
      (try simp only [Act.put, ly])
      refine takeT 10 hHeld ?_
      (try simp only [Act.put, ly])
      refine offT 11 hHeld ?_
      refine offT 12 hHeld ?_
      refine offT 13 hHeld ?_
      refine offT 14 hHeld ?_
      refine offT 15 hHeld ?_
      refine offT 16 hHeld ?_
      refine offT 17 hHeld ?_
      refine offT 18 hHeld ?_
      refine offT 19 hHeld ?_
      (try simp only [Act.put, ly])
      refine takeT 20 hHeld ?_
      (try simp only [Act.put, ly])
      refine takeT 21 hHeld ?_
      (try simp only [Act.put, ly])
      refine offT 22 hHeld ?_
      refine offT 23 hHeld ?_
      refine offT 24 hHeld ?_
      refine offT 25 hHeld ?_
      refine offT 26 hHeld ?_
      refine offT 27 hHeld ?_
      refine offT 28 hHeld ?_
      refine offT 29 hHeld ?_
      refine offT 30 hHeld ?_
      refine offT 31 hHeld ?_
      (try simp only [Act.put, ly])
      refine takeT 32 hHeld ?_
      (try simp only [Act.put, ly])
      refine wpAnyH_done (by kernel_rfl) ?_ _
      refine NoPanic.normal ?_
      go_wp2_with fail
      go_ret
      exact ⟨⟨_, rfl, HV⟩, HBY.out _ HBW.out⟩
     have d1 : decide (x1 < 1) = false := decide_eq_false z0
     by_cases z1 : ((p - 1 : Nat) : Int) < x1
     ·have HV := Lib.hid (HBAD.out (fun h => by have := (HGD.out.1 h).1; omega))
      have d2 : decide (((p - 1 : Nat) : Int) < x1) = true := decide_eq_true z1
      clear z0 z1
      refine wp_region_noPanic ?_
      refine wp_region_held_drew (S := (fun W => (W.cell? ⟨wq.heap.size, 0, none⟩ = some (.int .i64 x1) ∧ W.cell? ⟨wq.heap.size, 1, none⟩ = some (.int .i64 x2)) ∧ W.cell? ⟨w.heap.size, 0, none⟩ = some (.int .i64 (nn : Int)) ∧ W.cell? ⟨w.heap.size, 1, none⟩ = some (.slice A m cap0))) (by kernel_rfl) ?_ (fun hHeld => ?_)
      ·exact HSS.out _ (Below.refl _ _).drew
      refine takeT 0 hHeld ?_
      (try simp only [Act.put, ly])
      refine takeT 1 hHeld ?_
      (try simp only [Act.put, ly])
      refine takeT 2 hHeld ?_
      (try simp only [Act.put, ly])
      refine takeT 3 hHeld ?_
      (try simp only [Act.put, ly])
      refine takeT 4 hHeld ?_
      (try simp only [Act.put, ly])
      refine takeT 5 hHeld ?_
      (try simp only [Act.put, ly])
      refine takeT 6 hHeld ?_
      (try simp only [Act.put, ly])
      refine wpAnyH_ready (rs := [7]) (by kernel_rfl) (by simp) ?_
      refine AllReadyH.cons rfl (fun K hK => ?_) AllReadyH.nil
      go_simp
      refine (everything_any _ nn _ hnn ⟨_, _, _, rfl⟩).mono ?_
      rintro e w6 ⟨he, hb6⟩
      rw [HEV.out] at he
      subst he
      have hb6 : Below wx.heap.size wx w6 := ((Below.refl _ _).drew).trans hb6
      have y6 := hb6.size; (try simp only [zs] at y6)
      have HBW := Lib.hid hb6
      (try go_wp2_with fail)
      refine hK.out _ _ ?_ (fun hHeld => ?_)
      ·(try dsimp only)
       exact HSS.out _ hb6
      clear hK K
      (try simp only [Act.put, ly])
      refine takeT 8 hHeld ?_
      (try simp only [Act.put, ly])
      refine takeT 9 hHeld ?_
      (try simp only [Act.put, ly])
      refine takeT 10 hHeld ?_
      (try simp only [Act.put, ly])
      refine offT 11 hHeld ?_
      refine offT 12 hHeld ?_
      refine offT 13 hHeld ?_
      refine offT 14 hHeld ?_
      refine offT 15 hHeld ?_
      refine offT 16 hHeld ?_
      refine offT 17 hHeld ?_
      refine offT 18 hHeld ?_
      refine offT 19 hHeld ?_
      (try simp only [Act.put, ly])
      refine takeT 20 hHeld ?_
      (try simp only [Act.put, ly])
      refine takeT 21 hHeld ?_
      (try simp only [Act.put, ly])
      refine offT 22 hHeld ?_
      refine offT 23 hHeld ?_
      refine offT 24 hHeld ?_
      refine offT 25 hHeld ?_
      refine offT 26 hHeld ?_
      refine offT 27 hHeld ?_
      refine offT 28 hHeld ?_
      refine offT 29 hHeld ?_
      refine offT 30 hHeld ?_
      refine offT 31 hHeld ?_
      (try simp only [Act.put, ly])
      refine takeT 32 hHeld ?_
      (try simp only [Act.put, ly])
      refine wpAnyH_done (by kernel_rfl) ?_ _
      refine NoPanic.normal ?_
      go_wp2_with fail
      go_ret
      exact ⟨⟨_, rfl, HV⟩, HBY.out _ HBW.out⟩
     have d2 : decide (((p - 1 : Nat) : Int) < x1) = false := decide_eq_false z1
     obtain ⟨S, rfl⟩ : ∃ S : Nat, x1 = (S : Int) := ⟨x1.toNat, by omega⟩
     have hSb : S < 4611686018427387904 := by omega
     have d2n : ¬ p - 1 < S := by omega
     have d2' : decide (p - 1 < S) = false := decide_eq_false d2n
     have HRNG : Hid (1 ≤ (S : Int) ∧ (S : Int) ≤ ((p - 1 : Nat) : Int)) := by show _ ∧ _; omega
     have HHI : Hid (HardP L S x2 (knF l c) ↔ ¬ TogP J S ∧ (1 < x2 → NeedP L S x2 (knF l c))) := by
      have h9 := hJ.out
      exact hard_iff HMN.out h9 S x2 (knF l c)
     have HGD2 : Hid (GoodE (nn : Int) L (knF l c) ((S : Int), x2) ↔ (0 < x2 → ¬ TogP J S ∧ (1 < x2 → NeedP L S x2 (knF l c)))) := by
      show _ ↔ _
      rw [HGD.out, Int.toNat_natCast, HHI.out]
      exact ⟨fun h => h.2, fun h => ⟨HRNG.out, h⟩⟩
     clear z0 z1
     by_cases z2 : 0 < x2
     case neg =>
      have HNX := Lib.hid (HNEXT.out (HGD2.out.2 (fun h => absurd h z2)))
      have d3 : decide (0 < x2) = false := decide_eq_false z2
      have d4 : decide (1 < x2) = false := decide_eq_false (by omega)
      clear z2
      refine wp_region_noPanic ?_
      refine wp_region_held_drew (S := (fun W => (W.cell? ⟨wq.heap.size, 0, none⟩ = some (.int .i64 (S : Int)) ∧ W.cell? ⟨wq.heap.size, 1, none⟩ = some (.int .i64 x2)) ∧ W.cell? ⟨w.heap.size, 0, none⟩ = some (.int .i64 (nn : Int)) ∧ W.cell? ⟨w.heap.size, 1, none⟩ = some (.slice A m cap0))) (by kernel_rfl) ?_ (fun hHeld => ?_)
      ·exact HSS.out _ (Below.refl _ _).drew
      refine takeT 0 hHeld ?_
      (try simp only [Act.put, ly])
      refine takeT 1 hHeld ?_
      (try simp only [Act.put, ly])
      refine takeT 2 hHeld ?_
      (try simp only [Act.put, ly])
      refine takeT 3 hHeld ?_
      (try simp only [Act.put, ly])
      refine takeT 4 hHeld ?_
      (try simp only [Act.put, ly])
      refine takeT 5 hHeld ?_
      (try simp only [Act.put, ly])
      refine takeT 6 hHeld ?_
      (try simp only [Act.put, ly])
      refine wpAnyH_ready (rs := [7]) (by kernel_rfl) (by simp) ?_
      refine AllReadyH.cons rfl (fun K hK => ?_) AllReadyH.nil
      go_simp
      refine (everything_any _ nn _ hnn ⟨_, _, _, rfl⟩).mono ?_
      rintro e w6 ⟨he, hb6⟩
      rw [HEV.out] at he
      subst he
      have hb6 : Below wx.heap.size wx w6 := ((Below.refl _ _).drew).trans hb6
      have y6 := hb6.size; (try simp only [zs] at y6)
      have HBW := Lib.hid hb6
      (try go_wp2_with fail)
      refine hK.out _ _ ?_ (fun hHeld => ?_)
      ·(try dsimp only)
       exact HSS.out _ hb6
      clear hK K
      (try simp only [Act.put, ly])
      refine takeT 8 hHeld ?_
      (try simp only [Act.put, ly])
      refine takeT 9 hHeld ?_
      (try simp only [Act.put, ly])
      refine takeT 10 hHeld ?_
      (try simp only [Act.put, ly])
      refine takeT 11 hHeld ?_
      (try simp only [Act.put, ly])
      refine takeT 12 hHeld ?_
      (try simp only [Act.put, ly])
      refine takeT 13 hHeld ?_
      (try simp only [Act.put, ly])
      refine takeT 14 hHeld ?_
      (try simp only [Act.put, ly])
      refine offT 15 hHeld ?_
      refine offT 16 hHeld ?_
      refine offT 17 hHeld ?_
      refine offT 18 hHeld ?_
      (try simp only [Act.put, ly])
      refine takeT 19 hHeld ?_
      (try simp only [Act.put, ly])
      refine takeT 20 hHeld ?_
      (try simp only [Act.put, ly])
      refine takeT 21 hHeld ?_
      (try simp only [Act.put, ly])
      refine takeT 22 hHeld ?_
      (try simp only [Act.put, ly])
      refine takeT 23 hHeld ?_
      (try simp only [Act.put, ly])
      refine takeT 24 hHeld ?_
      (try simp only [Act.put, ly])
      refine takeT 25 hHeld ?_
      (try simp only [Act.put, ly])
      refine offT 26 hHeld ?_
      refine offT 27 hHeld ?_
      refine offT 28 hHeld ?_
      refine offT 29 hHeld ?_
      refine offT 30 hHeld ?_
      (try simp only [Act.put, ly])
      refine takeT 31 hHeld ?_
      (try simp only [Act.put, ly])
      refine takeT 32 hHeld ?_
      (try simp only [Act.put, ly])
      refine wpAnyH_done (by kernel_rfl) ?_ _
      refine NoPanic.normal ?_
      go_wp2_with fail
      go_roundw
      case rel => exact ⟨t + 1, by omega, by go_num, Lib.hid (HMX.out.below HBW.out hwx2), HNX, Lib.hid (Loc.below HLX.out HBW.out), Lib.hid (HRX.out.below HBW.out), HBY.out _ HBW.out⟩
      case measure => simp only [intOf]; omega
     have d3 : decide (0 < x2) = true := decide_eq_true z2
     have HZ2 := Lib.hid z2
     refine wp_region_noPanic ?_
     refine wp_region_held_drew (S := (fun W => (W.cell? ⟨wq.heap.size, 0, none⟩ = some (.int .i64 (S : Int)) ∧ W.cell? ⟨wq.heap.size, 1, none⟩ = some (.int .i64 x2)) ∧ W.cell? ⟨w.heap.size, 0, none⟩ = some (.int .i64 (nn : Int)) ∧ W.cell? ⟨w.heap.size, 1, none⟩ = some (.slice A m cap0))) (by kernel_rfl) ?_ (fun hHeld => ?_)
     ·exact HSS.out _ (Below.refl _ _).drew
     refine takeT 0 hHeld ?_
     (try simp only [Act.put, ly])
     refine takeT 1 hHeld ?_
     (try simp only [Act.put, ly])
     refine takeT 2 hHeld ?_
     (try simp only [Act.put, ly])
     refine takeT 3 hHeld ?_
     (try simp only [Act.put, ly])
     refine takeT 4 hHeld ?_
     (try simp only [Act.put, ly])
     refine takeT 5 hHeld ?_
     (try simp only [Act.put, ly])
     refine takeT 6 hHeld ?_
     (try simp only [Act.put, ly])
     refine wpAnyH_ready (rs := [7]) (by kernel_rfl) (by simp) ?_
     refine AllReadyH.cons rfl (fun K hK => ?_) AllReadyH.nil
     go_simp
     refine (everything_any _ nn _ hnn ⟨_, _, _, rfl⟩).mono ?_
     rintro e w6 ⟨he, hb6⟩
     rw [HEV.out] at he
     subst he
     have hb6 : Below wx.heap.size wx w6 := ((Below.refl _ _).drew).trans hb6
     have y6 := hb6.size; (try simp only [zs] at y6)
     have HBW := Lib.hid hb6
     (try go_wp2_with fail)
     refine hK.out _ _ ?_ (fun hHeld => ?_)
     ·(try dsimp only)
      exact HSS.out _ hb6
     clear hK K
     (try simp only [Act.put, ly])
     refine takeT 8 hHeld ?_
     (try simp only [Act.put, ly])
     refine takeT 9 hHeld ?_
     (try simp only [Act.put, ly])
     refine takeT 10 hHeld ?_
     (try simp only [Act.put, ly])
     refine takeT 11 hHeld ?_
     (try simp only [Act.put, ly])
     refine takeT 12 hHeld ?_
     (try simp only [Act.put, ly])
     refine takeT 13 hHeld ?_
     (try simp only [Act.put, ly])
     refine takeT 14 hHeld ?_
     (try simp only [Act.put, ly])
     refine takeT 15 hHeld ?_
     (try simp only [Act.put, ly])
     refine takeT 16 hHeld ?_
     (try simp only [Act.put, ly])
     refine takeT 17 hHeld ?_
     (try simp only [Act.put, ly])
     refine wpAnyH_ready (rs := [18]) (by kernel_rfl) (by simp) ?_
     refine AllReadyH.cons rfl (fun K hK => ?_) AllReadyH.nil
     go_simp
     refine (together_any _ _ J S (HJV.out _ (HRX.out.below hb6)) (by rw [hJ.out.1]; exact hnn) (fun z hz => (hJ.out.2.2 z hz).1) hSb).mono ?_
     rintro e w8 ⟨⟨b8, rfl, hb8⟩, hb8z⟩
     clear HBW
     have hb8z : Below wx.heap.size wx w8 := hb6.trans (hb8z.mono (by omega))
     have y9 := hb8z.size; (try simp only [zs] at y9)
     have HBW := Lib.hid hb8z
     (try go_wp2_with fail)
     refine hK.out _ _ ?_ (fun hHeld => ?_)
     ·(try dsimp only)
      exact HSS.out _ hb8z
     clear hK K
     (try simp only [Act.put, ly])
     cases b8
     case true =>
      have HV := Lib.hid (HBAD.out (fun h => (HGD2.out.1 h HZ2.out).1 (hb8.out.1 rfl)))
      clear hb8 z2
      refine takeT 19 hHeld ?_
      (try simp only [Act.put, ly])
      refine takeT 20 hHeld ?_
      (try simp only [Act.put, ly])
      refine takeT 21 hHeld ?_
      (try simp only [Act.put, ly])
      refine offT 22 hHeld ?_
      refine offT 23 hHeld ?_
      refine offT 24 hHeld ?_
      refine offT 25 hHeld ?_
      refine offT 26 hHeld ?_
      refine offT 27 hHeld ?_
      refine offT 28 hHeld ?_
      refine offT 29 hHeld ?_
      refine offT 30 hHeld ?_
      refine offT 31 hHeld ?_
      (try simp only [Act.put, ly])
      refine takeT 32 hHeld ?_
      (try simp only [Act.put, ly])
      refine wpAnyH_done (by kernel_rfl) ?_ _
      refine NoPanic.normal ?_
      go_wp2_with fail
      go_ret
      exact ⟨⟨_, rfl, HV⟩, HBY.out _ HBW.out⟩
     have HNT : Hid (¬ TogP J S) := fun h => by have := hb8.out.2 h; cases this
     clear hb8
     by_cases z3 : 1 < x2
     case neg =>
      have HNX := Lib.hid (HNEXT.out (HGD2.out.2 (fun _ => ⟨HNT.out, fun h => absurd h z3⟩)))
      have d4 : decide (1 < x2) = false := decide_eq_false z3
      clear z2 z3
      refine takeT 19 hHeld ?_
      (try simp only [Act.put, ly])
      refine takeT 20 hHeld ?_
      (try simp only [Act.put, ly])
      refine takeT 21 hHeld ?_
      (try simp only [Act.put, ly])
      refine takeT 22 hHeld ?_
      (try simp only [Act.put, ly])
      refine takeT 23 hHeld ?_
      (try simp only [Act.put, ly])
      refine takeT 24 hHeld ?_
      (try simp only [Act.put, ly])
      refine takeT 25 hHeld ?_
      (try simp only [Act.put, ly])
      refine offT 26 hHeld ?_
      refine offT 27 hHeld ?_
      refine offT 28 hHeld ?_
      refine offT 29 hHeld ?_
      refine offT 30 hHeld ?_
      (try simp only [Act.put, ly])
      refine takeT 31 hHeld ?_
      (try simp only [Act.put, ly])
      refine takeT 32 hHeld ?_
      (try simp only [Act.put, ly])
      refine wpAnyH_done (by kernel_rfl) ?_ _
      refine NoPanic.normal ?_
      go_wp2_with fail
      go_roundw
      case rel => exact ⟨t + 1, by omega, by go_num, Lib.hid (HMX.out.below HBW.out hwx2), HNX, Lib.hid (Loc.below HLX.out HBW.out), Lib.hid (HRX.out.below HBW.out), HBY.out _ HBW.out⟩
      case measure => simp only [intOf]; omega
     have d4 : decide (1 < x2) = true := decide_eq_true z3
     have HZ3 := Lib.hid z3
     refine takeT 19 hHeld ?_
     (try simp only [Act.put, ly])
     refine takeT 20 hHeld ?_
     (try simp only [Act.put, ly])
     refine takeT 21 hHeld ?_
     (try simp only [Act.put, ly])
     refine takeT 22 hHeld ?_
     (try simp only [Act.put, ly])
     refine takeT 23 hHeld ?_
     (try simp only [Act.put, ly])
     refine takeT 24 hHeld ?_
     (try simp only [Act.put, ly])
     refine takeT 25 hHeld ?_
     (try simp only [Act.put, ly])
     refine takeT 26 hHeld ?_
     (try simp only [Act.put, ly])
     refine takeT 27 hHeld ?_
     (try simp only [Act.put, ly])
     refine takeT 28 hHeld ?_
     (try simp only [Act.put, ly])
     refine wpAnyH_ready (rs := [29]) (by kernel_rfl) (by simp) ?_
     refine AllReadyH.cons rfl (fun K hK => ?_) AllReadyH.nil
     go_simp
     refine (needed_any _ (nn : Int) _ L S x2 w1.heap.size c k (knF l c) (H2.out.keep (.of_below (HBY.out _ hb8z))) HMN.out (HMX.out.below hb8z hwx2) hSb ⟨z3, zb2.2⟩).mono ?_
     rintro e w10 ⟨⟨b10, rfl, hb10⟩, hb10z⟩
     clear HBW
     have hb10z : Below wx.heap.size wx w10 := hb8z.trans (hb10z.mono (by omega))
     have y10 := hb10z.size; (try simp only [zs] at y10)
     have HBW := Lib.hid hb10z
     (try go_wp2_with fail)
     refine hK.out _ _ ?_ (fun hHeld => ?_)
     ·(try dsimp only)
      exact HSS.out _ hb10z
     clear hK K
     (try simp only [Act.put, ly])
     cases b10
     case false =>
      have HV := Lib.hid (HBAD.out (fun h => by have := hb10.out.2 ((HGD2.out.1 h HZ2.out).2 HZ3.out); cases this))
      clear hb10 z2 z3
      refine takeT 30 hHeld ?_
      (try simp only [Act.put, ly])
      refine takeT 31 hHeld ?_
      (try simp only [Act.put, ly])
      refine takeT 32 hHeld ?_
      (try simp only [Act.put, ly])
      refine wpAnyH_done (by kernel_rfl) ?_ _
      refine NoPanic.normal ?_
      go_wp2_with fail
      go_ret
      exact ⟨⟨_, rfl, HV⟩, HBY.out _ HBW.out⟩
     have HNX := Lib.hid (HNEXT.out (HGD2.out.2 (fun _ => ⟨HNT.out, fun _ => hb10.out.1 rfl⟩)))
     clear hb10 z2 z3
     refine takeT 30 hHeld ?_
     (try simp only [Act.put, ly])
     refine takeT 31 hHeld ?_
     (try simp only [Act.put, ly])
     refine takeT 32 hHeld ?_
     (try simp only [Act.put, ly])
     refine wpAnyH_done (by kernel_rfl) ?_ _
     refine NoPanic.normal ?_
     go_wp2_with fail
     go_roundw
     case rel => exact ⟨t + 1, by omega, by go_num, Lib.hid (HMX.out.below HBW.out hwx2), HNX, Lib.hid (Loc.below HLX.out HBW.out), Lib.hid (HRX.out.below HBW.out), HBY.out _ HBW.out⟩
     case measure => simp only [intOf]; omega
    ·obtain rfl : t = c := by omega
     have HGOOD : Hid (∀ x ∈ l, GoodE (nn : Int) L (knF l l.length) x) := fun x hx => by
      obtain ⟨i, hi, rfl⟩ := List.getElem_of_mem hx
      rw [HN.out]
      exact hG.out i _ (by rw [← HN.out]; exact hi) (List.getElem?_eq_getElem hi)
     have HEV : Hid ((2 ^ nn - 1 : Nat) = p - 1) := by show _ = _; rw [HPN.out]
     obtain ⟨e1, f1, -⟩ := Loc.all hL.out (w' := wq)
     go_wp2_with fail
     refine (everything_any _ nn _ hnn ⟨_, _, _, rfl⟩).mono ?_
     rintro e w6 ⟨he, hb6⟩
     rw [HEV.out] at he
     subst he
     have y6 := hb6.size; (try simp only [zs] at y6)
     have HM6 : Hid (MapF w6 3 w1.heap.size t k (knF l t)) := hM.out.below hb6 hwbq
     have hrun := HM6.out.look keyed_int Tryz.underlying186 (key_int (z := ((p - 1 : Nat) : Int)) (by omega))
     obtain ⟨o, ho⟩ : ∃ o, knF l t (.int .i64 ((p - 1 : Nat) : Int)) = o := ⟨_, rfl⟩
     have HTOP : Hid (TopE (nn : Int) (knF l l.length) depth ↔ (0 < depth → ∃ d, o = some d ∧ depth ≤ d)) := by
      show _ ↔ _
      unfold TopE
      rw [HPE.out, HN.out, ho]
     rw [ho] at hrun
     have HBAD : Hid (¬ (0 < depth → ∃ d, o = some d ∧ depth ≤ d) → HdCode (nn : Int) L l depth 13) := fun h => HBADX.out (fun h' => h (HTOP.out.1 h'.2))
     have HOK : Hid ((0 < depth → ∃ d, o = some d ∧ depth ≤ d) → HdCode (nn : Int) L l depth 0) := fun h => HOKX.out ⟨HGOOD.out, HTOP.out.2 h⟩
     clear ho e1 f1
     cases o with
     | none =>
       have hr2 : (Instr.lookup 186 (.map (some w1.heap.size)) (.int .i64 ((p - 1 : Nat) : Int)) true).run Tryz.prog w6 = .ok (.tuple #[.int .i64 0, .bool false]) w6 := hrun
       clear hrun
       by_cases z0 : 0 < depth
       ·have HV := Lib.hid (HBAD.out (fun h => by obtain ⟨d, h1, -⟩ := h z0; cases h1))
        have d1 : decide (0 < depth) = true := decide_eq_true z0
        clear z0
        go_wp2_with fail
        go_ret
        exact ⟨⟨_, rfl, HV⟩, bel⟩
       ·have HV := Lib.hid (HOK.out (fun h => absurd h z0))
        have d1 : decide (0 < depth) = false := decide_eq_false z0
        clear z0
        go_wp2_with fail
        go_ret
        exact ⟨⟨_, rfl, HV⟩, bel⟩
     | some d =>
       have hr2 : (Instr.lookup 186 (.map (some w1.heap.size)) (.int .i64 ((p - 1 : Nat) : Int)) true).run Tryz.prog w6 = .ok (.tuple #[.int .i64 d, .bool true]) w6 := hrun
       clear hrun
       by_cases z0 : 0 < depth
       ·have d1 : decide (0 < depth) = true := decide_eq_true z0
        by_cases z1 : d < depth
        ·have HV := Lib.hid (HBAD.out (fun h => by obtain ⟨d', h1, h2⟩ := h z0; injection h1 with h1; omega))
         have d2 : decide (d < depth) = true := decide_eq_true z1
         clear z0 z1
         go_wp2_with fail
         go_ret
         exact ⟨⟨_, rfl, HV⟩, bel⟩
        ·have HV := Lib.hid (HOK.out (fun _ => ⟨d, rfl, by omega⟩))
         have d2 : decide (d < depth) = false := decide_eq_false z1
         clear z0 z1
         go_wp2_with fail
         go_ret
         exact ⟨⟨_, rfl, HV⟩, bel⟩
       ·have HV := Lib.hid (HOK.out (fun h => absurd h z0))
        have d1 : decide (0 < depth) = false := decide_eq_false z0
        clear z0
        go_wp2_with fail
        go_ret
        exact ⟨⟨_, rfl, HV⟩, bel⟩
end Go.Proofs.YtbdcjhoedhhabaaGreat

