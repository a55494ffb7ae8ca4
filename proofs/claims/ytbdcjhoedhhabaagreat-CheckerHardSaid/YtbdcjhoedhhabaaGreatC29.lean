/- Contracts of the functions that the statements reach, part 29. -/
import Derived.Test.YtbdcjhoedhhabaaGreatRows
import Derived.Test.YtbdcjhoedhhabaaGreatC28
set_option linter.unusedSimpArgs false
set_option linter.unusedVariables false

/- checker.Hard. -/
namespace Go.Proofs.YtbdcjhoedhhabaaGreat
open Go.RowKit
attribute [local go_sem ↓] Go.wp_at_zero Go.wp_at_succ

theorem MapF.drew {w : World} {k : TypeId} {b n c : Nat} {f : Lit → Option Int} (h : MapF w k b n c f) : MapF w.drew k b n c f := h
theorem loc_grown {w w' : World} {g : Nat} {t : TypeId} {cs : Array Value} {row : Option Nat} (L : Loc w g t cs) (hg : w.grownBy w' row) (hne : some g ≠ row) : Loc w' g t cs := (hg.block g L.lt hne).trans L
theorem AscTo.all {l : List (Int × Int)} {c n : Nat} (h : AscTo l c) (hc : n ≤ c) : AscTo l n := fun i x y hi hx hy => h i x y (by omega) hx hy
theorem AscTo.next {l : List (Int × Int)} {c : Nat} {x y : Int × Int} (h : AscTo l c) (hc : 1 ≤ c) (hx : l[c - 1]? = some x) (hy : l[c]? = some y) (hlt : x.1 < y.1) : AscTo l (c + 1) := fun i x' y' hi hx' hy' => by
 by_cases e : i + 1 < c
 ·exact h i x' y' e hx' hy'
 ·obtain rfl : i = c - 1 := by omega
  have e1 : c - 1 + 1 = c := by omega
  rw [e1] at hy'
  rw [hx] at hx'
  rw [hy] at hy'
  injection hx' with hx'
  injection hy' with hy'
  subst hx' hy'
  exact hlt

set_option maxRecDepth 100000 in
set_option maxHeartbeats 16000000 in
theorem khard_any (w : World) (ns : Int) (vm vt : Value) (L : List (List Int)) (l : List (Int × Int)) (depth : Int) (h : IMat w vm L) (ht : Tims w vt l) :
 Calls Tryz.prog 42 #[.agg #[.int .i64 ns, vm], vt, .int .i64 depth] w fun e w' => (∃ r : Int, e = .returned (.int .i64 r) ∧ Hid (HdCode ns L l depth r)) ∧ Below w.heap.size w w' := by
 have H := Lib.hid h
 have HT := Lib.hid ht
 obtain ⟨A, cap0, rfl, h, l1, l2⟩ := h.op
 obtain ⟨B, cap1, rfl, ht, l3, l4⟩ := ht.op
 clear h ht
 obtain ⟨m, hml⟩ : ∃ m, L.length = m := ⟨_, rfl⟩
 have HM := Lib.hid hml
 have H2 : Hid (IMat w (.slice A m cap0) L) := by have h9 := H.out; rw [hml] at h9; exact h9
 obtain ⟨n, hn⟩ : ∃ n, l.length = n := ⟨_, rfl⟩
 have HN := Lib.hid hn
 have HT2 : Hid (Tims w (.slice B n cap1) l) := by have h9 := HT.out; rw [hn] at h9; exact h9
 rw [hml, hn]
 rw [hml] at l1
 rw [hn] at l3
 clear hml hn H HT
 have L1 := made1 w #[.int .i64 ns, .slice A m cap0] 84
 go_enter Tryz.func42, Tryz.ntmps42
 go_wp2_with fail
 refine (kmenu_any _ ns _ L (H2.out.keep kp)).mono ?_
 rintro e w1 ⟨⟨b1, rfl, hb1'⟩, hb1⟩
 have y1 := hb1.size; (try simp only [zs] at y1)
 cases b1
 ·have HV := Lib.hid (HdCode.one (l := l) (depth := depth) (fun h => by have := hb1'.out.2 h; cases this))
  clear hb1'
  go_wp2_with fail
  go_ret
  exact ⟨⟨_, rfl, HV⟩, bel⟩
 have HMN := Lib.hid (hb1'.out.1 rfl)
 clear hb1'
 have hns := HMN.out.1
 obtain ⟨nn, rfl⟩ : ∃ nn : Nat, ns = (nn : Int) := ⟨ns.toNat, by omega⟩
 have hnn : nn ≤ 62 := by omega
 have hm8 : m ≤ 8 := by have := HMN.out.2.1; have := HM.out; omega
 clear hns
 by_cases h0 : 4096 < n
 ·have HV := Lib.hid (HdCode.four (l := l) (depth := depth) HMN.out (by rw [HN.out]; exact h0))
  have d1 : decide ((4096 : Int) < (n : Int)) = true := decide_eq_true (by omega)
  have d1' : decide (4096 < n) = true := decide_eq_true h0
  clear h0
  go_wp2_with fail
  go_ret
  exact ⟨⟨_, rfl, HV⟩, bel⟩
 have d1 : decide ((4096 : Int) < (n : Int)) = false := decide_eq_false (by omega)
 have d1' : decide (4096 < n) = false := decide_eq_false h0
 have HN4 : Hid (¬ 4096 < l.length) := by show ¬ _; rw [HN.out]; exact h0
 have hn4 : n ≤ 4096 := by omega
 have HL1 : Hid (Loc w1 w.heap.size 84 #[.int .i64 (nn : Int), .slice A m cap0]) := by show Loc _ _ _ _; exact L1.to
 have HB1 : Hid (Below w.heap.size w w1) := by show Below _ _ _; exact bel
 clear h0 L1
 go_wp2_with fail
 clear d1 d1'
 go_loopw [7] (fun i wr => ∃ (c : Nat), 1 ≤ c ∧ c ≤ n + 1 ∧ i = .int .i64 c ∧ Hid (AscTo l c) ∧ Hid (Loc wr w.heap.size 84 #[.int .i64 (nn : Int), .slice A m cap0]) ∧ Below w.heap.size w wr) (fun i _ => n - (intOf i).toNat)
 case atStart => exact ⟨1, by omega, by omega, rfl, Lib.hid (fun i x y hi => absurd hi (by omega)), HL1, HB1.out⟩
 case round =>
  clear HL1 HB1
  obtain ⟨c, hc1, hc, rfl, hA, hL, hB⟩ := hrel
  obtain ⟨wo, rfl⟩ : ∃ wo : World, wo = wr := ⟨_, rfl⟩
  have y5 := hB.size; (try simp only [zs] at y5)
  by_cases hlt : c < n
  ·obtain ⟨⟨y1, y2⟩, hy⟩ : ∃ z, l[c]? = some z := ⟨_, List.getElem?_eq_getElem (by rw [HN.out]; exact hlt)⟩
   obtain ⟨⟨x1, x2⟩, hx⟩ : ∃ z, l[c - 1]? = some z := ⟨_, List.getElem?_eq_getElem (by rw [HN.out]; omega)⟩
   obtain ⟨a, rfl, hab, cy, -, -, -⟩ := (HT2.out.keep (.of_below hB)).at hy
   obtain ⟨a', ea, hab', cx, -, -, -⟩ := (HT2.out.keep (.of_below hB)).at hx
   injection ea with ea
   subst ea
   simp only at cy cx
   have k0 : (0 : Int) ≤ (c : Int) := by omega
   have k1 : (c : Int) < (n : Int) := by omega
   have k2 : IntKind.i64.wrap ((c : Int) - 1) = ((c - 1 : Nat) : Int) := by rw [IntKind.wrap_i64]; omega
   have k3 : (0 : Int) ≤ ((c - 1 : Nat) : Int) := by omega
   have k4 : ((c - 1 : Nat) : Int) < (n : Int) := by omega
   by_cases hle : y1 ≤ x1
   ·have HV := Lib.hid (HdCode.ten (l := l) (depth := depth) HMN.out HN4.out (fun h => by
     have h9 := h (c - 1) _ _ (by rw [HN.out]; omega) hx (by rw [show c - 1 + 1 = c by omega]; exact hy)
     simp only at h9
     omega))
    have d1 : decide (y1 ≤ x1) = true := decide_eq_true hle
    clear hle hx hy
    go_wp2_with fail
    go_region_held3 (fun W => W.cell? (a.add (c * 2)) = some (.int .i64 y1) ∧ W.cell? (a.add ((c - 1) * 2)) = some (.int .i64 x1)) (exact ⟨cy, cx⟩) (fail)
    go_wp2_with fail
    go_ret
    exact ⟨⟨_, rfl, HV⟩, bel⟩
   ·have HNX : Hid (AscTo l (c + 1)) := hA.out.next hc1 hx hy (by show x1 < y1; omega)
    have d1 : decide (y1 ≤ x1) = false := decide_eq_false hle
    clear hle hx hy
    go_wp2_with fail
    go_region_held3 (fun W => W.cell? (a.add (c * 2)) = some (.int .i64 y1) ∧ W.cell? (a.add ((c - 1) * 2)) = some (.int .i64 x1)) (exact ⟨cy, cx⟩) (fail)
    go_wp2_with fail
    go_roundw
    case rel => exact ⟨c + 1, by omega, by omega, by go_num, HNX, hL, bel⟩
    case measure => simp only [intOf]; omega
  ·have HASC : Hid (AscTo l l.length) := hA.out.all (by rw [HN.out]; omega)
   have hnc : ¬ (c : Int) < (n : Int) := by omega
   have HBADX : Hid (¬ ((∀ x ∈ l, GoodE (nn : Int) L (knF l l.length) x) ∧ TopE (nn : Int) (knF l l.length) depth) → HdCode (nn : Int) L l depth 13) := fun h => HdCode.bad HMN.out HN4.out HASC.out h
   have HOKX : Hid (((∀ x ∈ l, GoodE (nn : Int) L (knF l l.length) x) ∧ TopE (nn : Int) (knF l l.length) depth) → HdCode (nn : Int) L l depth 0) := fun h => HdCode.ok HMN.out HN4.out HASC.out h
   have hmk := run_makeMap (P := Tryz.prog) 186 wo
   have hbw : w.heap.size < wo.heap.size := Loc.lt hL.out
   have s1 := shl_one hnn
   have hp : 1 ≤ 2 ^ nn ∧ 2 ^ nn ≤ 4611686018427387904 := ⟨Nat.one_le_two_pow, Nat.le_trans (Nat.pow_le_pow_right (by decide) hnn) (by decide)⟩
   obtain ⟨p, hpe⟩ : ∃ p : Nat, 2 ^ nn = p := ⟨_, rfl⟩
   have HPE : Hid (2 ^ (nn : Int).toNat = p) := by show _ = _; rw [Int.toNat_natCast]; exact hpe
   rw [hpe] at s1 hp
   have HM0 : Hid (MapF (wo.alloc (.map #[] 0)) 3 wo.heap.size 0 0 (knF l 0)) := MapF.made wo 3
   have HL0 : Hid (Loc (wo.alloc (.map #[] 0)) w.heap.size 84 #[.int .i64 (nn : Int), .slice A m cap0]) := hL.out.alloc _
   have HB0 : Hid (Below w.heap.size w (wo.alloc (.map #[] 0))) := hB.alloc y5 _
   clear hpe hA hL
   go_wp2_with fail
   clear hmk hnc
   go_loopw [42] (fun i wr => ∃ (q k : Nat), q ≤ n ∧ i = .int .i64 q ∧ Hid (MapF wr 3 wo.heap.size q k (knF l q)) ∧ Hid (∀ (i : Nat) (x : Int × Int), i < q → l[i]? = some x → 1 ≤ x.1 ∧ x.1 < (p : Int)) ∧ Hid (Loc wr w.heap.size 84 #[.int .i64 (nn : Int), .slice A m cap0]) ∧ Below w.heap.size w wr) (fun i _ => n - (intOf i).toNat)
   case atStart => exact ⟨0, 0, by omega, rfl, HM0, Lib.hid (fun i x hi => absurd hi (by omega)), HL0, HB0.out⟩
   case round =>
    clear HM0 HL0 HB0
    obtain ⟨q, k, hq, rfl, hM, hR, hL, hB7⟩ := hrel
    obtain ⟨wp, rfl⟩ : ∃ wp : World, wp = wr := ⟨_, rfl⟩
    have y7 := hB7.size; (try simp only [zs] at y7)
    by_cases hlt2 : q < n
    ·obtain ⟨⟨x1, x2⟩, hx⟩ : ∃ z, l[q]? = some z := ⟨_, List.getElem?_eq_getElem (by rw [HN.out]; exact hlt2)⟩
     obtain ⟨a, rfl, hab, cx, cx2, zb1, zb2⟩ := (HT2.out.keep (.of_below hB7)).at hx
     simp only at cx cx2 zb1 zb2
     rw [addr_one] at cx2
     have HX := Lib.hid hx
     have k0 : (0 : Int) ≤ (q : Int) := by omega
     have k1 : (q : Int) < (n : Int) := by omega
     have hwbs : wo.heap.size < wp.heap.size := hM.out.lt
     obtain ⟨wx, hwx⟩ : ∃ W, wp.alloc (.cells #[.int .i64 x1, .int .i64 x2] 222) = W := ⟨_, rfl⟩
     have HWX := Lib.hid hwx
     have hbx : Below wp.heap.size wp wx := by rw [← hwx]; exact below1 _ _
     have HBX : Hid (Below w.heap.size w wx) := hB7.trans (hbx.mono (by omega))
     have LX : Loc wx wp.heap.size 222 #[.int .i64 x1, .int .i64 x2] := by rw [← hwx]; exact made1 wp _ _
     have HLX : Hid (Loc wx w.heap.size 84 #[.int .i64 (nn : Int), .slice A m cap0]) := Loc.below hL.out hbx
     have HMX : Hid (MapF wx 3 wo.heap.size q k (knF l q)) := hM.out.below hbx hwbs
     have HLS : Hid ((wx.cell? ⟨wp.heap.size, 0, none⟩ = some (.int .i64 x1) ∧ wx.cell? ⟨wp.heap.size, 1, none⟩ = some (.int .i64 x2)) ∧ wx.cell? ⟨w.heap.size, 0, none⟩ = some (.int .i64 (nn : Int))) := ⟨⟨Loc.cell LX 0, Loc.cell LX 1⟩, Loc.cell HLX.out 0⟩
     have HBAD : Hid (¬ (1 ≤ x1 ∧ x1 < (p : Int)) → HdCode (nn : Int) L l depth 13) := fun hq' => HBADX.out (fun h => hq' (by
      have h9 := (h.1 (x1, x2) (List.mem_of_getElem? HX.out)).1
      rw [HPE.out] at h9
      simp only at h9
      omega))
     clear hx hwx LX hbx
     by_cases z0 : x1 < 1
     ·have HV := Lib.hid (HBAD.out (fun h => by omega))
      have d1 : decide (x1 < 1) = true := decide_eq_true z0
      clear z0
      go_wp2_with fail
      rw [HWX.out]
      refine wp_region_noPanic ?_
      refine wp_region_held_drew (S := (fun W => (W.cell? ⟨wp.heap.size, 0, none⟩ = some (.int .i64 x1) ∧ W.cell? ⟨wp.heap.size, 1, none⟩ = some (.int .i64 x2)) ∧ W.cell? ⟨w.heap.size, 0, none⟩ = some (.int .i64 (nn : Int)))) (by kernel_rfl) ?_ (fun hHeld => ?_)
      ·exact HLS.out
      refine takeT 0 hHeld ?_
      (try simp only [Act.put, ly])
      refine takeT 1 hHeld ?_
      (try simp only [Act.put, ly])
      refine takeT 2 hHeld ?_
      (try simp only [Act.put, ly])
      refine takeT 3 hHeld ?_
      (try simp only [Act.put, ly])
      refine offT 4 hHeld ?_
      refine offT 5 hHeld ?_
      refine offT 6 hHeld ?_
      refine offT 7 hHeld ?_
      refine offT 8 hHeld ?_
      refine offT 9 hHeld ?_
      (try simp only [Act.put, ly])
      refine takeT 10 hHeld ?_
      (try simp only [Act.put, ly])
      refine wpAnyH_done (by kernel_rfl) ?_ _
      refine NoPanic.normal ?_
      go_wp2_with fail
      go_ret
      exact ⟨⟨_, rfl, HV⟩, by have := HBX.out; exact bel⟩
     have d1 : decide (x1 < 1) = false := decide_eq_false z0
     by_cases z1 : (p : Int) ≤ x1
     ·have HV := Lib.hid (HBAD.out (fun h => by omega))
      have d2 : decide ((p : Int) ≤ x1) = true := decide_eq_true z1
      clear z0 z1
      go_wp2_with fail
      rw [HWX.out]
      refine wp_region_noPanic ?_
      refine wp_region_held_drew (S := (fun W => (W.cell? ⟨wp.heap.size, 0, none⟩ = some (.int .i64 x1) ∧ W.cell? ⟨wp.heap.size, 1, none⟩ = some (.int .i64 x2)) ∧ W.cell? ⟨w.heap.size, 0, none⟩ = some (.int .i64 (nn : Int)))) (by kernel_rfl) ?_ (fun hHeld => ?_)
      ·exact HLS.out
      refine takeT 0 hHeld ?_
      (try simp only [Act.put, ly])
      refine takeT 1 hHeld ?_
      (try simp only [Act.put, ly])
      refine takeT 2 hHeld ?_
      (try simp only [Act.put, ly])
      refine takeT 3 hHeld ?_
      (try simp only [Act.put, ly])
      refine takeT 4 hHeld ?_
      (try simp only [Act.put, ly])
      refine takeT 5 hHeld ?_
      (try simp only [Act.put, ly])
      refine takeT 6 hHeld ?_
      (try simp only [Act.put, ly])
      refine takeT 7 hHeld ?_
      (try simp only [Act.put, ly])
      refine takeT 8 hHeld ?_
      (try simp only [Act.put, ly])
      refine takeT 9 hHeld ?_
      (try simp only [Act.put, ly])
      refine takeT 10 hHeld ?_
      (try simp only [Act.put, ly])
      refine wpAnyH_done (by kernel_rfl) ?_ _
      refine NoPanic.normal ?_
      go_wp2_with fail
      go_ret
      exact ⟨⟨_, rfl, HV⟩, by have := HBX.out; exact bel⟩
     have d2 : decide ((p : Int) ≤ x1) = false := decide_eq_false z1
     have HX1 : Hid (1 ≤ x1 ∧ x1 < (p : Int)) := by show _ ∧ _; omega
     obtain ⟨k', hk'⟩ : ∃ k', (if ((knF l q) (.int .i64 x1)).isSome then k else k + 1) = k' := ⟨_, rfl⟩
     have HK' := Lib.hid hk'
     clear z0 z1 hk'
     go_wp2_with fail
     rw [HWX.out]
     refine wp_region_noPanic ?_
     refine wp_region_held_drew (S := (fun W => (W.cell? ⟨wp.heap.size, 0, none⟩ = some (.int .i64 x1) ∧ W.cell? ⟨wp.heap.size, 1, none⟩ = some (.int .i64 x2)) ∧ W.cell? ⟨w.heap.size, 0, none⟩ = some (.int .i64 (nn : Int)))) (by kernel_rfl) ?_ (fun hHeld => ?_)
     ·exact HLS.out
     refine takeT 0 hHeld ?_
     (try simp only [Act.put, ly])
     refine takeT 1 hHeld ?_
     (try simp only [Act.put, ly])
     refine takeT 2 hHeld ?_
     (try simp only [Act.put, ly])
     refine takeT 3 hHeld ?_
     (try simp only [Act.put, ly])
     refine takeT 4 hHeld ?_
     (try simp only [Act.put, ly])
     refine takeT 5 hHeld ?_
     (try simp only [Act.put, ly])
     refine takeT 6 hHeld ?_
     (try simp only [Act.put, ly])
     refine takeT 7 hHeld ?_
     (try simp only [Act.put, ly])
     refine takeT 8 hHeld ?_
     (try simp only [Act.put, ly])
     refine takeT 9 hHeld ?_
     (try simp only [Act.put, ly])
     refine takeT 10 hHeld ?_
     (try simp only [Act.put, ly])
     refine wpAnyH_done (by kernel_rfl) ?_ _
     refine NoPanic.normal ?_
     obtain ⟨g0, g1⟩ := HLS.out.1
     go_wp2_with (at_mapUpdate; refine wpList_putF _ rfl _ _ _ rfl keyed_int Tryz.underlying186 rfl HMX.out.drew (by omega) (.int .i64 x1) (.int .i64 x1) x2 rfl rfl (key_int zb1) zb2 k' HK'.out ?_)
     intro w7 hM7 hg7
     have y9 := hg7.size
     have HM7 : Hid (MapF w7 3 wo.heap.size (q + 1) k' (knF l (q + 1))) := by show MapF _ _ _ _ _ _; rw [knF_next HX.out]; exact hM7
     have HL7 : Hid (Loc w7 w.heap.size 84 #[.int .i64 (nn : Int), .slice A m cap0]) := loc_grown (w := wx.drew) HLX.out hg7 (fun e => by injection e with e; omega)
     have HB7 : Hid (Below w.heap.size w w7) := (HBX.out.drew).grown hg7 (by have := HBX.out.size; exact this) (fun z hz => by injection hz with hz; omega)
     have HR7 : Hid (∀ (i : Nat) (x : Int × Int), i < q + 1 → l[i]? = some x → 1 ≤ x.1 ∧ x.1 < (p : Int)) := fun i x hi hx => by
      by_cases e : i < q
      ·exact hR.out i x e hx
      ·obtain rfl : i = q := by omega
       rw [HX.out] at hx
       injection hx with hx
       subst hx
       exact HX1.out
     clear hM7 hg7 g0 g1
     go_wp2_with fail
     go_roundw
     case rel => exact ⟨q + 1, k', by omega, by go_num, HM7, HR7, HL7, HB7.out⟩
     case measure => simp only [intOf]; omega
    ·obtain rfl : q = n := by omega
     have HRNG : Hid (∀ x ∈ l, 1 ≤ x.1 ∧ x.1 < (p : Int)) := fun x hx => by
      obtain ⟨i, hi, rfl⟩ := List.getElem_of_mem hx
      exact hR.out i _ (by rw [← HN.out]; exact hi) (List.getElem?_eq_getElem hi)
     have hwbs : wo.heap.size < wp.heap.size := hM.out.lt
     have hnq : ¬ (q : Int) < (q : Int) := by omega
     clear hR
     go_wp2_with fail
     clear hnq
     go_loopw [65] (fun i wr => ∃ (t : Nat), t ≤ q ∧ i = .int .i64 t ∧ Hid (MapF wr 3 wo.heap.size q k (knF l q)) ∧ Hid (∀ (i : Nat) (x : Int × Int), i < t → l[i]? = some x → 0 < x.2 → HardP L x.1.toNat x.2 (knF l q)) ∧ Hid (Loc wr w.heap.size 84 #[.int .i64 (nn : Int), .slice A m cap0]) ∧ Below w.heap.size w wr) (fun i _ => q - (intOf i).toNat)
     case atStart => exact ⟨0, by omega, rfl, hM, Lib.hid (fun i x hi => absurd hi (by omega)), hL, hB7⟩
     case round =>
      clear hM hL hB7
      obtain ⟨t, ht, rfl, hM, hG, hL, hB8⟩ := hrel
      obtain ⟨wq, rfl⟩ : ∃ wq : World, wq = wr := ⟨_, rfl⟩
      have y8 := hB8.size; (try simp only [zs] at y8)
      have hwbq : wo.heap.size < wq.heap.size := hM.out.lt
      by_cases hlt3 : t < q
      ·obtain ⟨⟨x1, x2⟩, hx⟩ : ∃ z, l[t]? = some z := ⟨_, List.getElem?_eq_getElem (by rw [HN.out]; exact hlt3)⟩
       obtain ⟨a, rfl, hab, cx, cx2, zb1, zb2⟩ := (HT2.out.keep (.of_below hB8)).at hx
       simp only at cx cx2 zb1 zb2
       rw [addr_one] at cx2
       have HX := Lib.hid hx
       have hxr := HRNG.out (x1, x2) (List.mem_of_getElem? hx)
       simp only at hxr
       obtain ⟨S, rfl⟩ : ∃ S : Nat, x1 = (S : Int) := ⟨x1.toNat, by omega⟩
       have hSb : S < 4611686018427387904 := by omega
       have k0 : (0 : Int) ≤ (t : Int) := by omega
       have k1 : (t : Int) < (q : Int) := by omega
       have hbx : Below wq.heap.size wq (wq.alloc (.cells #[.int .i64 (S : Int), .int .i64 x2] 222)) := below1 _ _
       have LX : Loc (wq.alloc (.cells #[.int .i64 (S : Int), .int .i64 x2] 222)) wq.heap.size 222 #[.int .i64 (S : Int), .int .i64 x2] := made1 wq _ _
       have HLX : Hid (Loc (wq.alloc (.cells #[.int .i64 (S : Int), .int .i64 x2] 222)) w.heap.size 84 #[.int .i64 (nn : Int), .slice A m cap0]) := Loc.below hL.out hbx
       have HMX : Hid (MapF (wq.alloc (.cells #[.int .i64 (S : Int), .int .i64 x2] 222)) 3 wo.heap.size q k (knF l q)) := hM.out.below hbx hwbq
       have c0 := Loc.cell HLX.out 0
       have c1 := Loc.cell HLX.out 1
       simp only [List.getElem?_toArray, List.getElem?_cons_zero, List.getElem?_cons_succ] at c0 c1
       have HNEXT : Hid ((0 < x2 → HardP L S x2 (knF l q)) → ∀ (i : Nat) (x : Int × Int), i < t + 1 → l[i]? = some x → 0 < x.2 → HardP L x.1.toNat x.2 (knF l q)) := fun hh i x hi hx' h0 => by
        by_cases e : i < t
        ·exact hG.out i x e hx' h0
        ·obtain rfl : i = t := by omega
         rw [HX.out] at hx'
         injection hx' with hx'
         subst hx'
         simp only [Int.toNat_natCast] at h0 ⊢
         exact hh h0
       have HBAD : Hid (0 < x2 → ¬ HardP L S x2 (knF l q) → HdCode (nn : Int) L l depth 13) := fun h0 hq' => HBADX.out (fun h => hq' (by
        have h9 := (h.1 _ (List.mem_of_getElem? HX.out)).2
        rw [HN.out] at h9
        simp only [Int.toNat_natCast] at h9
        exact h9 h0))
       clear hx LX hxr
       by_cases z0 : 0 < x2
       ·have d1 : decide (0 < x2) = true := decide_eq_true z0
        go_wp2_with fail
        refine (hard_any _ (nn : Int) _ L S x2 wo.heap.size q k (knF l q) (H2.out.keep kp) HMN.out HMX.out hSb ⟨z0, zb2.2⟩).mono ?_
        rintro e w9 ⟨⟨b9, rfl, hb9⟩, hbz⟩
        have y9 := hbz.size; (try simp only [zs] at y9)
        have HL9 : Hid (Loc w9 w.heap.size 84 #[.int .i64 (nn : Int), .slice A m cap0]) := Loc.below HLX.out hbz
        have HM9 : Hid (MapF w9 3 wo.heap.size q k (knF l q)) := HMX.out.below hbz (by simp only [World.size_alloc]; omega)
        cases b9
        ·have HV := Lib.hid (HBAD.out z0 (fun h => by have := hb9.out.2 h; cases this))
         clear hb9
         go_wp2_with fail
         go_ret
         exact ⟨⟨_, rfl, HV⟩, bel⟩
        ·have HNX := Lib.hid (HNEXT.out (fun _ => hb9.out.1 rfl))
         clear hb9 z0
         go_wp2_with fail
         go_roundw
         case rel => exact ⟨t + 1, by omega, by go_num, HM9, HNX, HL9, bel⟩
         case measure => simp only [intOf]; omega
       ·have d1 : decide (0 < x2) = false := decide_eq_false z0
        have HNX := Lib.hid (HNEXT.out (fun h => absurd h z0))
        clear z0
        go_wp2_with fail
        go_roundw
        case rel => exact ⟨t + 1, by omega, by go_num, HMX, HNX, HLX, bel⟩
        case measure => simp only [intOf]; omega
      ·obtain rfl : t = q := by omega
       have HGOOD : Hid (∀ x ∈ l, GoodE (nn : Int) L (knF l l.length) x) := fun x hx => by
        have h1 := HRNG.out x hx
        refine ⟨by rw [HPE.out]; omega, fun h0 => ?_⟩
        obtain ⟨i, hi, rfl⟩ := List.getElem_of_mem hx
        rw [HN.out]
        exact hG.out i _ (by rw [← HN.out]; exact hi) (List.getElem?_eq_getElem hi) h0
       have k9 : IntKind.i64.wrap ((p : Int) - 1) = ((p - 1 : Nat) : Int) := by rw [IntKind.wrap_i64]; omega
       have hrun := hM.out.look keyed_int Tryz.underlying186 (key_int (z := ((p - 1 : Nat) : Int)) (by omega))
       obtain ⟨o, ho⟩ : ∃ o, knF l t (.int .i64 ((p - 1 : Nat) : Int)) = o := ⟨_, rfl⟩
       have HTOP : Hid (TopE (nn : Int) (knF l l.length) depth ↔ (0 < depth → ∃ d, o = some d ∧ depth ≤ d)) := by
        show _ ↔ _
        unfold TopE
        rw [HPE.out, HN.out, ho]
       rw [ho] at hrun
       have c0 := Loc.cell hL.out 0
       simp only [List.getElem?_toArray, List.getElem?_cons_zero, List.getElem?_cons_succ] at c0
       have hnq : ¬ (t : Int) < (t : Int) := by omega
       have HBAD : Hid (¬ (0 < depth → ∃ d, o = some d ∧ depth ≤ d) → HdCode (nn : Int) L l depth 13) := fun h => HBADX.out (fun h' => h (HTOP.out.1 h'.2))
       have HOK : Hid ((0 < depth → ∃ d, o = some d ∧ depth ≤ d) → HdCode (nn : Int) L l depth 0) := fun h => HOKX.out ⟨HGOOD.out, HTOP.out.2 h⟩
       clear ho
       cases o with
       | none =>
         have hr2 : (Instr.lookup 186 (.map (some wo.heap.size)) (.int .i64 ((p - 1 : Nat) : Int)) true).run Tryz.prog wq = .ok (.tuple #[.int .i64 0, .bool false]) wq := hrun
         clear hrun
         by_cases z0 : 0 < depth
         ·have HV := Lib.hid (HBAD.out (fun h => by obtain ⟨d, h1, -⟩ := h z0; cases h1))
          have d1 : decide (0 < depth) = true := decide_eq_true z0
          clear z0
          go_wp2_with fail
          go_ret
          exact ⟨⟨_, rfl, HV⟩, bel⟩
         ·have HV := Lib.hid (HOK.out (fun h => absurd h z0))
          have d1 : decide (0 < depth) = false := decide_eq_false z0
          clear z0
          go_wp2_with fail
          go_ret
          exact ⟨⟨_, rfl, HV⟩, bel⟩
       | some d =>
         have hr2 : (Instr.lookup 186 (.map (some wo.heap.size)) (.int .i64 ((p - 1 : Nat) : Int)) true).run Tryz.prog wq = .ok (.tuple #[.int .i64 d, .bool true]) wq := hrun
         clear hrun
         by_cases z0 : 0 < depth
         ·have d1 : decide (0 < depth) = true := decide_eq_true z0
          by_cases z1 : d < depth
          ·have HV := Lib.hid (HBAD.out (fun h => by obtain ⟨d', h1, h2⟩ := h z0; injection h1 with h1; omega))
           have d2 : decide (d < depth) = true := decide_eq_true z1
           clear z0 z1
           go_wp2_with fail
           go_ret
           exact ⟨⟨_, rfl, HV⟩, bel⟩
          ·have HV := Lib.hid (HOK.out (fun _ => ⟨d, rfl, by omega⟩))
           have d2 : decide (d < depth) = false := decide_eq_false z1
           clear z0 z1
           go_wp2_with fail
           go_ret
           exact ⟨⟨_, rfl, HV⟩, bel⟩
         ·have HV := Lib.hid (HOK.out (fun h => absurd h z0))
          have d1 : decide (0 < depth) = false := decide_eq_false z0
          clear z0
          go_wp2_with fail
          go_ret
          exact ⟨⟨_, rfl, HV⟩, bel⟩
end Go.Proofs.YtbdcjhoedhhabaaGreat

