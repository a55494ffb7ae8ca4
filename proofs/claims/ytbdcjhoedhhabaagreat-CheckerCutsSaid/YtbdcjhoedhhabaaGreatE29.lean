/- Contracts of the functions that the statements reach, part 29. -/
import Derived.Test.YtbdcjhoedhhabaaGreatRows
import Derived.Test.YtbdcjhoedhhabaaGreatE28
set_option linter.unusedSimpArgs false
set_option linter.unusedVariables false

/- digraph.simple, next, Successors. -/
namespace Go.Proofs.YtbdcjhoedhhabaaGreat
open Go.RowKit Go.Sort Go.Shelf
attribute [local go_sem ↓] Go.wp_at_zero Go.wp_at_succ

theorem loc_row {w w' : World} {g h : Nat} {t : TypeId} {cs : Array Value} (L : Loc w h t cs) (hg : w.grownBy w' (some g)) (hne : h ≠ g) : Loc w' h t cs := (hg.block h L.lt (fun e => hne (by injection e))).trans L

set_option maxRecDepth 100000 in
set_option maxHeartbeats 8000000 in
theorem dsimple_any (w : World) (n : Int) (v : Value) (es : List (Int × Int)) (h : Tims w v es) (hg : GraphOk n es) (hm : es.length ≤ 1000) :
 Calls Tryz.prog 374 #[.int .i64 n, v] w fun e w' => (∃ (A : Option Addr) (k c : Nat) (es' : List (Int × Int)), e = .returned (.agg #[.int .i64 n, .slice A k c]) ∧ k ≤ 1000 ∧ Hid (es'.length = k) ∧ Hid (Tims w' (.slice A k c) es') ∧ Hid (∀ x, x ∈ es' ↔ x ∈ es) ∧ Hid (∀ a : Addr, A = some a → w.heap.size ≤ a.block)) ∧ Below w.heap.size w w' := by
 have H := Lib.hid h
 have HG := Lib.hid hg
 obtain ⟨A, cap, rfl, h, l1, l2⟩ := h.op
 obtain ⟨m, hm'⟩ : ∃ m, es.length = m := ⟨_, rfl⟩
 have HM := Lib.hid hm'
 have H2 : Hid (Tims w (.slice A m cap) es) := by have h9 := H.out; rw [hm'] at h9; exact h9
 rw [hm'] at l1 hm ⊢
 clear h hg hm' H
 have LR := made1 w #[.int .i64 0, .slice none 0 0] 109
 go_enter Tryz.func374, Tryz.ntmps374
 go_wp2_with fail
 refine (cloneE_any _ _ es (H2.out.keep kp) (by rw [HM.out]; exact hm)).mono ?_
 rintro e w1 ⟨⟨v1, rfl, ho⟩, hb1⟩
 have y1 := hb1.size; (try simp only [zs] at y1)
 have HLR : Hid (Loc w1 w.heap.size 109 #[.int .i64 0, .slice none 0 0]) := by show Loc _ _ _ _; exact Loc.below LR hb1
 have HB1 : Hid (Below w.heap.size w w1) := by show Below _ _ _; exact bel
 have HBZ : Hid (∀ x : Int × Int, x ∈ es → (-9223372036854775808 ≤ x.1 ∧ x.1 ≤ 9223372036854775807) ∧ (-9223372036854775808 ≤ x.2 ∧ x.2 ≤ 9223372036854775807)) := fun x hx => by
  have h1 := HG.out.1
  have h2 := HG.out.2.2 x hx
  omega
 clear LR hb1
 by_cases hm0 : m = 0
 ·obtain rfl : es = [] := List.eq_nil_of_length_eq_zero (by rw [HM.out]; exact hm0)
  obtain ⟨A1, c1, rfl⟩ : ∃ A1 c1, v1 = .slice A1 0 c1 := by
   rcases ho.out with ⟨rfl, -⟩ | ⟨g, cap, cur, rfl, -⟩
   ·exact ⟨_, _, rfl⟩
   ·exact ⟨_, _, rfl⟩
  have HO : Hid (Tims w1 (.slice A1 0 c1) []) := ho.out.tims HBZ.out
  have HAB : Hid (∀ a : Addr, A1 = some a → w.heap.size ≤ a.block) := fun a ha => by
   rcases ho.out with ⟨h', -⟩ | ⟨g, cap, cur, h', h2, -⟩
   ·injection h' with h'; rw [ha] at h'; cases h'
   ·injection h' with h'
    rw [ha] at h'
    injection h' with h'
    subst h'
    simp only [World.size_alloc] at h2
    show w.heap.size ≤ g
    omega
  subst hm0
  clear ho
  have hs := fun W => sort0_any A1 c1 W
  have hc := fun W => compact0_any A1 0 c1 W (by decide)
  obtain ⟨⟨e1, e2⟩, g1, q1⟩ := Loc.two HLR.out
  go_wp2_with fail
  refine (hs _).mono ?_
  rintro e w2 ⟨rfl, rfl⟩
  go_wp2_with fail
  refine (hc _).mono ?_
  rintro e w3 ⟨rfl, hb3⟩
  have y3 := hb3.size; (try simp only [zs] at y3)
  have HL3 : Hid (Loc w3 w.heap.size 109 #[.int .i64 0, .slice none 0 0]) := Loc.below HLR.out hb3
  have HB3 : Hid (Below w.heap.size w w3) := HB1.out.trans (hb3.mono HB1.out.size)
  have HT3 : Hid (∀ W, Tims W (.slice A1 0 c1) []) := fun W => by
   obtain ⟨A9, c9, e9, -, l8, l9⟩ := HO.out.op
   injection e9 with e7 e8 e9
   subst e9
   exact ⟨A1, c1, rfl, Nat.zero_le _, l9, fun h => absurd rfl h, fun z hz => by simp at hz⟩
  obtain ⟨⟨e3, e4⟩, g3, q3⟩ := Loc.two HL3.out
  clear hs hc e1 e2 g1 q1
  go_wp2_with fail
  refine bodyPost_ret (by simp [results, Tryz.results374, go_sem, e3, e4, g3] <;> rfl) rfl ?_
  exact ⟨⟨A1, 0, c1, [], rfl, by omega, Lib.hid rfl, HT3.out _, Lib.hid (fun x => Iff.rfl), HAB⟩, below_set2 HB3.out (Nat.le_refl _) _ _⟩
 obtain ⟨g, c1, cur, hv1, hbg, hlc, q1, q2, q3, q4⟩ : ∃ g cap cur, v1 = .slice (some ⟨g, 0, none⟩) es.length cap ∧ (w.alloc (.cells #[.int .i64 0, .slice none 0 0] 109)).heap.size ≤ g ∧ Loc w1 g 200 cur ∧ es.length ≤ cap ∧ cap ≤ maxLen ∧ cur.size = cap * 2 ∧ CellsE cur es := by
  rcases ho.out with ⟨-, h'⟩ | ⟨g, cap, cur, h0, h1, h2, h3, h4, h5, h6⟩
  ·rw [h'] at HM; exact absurd HM.out.symm hm0
  ·exact ⟨g, cap, cur, h0, h1, h2, h3, h4, h5, h6⟩
 simp only [World.size_alloc] at hbg
 subst hv1
 have HLC := Lib.hid hlc
 have HCE := Lib.hid q4
 have hs := sortE_any w1 g c1 cur es hlc q4 (fun e he => by have := HG.out.1; have := HG.out.2.2 e he; omega) (by rw [HM.out]; exact hm)
 rw [HM.out] at hs
 rw [HM.out] at q1
 rw [HM.out]
 clear ho hlc q4
 go_wp2_with fail
 refine hs.mono ?_
 rintro e w2 ⟨rfl, ⟨es2, cur2, hq2⟩, hg2⟩
 have y2 := hg2.size
 clear hs
 have HL2 : Hid (Loc w2 w.heap.size 109 #[.int .i64 0, .slice none 0 0]) := loc_row HLR.out hg2 (by omega)
 have HB2 : Hid (Below w.heap.size w w2) := HB1.out.grown hg2 HB1.out.size (fun b hb => by injection hb with hb; omega)
 go_wp2_with fail
 refine (compactE_any w2 g m c1 cur2 es2 hq2.out.1 hq2.out.2.2.1 (by have := hq2.out.2.2.2.1; have := HM.out; omega) q1 (by rw [hq2.out.2.1]; exact q3) hm).mono ?_
 rintro e w3 ⟨⟨k, es3, cur3, rfl, hkm, hq3⟩, hg3⟩
 have y3 := hg3.size
 have HL3 : Hid (Loc w3 w.heap.size 109 #[.int .i64 0, .slice none 0 0]) := loc_row HL2.out hg3 (by omega)
 have HB3 : Hid (Below w.heap.size w w3) := HB2.out.grown hg3 HB2.out.size (fun b hb => by injection hb with hb; omega)
 have HMEM : Hid (∀ x, x ∈ es3 ↔ x ∈ es) := fun x => (hq3.out.2.2.2.2 x).trans (hq2.out.2.2.2.2 x)
 have HT3 : Hid (∀ u v, Tims ((w3.setCell ⟨w.heap.size, 0, none⟩ u).setCell ⟨w.heap.size, 1, none⟩ v) (.slice (some ⟨g, 0, none⟩) k c1) es3) := fun u v => by
  have h9 : OwnE ((w3.setCell ⟨w.heap.size, 0, none⟩ u).setCell ⟨w.heap.size, 1, none⟩ v) 0 (.slice (some ⟨g, 0, none⟩) es3.length c1) es3 := .inr ⟨g, c1, cur3, rfl, Nat.zero_le _, (hq3.out.1.far (p := ⟨w.heap.size, 0, none⟩) (by show ¬ g = w.heap.size; omega) _).far (p := ⟨w.heap.size, 1, none⟩) (by show ¬ g = w.heap.size; omega) _, by rw [hq3.out.2.2.2.1]; omega, q2, by rw [hq3.out.2.1, hq2.out.2.1]; exact q3, hq3.out.2.2.1⟩
  have h8 := h9.tims (fun x hx => HBZ.out x ((HMEM.out x).1 hx))
  rw [hq3.out.2.2.2.1] at h8
  exact h8
 have HKL : Hid (es3.length = k) := hq3.out.2.2.2.1
 obtain ⟨⟨e3, e4⟩, g3, z3⟩ := Loc.two HL3.out
 clear hq2 hq3 hg2 hg3
 go_wp2_with fail
 refine bodyPost_ret (by simp [results, Tryz.results374, go_sem, e3, e4, g3] <;> rfl) rfl ?_
 exact ⟨⟨_, k, c1, es3, rfl, by omega, HKL, HT3.out _ _, HMEM, Lib.hid (fun a ha => by injection ha with ha; rw [← ha]; show w.heap.size ≤ g; omega)⟩, below_set2 HB3.out (Nat.le_refl _) _ _⟩

theorem field_edges (n : Int) (v : Value) (W : World) : (Instr.field 109 (.agg #[.int .i64 n, v]) 1).run Tryz.prog W = .ok v W := by kernel_rfl
attribute [local go_sem] field_edges

set_option maxRecDepth 100000 in
set_option maxHeartbeats 16000000 in
theorem dnext_any (w : World) (n : Nat) (v : Value) (es : List (Int × Int)) (h : Tims w v es) (hg : GraphOk n es) (hm : es.length ≤ 1000) :
 Calls Tryz.prog 279 #[.int .i64 n, v] w fun e w' => (∃ (g : Nat) (L : List (List Int)), e = .returned (.slice (some ⟨g, 0, none⟩) n n) ∧ Hid (IMat w' (.slice (some ⟨g, 0, none⟩) n n) L) ∧ Hid (L.length = n) ∧ Hid (∀ (i : Nat) (l : List Int), L[i]? = some l → ∀ x, x ∈ l ↔ ((i : Int), x) ∈ es)) ∧ Below w.heap.size w w' := by
 have H := Lib.hid h
 have HG := Lib.hid hg
 have HM0 := Lib.hid hm
 have hn : n ≤ 4096 := by have := hg.1; omega
 obtain ⟨A, cap, rfl, h, l1, l2⟩ := h.op
 obtain ⟨m0, hm0⟩ : ∃ m, es.length = m := ⟨_, rfl⟩
 have H2 : Hid (Tims w (.slice A m0 cap) es) := by have h9 := H.out; rw [hm0] at h9; exact h9
 rw [hm0]
 clear h hg hm H l1 l2 hm0
 go_enter Tryz.func279, Tryz.ntmps279
 go_wp2_with (at_make; refine wpList_makeN _ rfl _ _ rfl Tryz.underlying82 info_ints rfl w.heap.size n rfl rfl rfl rfl (by omega) (by unfold maxLen; omega) (Nat.le_refl _) ?_)
 intro w1 hrow hg1
 have HB1 : Hid (Below w.heap.size w w1) := below_none (Below.refl _ _) hg1 (Nat.le_refl _)
 have hB1 := HB1.out
 have y1 := hB1.size; (try simp only [zs] at y1)
 have HAJ : Hid (Adj w1 w.heap.size w.heap.size n (fun _ => .slice none 0 0) (fun _ => [])) := Adj.start (base := w.heap.size) (rowL_zeros hrow)
 have hw1 : w.heap.size < w1.heap.size := HAJ.out.lt
 clear hrow hg1
 go_wp2_with fail
 refine (dsimple_any _ n _ es (H2.out.keep (.of_below hB1)) HG.out HM0.out).mono ?_
 rintro e w2 ⟨⟨AE, me, cE, es2, rfl, hme, hme2, hT, hmem, hab2⟩, hb2⟩
 have y2 := hb2.size; (try simp only [zs] at y2)
 have HB2 : Hid (Below w.heap.size w w2) := HB1.out.trans (hb2.mono y1)
 have HAJ2 : Hid (Adj w2 w.heap.size w.heap.size n (fun _ => .slice none 0 0) (adj es2 0)) := (HAJ.out.below hb2).cong (fun _ _ => rfl) (fun i _ => (adj_zero es2 i).symm)
 have HR2 : Hid (∀ e ∈ es2, ((0 ≤ e.1 ∧ e.1 < (n : Int)) ∧ 0 ≤ e.2 ∧ e.2 < (n : Int))) := fun e he => HG.out.2.2 e ((hmem.out e).1 he)
 go_wp2_with fail
 go_loopw [15] (fun i wr => ∃ (c : Nat) (V : Nat → Value), c ≤ me ∧ i = .int .i64 c ∧ Hid (Adj wr w.heap.size w.heap.size n V (adj es2 c)) ∧ Hid (∀ k b, k < n → (V k).ownBlock = some b → w2.heap.size ≤ b) ∧ Hid (Keep (fun b => b = w.heap.size) w2 wr) ∧ Below w.heap.size w wr) (fun i _ => me - (intOf i).toNat)
 case atStart => exact ⟨0, _, by omega, rfl, HAJ2, Lib.hid (fun k b _ h => by cases h), Keep.refl _ _, HB2.out⟩
 case round =>
  clear HAJ2 HB2 HAJ HB1
  obtain ⟨c, V, hc, rfl, hAJ, hVB, hK, hB⟩ := hrel
  obtain ⟨wo, rfl⟩ : ∃ wo : World, wo = wr := ⟨_, rfl⟩
  have y5 := hB.size; (try simp only [zs] at y5)
  have hk2 := hK.out.size
  have hwo : w.heap.size < wo.heap.size := hAJ.out.lt
  by_cases hlt : c < me
  ·obtain ⟨⟨x, y⟩, hz⟩ : ∃ e, es2[c]? = some e := ⟨_, List.getElem?_eq_getElem (by rw [hme2.out]; exact hlt)⟩
   obtain ⟨a, rfl, hab, cx0, cx20, zb1, zb2⟩ := hT.out.at hz
   simp only at cx0 cx20 zb1 zb2
   rw [addr_one] at cx20
   have hne : ¬ a.block = w.heap.size := by have := hab2.out a rfl; omega
   have cx : wo.cell? (a.add (c * 2)) = some (.int .i64 x) := cell_keep (X := fun b => b = w.heap.size) cx0 (by rw [add_block]; exact hab) (by rw [add_block]; exact hne) hK.out
   have cx2 : wo.cell? ⟨(a.add (c * 2)).block, (a.add (c * 2)).off + 1, none⟩ = some (.int .i64 y) := cell_keep (X := fun b => b = w.heap.size) cx20 (by show (a.add (c * 2)).block < _; rw [add_block]; exact hab) (by show ¬ (a.add (c * 2)).block = _; rw [add_block]; exact hne) hK.out
   have hr := HR2.out _ (List.mem_of_getElem? hz)
   simp only at hr
   obtain ⟨k, rfl⟩ : ∃ k : Nat, x = (k : Int) := ⟨x.toNat, by omega⟩
   have hkn : k < n := by omega
   have HNX := Lib.hid (adj_next hz)
   have hlen : (adj es2 c k).length ≤ 1000 := by have := adj_len es2 c k; omega
   obtain ⟨A0, c0, hV⟩ := hAJ.out.shape hkn
   obtain ⟨m0', hm0⟩ : ∃ q, (adj es2 c k).length = q := ⟨_, rfl⟩
   have HM0' := Lib.hid hm0
   rw [hm0] at hV hlen
   have HV := Lib.hid hV
   have k0 : (0 : Int) ≤ (c : Int) := by omega
   have k1 : (c : Int) < (me : Int) := by omega
   have k2 : (0 : Int) ≤ (k : Int) := by omega
   have k3 : (k : Int) < (n : Int) := by omega
   obtain ⟨wx, hwx⟩ : ∃ W, wo.alloc (.cells #[.int .i64 (k : Int), .int .i64 y] 200) = W := ⟨_, rfl⟩
   have HWX := Lib.hid hwx
   have hbx : Below wo.heap.size wo wx := by rw [← hwx]; exact below1 _ _
   have HBX : Hid (Below w.heap.size w wx) := hB.trans (hbx.mono (by omega))
   have HKX : Hid (Keep (fun b => b = w.heap.size) w2 wx) := by show Keep _ _ _; rw [← hwx]; exact hK.out.alloc _
   have LX : Hid (Loc wx wo.heap.size 200 #[.int .i64 (k : Int), .int .i64 y]) := by show Loc _ _ _ _; rw [← hwx]; exact made1 wo _ _
   have HAX : Hid (Adj wx w.heap.size w.heap.size n V (adj es2 c)) := hAJ.out.below hbx
   have hxs : w.heap.size < wx.heap.size := HAX.out.lt
   have hx2 : w2.heap.size ≤ wx.heap.size := by have := hbx.size; omega
   have HSS : Hid (∀ W, Below wx.heap.size wx W → (W.cell? ⟨wo.heap.size, 0, none⟩ = some (.int .i64 (k : Int)) ∧ W.cell? ⟨wo.heap.size, 1, none⟩ = some (.int .i64 y)) ∧ W.cell? ⟨w.heap.size, k, none⟩ = some (.slice A0 m0' c0)) := fun W hW => by
    have h9 := (HAX.out.below hW).cell hkn
    rw [HV.out] at h9
    exact ⟨⟨Loc.cell (LX.out.below hW) 0, Loc.cell (LX.out.below hW) 1⟩, h9⟩
   clear hz hm0 hV hwx hbx cx0 cx20
   go_wp2_with fail
   rw [HWX.out]
   clear cx cx2
   refine wp_region_noPanic ?_
   refine wp_region_heldK (k := 13) (S := (fun W => (W.cell? ⟨wo.heap.size, 0, none⟩ = some (.int .i64 (k : Int)) ∧ W.cell? ⟨wo.heap.size, 1, none⟩ = some (.int .i64 y)) ∧ W.cell? ⟨w.heap.size, k, none⟩ = some (.slice A0 m0' c0))) (by kernel_rfl) ?_ (fun hHeld => ?_)
   ·exact HSS.out _ ((Below.refl _ _).drew)
   refine tkK 0 ?_
   (try simp only [Act.put, ly])
   refine tkK 1 ?_
   (try simp only [Act.put, ly])
   refine tkK 2 ?_
   (try simp only [Act.put, ly])
   refine tkK 3 ?_
   (try simp only [Act.put, ly])
   refine tkK 4 ?_
   (try simp only [Act.put, ly])
   refine tkK 5 ?_
   (try simp only [Act.put, ly])
   refine tkK 6 ?_
   (try simp only [Act.put, ly])
   refine tkK 7 ?_
   (try simp only [Act.put, ly])
   refine tkK 8 ?_
   (try simp only [Act.put, ly])
   refine tkK 9 ?_
   (try simp only [Act.put, ly])
   refine wpAnyK_ready (rs := [10]) (by kernel_rfl) (by simp) ?_
   refine AllReadyK.cons rfl (fun KK hKK => ?_) AllReadyK.nil
   go_simp
   (try go_wp2_with fail)
   refine hKK.out _ _ ?_ (fun hHeld => ?_)
   ·(try dsimp only)
    exact HSS.out _ ((below1 _ _).drew)
   clear hKK KK
   (try simp only [Act.put, ly])
   have hwA : Below wx.heap.size wx (wx.alloc (.cells #[.int .i64 y] 3)).drew := ((below1 wx (.cells #[.int .i64 y] 3)).drew)
   have hownA : Own1 (wx.alloc (.cells #[.int .i64 y] 3)).drew w.heap.size 3 (.slice A0 m0' c0) ((adj es2 c k).map (Value.int .i64)) := by
    have h9 := (HAX.out.below hwA).own k hkn
    rw [HV.out] at h9
    exact h9
   refine wpAnyK_ready (rs := [11]) (by kernel_rfl) (by simp) ?_
   refine AllReadyK.cons rfl (fun KK hKK => ?_) AllReadyK.nil
   refine step_pushZ _ rfl _ _ rfl w.heap.size (.slice A0 m0' c0) ((adj es2 c k).map (Value.int .i64)) rfl hownA wx.heap.size (.int .i64 y) rfl (made1 wx #[.int .i64 y] 3) rfl (by rw [List.length_map, HM0'.out]; exact hlen) (by simp only [size_drew, World.size_alloc]; omega) ?_
   intro gA capA w5 hoa2 hg2 ho2 hl2
   have y2 := hg2.size
   simp only [size_drew, World.size_alloc] at y2 ho2
   rw [List.length_map, HM0'.out] at hoa2
   rw [List.length_map, HM0'.out]
   have HS2 : Hid ((w5.cell? ⟨wo.heap.size, 0, none⟩ = some (.int .i64 (k : Int)) ∧ w5.cell? ⟨wo.heap.size, 1, none⟩ = some (.int .i64 y)) ∧ w5.cell? ⟨w.heap.size, k, none⟩ = some (.slice A0 m0' c0)) := by
    have L9 : Loc w5 wo.heap.size 200 #[.int .i64 (k : Int), .int .i64 y] := loc_other hownA hg2 (LX.out.below hwA) (by decide)
    have L8 := loc_other hownA hg2 ((HAX.out.below hwA).box) (by decide)
    refine ⟨⟨Loc.cell L9 0, Loc.cell L9 1⟩, ?_⟩
    rw [Loc.cell L8, adj_arr hkn, HV.out]
   have hvb : (Value.slice A0 m0' c0).ownBlock = some gA → w2.heap.size ≤ gA := fun h => hVB.out k gA hkn (by rw [HV.out]; exact h)
   have HGA : Hid (w2.heap.size ≤ gA) := by
    rcases ho2 with h | h
    ·exact hvb h
    ·show _ ≤ _; omega
   have HAJ2 : Hid (Adj (w5.setCell ⟨w.heap.size, k, none⟩ (.slice (some ⟨gA, 0, none⟩) (m0' + 1) capA)) w.heap.size w.heap.size n (fun i => if i = k then .slice (some ⟨gA, 0, none⟩) (m0' + 1) capA else V i) (adj es2 (c + 1))) := by
    have h9 := Adj.push HAX.out (v' := .slice (some ⟨gA, 0, none⟩) (m0' + 1) capA) (x := y) (b' := gA) hkn hwA hoa2 (by rw [HV.out]; exact hg2) (by rw [HV.out]; simp only [size_drew, World.size_alloc]; exact ho2) rfl
    exact h9.cong (fun _ _ => rfl) (fun i _ => (HNX.out i).symm)
   have HVB2 : Hid (∀ i b, i < n → ((fun i => if i = k then Value.slice (some ⟨gA, 0, none⟩) (m0' + 1) capA else V i) i).ownBlock = some b → w2.heap.size ≤ b) := fun i b hi hb => by
    simp only at hb
    by_cases e : i = k
    ·rw [if_pos e] at hb
     injection hb with hb
     rw [← hb]; exact HGA.out
    ·rw [if_neg e] at hb
     exact hVB.out i b hi hb
   have HK5 : Hid (Keep (fun b => b = w.heap.size) w2 w5) := ((HKX.out.alloc (.cells #[.int .i64 y] 3)).drew).grown hg2 (fun b hb => .inr (by
    have h9 := hVB.out k b hkn (by rw [HV.out]; exact hb)
    exact h9))
   have HB2 : Hid (Below w.heap.size w w5) := (HBX.out.trans (hwA.mono (by omega))).grown hg2 (by simp only [size_drew, World.size_alloc]; omega) (fun b hb => (Own1.lt hownA hb).2)
   have LB2 := loc_other hownA hg2 ((HAX.out.below hwA).box) (by decide)
   have HLX := Lib.hid LB2
   refine hKK.out _ _ HS2.out (fun hHeld => ?_)
   clear hKK KK LB2
   (try simp only [Act.put, ly])
   refine tkK 12 ?_
   (try simp only [Act.put, ly])
   have g0 := HS2.out.2
   have gf := Loc.frz HLX.out k
   have gl := Loc.lt HLX.out
   refine wpAnyK_ready (rs := [13]) (by kernel_rfl) (by simp) ?_
   refine AllReadyK.last (by kernel_rfl) rfl (fun KK hKK => ?_) AllReadyK.nil
   go_simp
   refine hKK.out _ _ ?_
   clear hKK KK
   (try simp only [Act.put, ly])
   refine wpAnyK_done (by kernel_rfl) ?_ _
   refine NoPanic.normal ?_
   clear g0 gf gl
   have HBE : Hid (Below w.heap.size w (w5.setCell ⟨w.heap.size, k, none⟩ (.slice (some ⟨gA, 0, none⟩) (m0' + 1) capA))) := HB2.out.setCell (p := ⟨w.heap.size, k, none⟩) (Nat.le_refl _) _
   have HKE : Hid (Keep (fun b => b = w.heap.size) w2 (w5.setCell ⟨w.heap.size, k, none⟩ (.slice (some ⟨gA, 0, none⟩) (m0' + 1) capA))) := HK5.out.set (.inl rfl) _
   go_wp2_with fail
   go_roundw
   case rel => exact ⟨c + 1, _, by omega, by go_num, HAJ2, HVB2, HKE, HBE.out⟩
   case measure => simp only [intOf]; omega
  ·obtain rfl : c = me := by omega
   obtain ⟨L, hL⟩ : ∃ L, (List.range n).map (adj es2 c) = L := ⟨_, rfl⟩
   have HN : Hid (IMat wo (.slice (some ⟨w.heap.size, 0, none⟩) n n) L) := by
    show IMat _ _ _
    rw [← hL]
    exact hAJ.out.imat (by unfold maxLen; omega) (fun i hi z hz => by
     have h9 := (HR2.out _ (adj_sub hz)).2
     simp only at h9
     omega)
   have HL : Hid (L.length = n) := by show _ = _; rw [← hL]; simp
   have HA : Hid (∀ (i : Nat) (l : List Int), L[i]? = some l → ∀ x, x ∈ l ↔ ((i : Int), x) ∈ es) := fun i l hl x => by
    have hi : i < n := by have := (List.getElem?_eq_some_iff.1 hl).1; rw [HL.out] at this; exact this
    rw [← hL, List.getElem?_map, List.getElem?_range hi] at hl
    have hl : some (adj es2 c i) = some l := hl
    injection hl with hl
    rw [← hl]
    have h9 := @adj_mem es2 i x
    rw [hme2.out] at h9
    exact h9.trans (hmem.out _)
   clear hL hAJ
   go_wp2_with fail
   go_ret
   exact ⟨⟨_, L, rfl, HN, HL, HA⟩, hB⟩

set_option maxRecDepth 100000 in
set_option maxHeartbeats 8000000 in
theorem successors_any (w : World) (n : Nat) (v : Value) (es : List (Int × Int)) (h : Tims w v es) (hg : GraphOk n es) (hm : es.length ≤ 1000) :
 Calls Tryz.prog 158 #[.agg #[.int .i64 n, v]] w fun e w' => (∃ (g : Nat) (L : List (List Int)), e = .returned (.tuple #[.slice (some ⟨g, 0, none⟩) n n, .int .i64 0]) ∧ Hid (IMat w' (.slice (some ⟨g, 0, none⟩) n n) L) ∧ Hid (L.length = n) ∧ Hid (∀ (i : Nat) (l : List Int), L[i]? = some l → ∀ x, x ∈ l ↔ ((i : Int), x) ∈ es)) ∧ Below w.heap.size w w' := by
 have H := Lib.hid h
 have HG := Lib.hid hg
 have HM0 := Lib.hid hm
 obtain ⟨A, cap, rfl, h, l1, l2⟩ := h.op
 obtain ⟨m0, hm0⟩ : ∃ m, es.length = m := ⟨_, rfl⟩
 have H2 : Hid (Tims w (.slice A m0 cap) es) := by have h9 := H.out; rw [hm0] at h9; exact h9
 rw [hm0]
 clear h hg hm H l1 l2 hm0
 have LG := made1 w #[.int .i64 n, .slice A m0 cap] 109
 go_enter Tryz.func158, Tryz.ntmps158
 go_wp2_with fail
 refine (dcheck_any _ n _ es (H2.out.keep kp)).mono ?_
 rintro e w1 ⟨⟨r, rfl, hr⟩, hb1⟩
 have y1 := hb1.size; (try simp only [zs] at y1)
 obtain rfl : r = 0 := hr.out.2 HG.out
 have HB1 : Hid (Below w.heap.size w w1) := by show Below _ _ _; exact bel
 have HLG : Hid (Loc w1 w.heap.size 109 #[.int .i64 n, .slice A m0 cap]) := by show Loc _ _ _ _; exact Loc.below LG hb1
 obtain ⟨⟨e1, e2⟩, g1, q1⟩ := Loc.two HLG.out
 clear hr LG hb1
 go_wp2_with fail
 refine (dnext_any _ n _ es (H2.out.keep (.of_below HB1.out)) HG.out HM0.out).mono ?_
 rintro e w2 ⟨⟨g, L, rfl, hN, hL, hA⟩, hb2⟩
 have y2 := hb2.size; (try simp only [zs] at y2)
 have HB2 : Hid (Below w.heap.size w w2) := HB1.out.trans (hb2.mono HB1.out.size)
 go_wp2_with fail
 go_ret2
 exact ⟨⟨g, L, rfl, hN, hL, hA⟩, HB2.out⟩
end Go.Proofs.YtbdcjhoedhhabaaGreat

