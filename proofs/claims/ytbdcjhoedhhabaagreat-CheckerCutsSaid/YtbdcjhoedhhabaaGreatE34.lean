/- Contracts of the functions that the statements reach, part 34. -/
import Derived.Test.YtbdcjhoedhhabaaGreatRows
import Derived.Test.YtbdcjhoedhhabaaGreatE30
set_option linter.unusedSimpArgs false
set_option linter.unusedVariables false

/- checker.reaches: a search past a cut. -/
namespace Go.Proofs.YtbdcjhoedhhabaaGreat
open Go.RowKit
attribute [local go_sem ↓] Go.wp_at_zero Go.wp_at_succ

/-- What a search past a cut knows: block bS holds the row of the visited nodes and the cut, bQ the list of the visited. -/
structure AddR (w : World) (base bS bQ gS n : Nat) (cut D : List Int) (vq : Value) : Prop where
 S : Loc w bS 137 #[.slice (some ⟨gS, 0, none⟩) n n]
 Q : Loc w bQ 27 #[vq]
 rs : RowB w gS (rowP n (fun v => v ∈ D ∨ v ∈ cut))
 q : OwnQ w base vq D
 bs : base ≤ gS ∧ base ≤ bQ
section
variable {w w' w2 wA : World} {base bS bQ gS n i : Nat} {cut D : List Int} {vq : Value}
theorem AddR.below (h : AddR w base bS bQ gS n cut D vq) (hb : Below w.heap.size w w') : AddR w' base bS bQ gS n cut D vq :=
 ⟨h.S.below hb, h.Q.below hb, h.rs.below hb, h.q.below hb, h.bs⟩
theorem OwnQ.at {A : Option Addr} {m c : Nat} {us : List Int} {z : Int} (h : OwnQ w base (.slice A m c) us) (hz : us[i]? = some z) : ∃ a : Addr, A = some a ∧ w.cell? (a.add i) = some (.int .i64 z) := by
 rcases h with ⟨h0, rfl⟩ | ⟨g, off, cap, cur, e, hb, hl, h1, h2, h3, h4⟩
 ·cases hz
 ·injection e with e1 e2 e3
  refine ⟨_, e1, ?_⟩
  rw [Addr.add_lit, Loc.cell hl]
  exact h4 i z hz
theorem OwnQ.vals {us : List Int} (h : OwnQ w base vq us) (hz : ∀ z ∈ us, -9223372036854775808 ≤ z ∧ z ≤ 9223372036854775807) : IntsV w vq us := by
 rcases h with ⟨rfl, rfl⟩ | ⟨g, off, cap, cur, rfl, hb, hl, h1, h2, h3, h4⟩
 ·exact ⟨none, 0, rfl, Nat.le_refl _, Nat.zero_le _, fun h => absurd rfl h, fun z hz => by simp at hz⟩
 ·exact ⟨_, _, rfl, h1, h2, fun _ => ⟨_, rfl, hl.lt, fun i z hi => by rw [Addr.add_lit, Loc.cell hl]; exact h4 i z hi⟩, hz⟩
theorem vis_memR {cut D : List Int} {k : Int} (hD : k ∉ D) (hC : k ∉ cut) (x : Int) : ((x ∈ D ∨ x ∈ cut) ∨ x = k) ↔ (x ∈ vis cut D k ∨ x ∈ cut) := by
 rw [← vis_mem hD hC]
 constructor
 ·rintro ((h | h) | h)
  ·exact .inl (.inl h)
  ·exact .inr h
  ·exact .inl (.inr h)
 ·rintro ((h | h) | h)
  ·exact .inl (.inl h)
  ·exact .inr h
  ·exact .inl (.inr h)
theorem vis_push (cut : List Int) {D : List Int} {k : Int} (hD : k ∉ D) (hC : k ∉ cut) : vis cut D k = D ++ [k] := by
 unfold vis
 rw [if_neg (fun h => h.elim hD hC)]
end

set_option maxRecDepth 100000 in
set_option maxHeartbeats 4000000 in
theorem visit_any (w : World) (base bS bQ gS n k : Nat) (cut D : List Int) (vq : Value) (h : AddR w base bS bQ gS n cut D vq) (hk : k < n) (hl : D.length ≤ 100000) (hb : base ≤ w.heap.size) :
 Calls Tryz.prog 275 #[.int .i64 k, .pointer (some ⟨bS, 0, none⟩), .pointer (some ⟨bQ, 0, none⟩)] w fun e w' => e = .returned (.tuple #[]) ∧ (∃ vq', Hid (AddR w' base bS bQ gS n cut (vis cut D k) vq')) ∧ Below base w w' := by
 have H := Lib.hid h
 obtain ⟨A, c, e0⟩ := h.q.op
 subst e0
 obtain ⟨qn, hqn⟩ : ∃ qn, D.length = qn := ⟨_, rfl⟩
 have HQN := Lib.hid hqn
 rw [hqn] at H hl
 clear h hqn
 obtain ⟨e1, f1, l1⟩ := Loc.all H.out.S (w' := w)
 have k0 : (0 : Int) ≤ (k : Int) := by omega
 have k1 : (k : Int) < (n : Int) := by omega
 by_cases hDC : (k : Int) ∈ D ∨ (k : Int) ∈ cut
 ·have HE : Hid (AddR w base bS bQ gS n cut (vis cut D k) (.slice A qn c)) := by show AddR _ _ _ _ _ _ _ _ _; rw [vis_stay hDC]; exact H.out
  have g0 := RowB.cell H.out.rs (rowP_yes hk hDC)
  clear hDC
  go_enter Tryz.func275, Tryz.ntmps275
  go_wp2_with fail
  go_end0
  exact ⟨rfl, ⟨_, HE⟩, Below.refl _ _⟩
 have hD : (k : Int) ∉ D := fun h => hDC (.inl h)
 have hC : (k : Int) ∉ cut := fun h => hDC (.inr h)
 have g0 := RowB.cell H.out.rs (rowP_no hk hDC)
 have gf := RowB.frz H.out.rs k
 have HDC : Hid (vis cut D k = D ++ [(k : Int)]) := vis_push cut hD hC
 obtain ⟨w1, hw1⟩ : ∃ W, w.setCell ⟨gS, k, none⟩ (.bool true) = W := ⟨_, rfl⟩
 have LS1 : Hid (Loc w1 bS 137 #[.slice (some ⟨gS, 0, none⟩) n n]) := by show Loc _ _ _ _; rw [← hw1]; exact Loc.far H.out.S (p := ⟨gS, k, none⟩) (loc_ne H.out.S H.out.rs (by decide)) _
 have LQ1 : Hid (Loc w1 bQ 27 #[.slice A qn c]) := by show Loc _ _ _ _; rw [← hw1]; exact Loc.far H.out.Q (p := ⟨gS, k, none⟩) (loc_ne H.out.Q H.out.rs (by decide)) _
 have RS1 : Hid (RowB w1 gS (rowP n (fun v => v ∈ vis cut D k ∨ v ∈ cut))) := by
  have h9 := RowB.set H.out.rs k true
  rw [rowP_set, rowP_ext (q := fun v => v ∈ vis cut D k ∨ v ∈ cut) (fun i _ => vis_memR hD hC (i : Int)), hw1] at h9
  exact h9
 have OQ1 : Hid (OwnQ w1 base (.slice A qn c) D) := by show OwnQ _ _ _ _; rw [← hw1]; exact OwnQ.far H.out.q H.out.rs (by decide) _ _
 have HB1 : Hid (Below base w w1) := by show Below _ _ _; rw [← hw1]; exact (Below.refl _ _).setCell H.out.bs.1 _
 have hsz : w1.heap.size = w.heap.size := by rw [← hw1]; simp only [zs]
 have HSZ := Lib.hid hsz
 obtain ⟨e3, f3, l3⟩ := Loc.all LQ1.out (w' := w1)
 clear hsz hD hC hDC
 go_enter Tryz.func275, Tryz.ntmps275
 go_wp2_with (first | rw [hw1] | (at_builtin; refine wpList_pushQ _ rfl _ _ rfl base _ D rfl (OQ1.out.below (below1 _ _)) w1.heap.size (k : Int) rfl (made1 w1 #[.int .i64 (k : Int)] 3) qn HQN.out hl (by have := HSZ.out; simp only [World.size_alloc]; omega) ?_))
 intro A' c' w2 ho2 hg2 hb2
 have hsz := HSZ.out
 have y2 := hg2.size
 (try simp only [World.size_alloc] at y2 hb2)
 have LS2 : Loc w2 bS 137 #[.slice (some ⟨gS, 0, none⟩) n n] := OwnQ.other (OQ1.out.below (below1 _ _)) hg2 (LS1.out.alloc _) (by decide)
 have LQ2 : Loc w2 bQ 27 #[.slice A qn c] := OwnQ.other (OQ1.out.below (below1 _ _)) hg2 (LQ1.out.alloc _) (by decide)
 have RS2 : RowB w2 gS (rowP n (fun v => v ∈ vis cut D k ∨ v ∈ cut)) := OwnQ.other (OQ1.out.below (below1 _ _)) hg2 (Loc.alloc RS1.out _) (by decide)
 have HB2 : Below base w w2 := (HB1.out.alloc (by omega) _).grown hg2 (by simp only [World.size_alloc]; omega) (fun b hb => (OQ1.out.lt hb).2)
 have HE : Hid (AddR (w2.setCell ⟨bQ, 0, none⟩ (.slice A' (qn + 1) c')) base bS bQ gS n cut (vis cut D k) (.slice A' (qn + 1) c')) := by
  refine ⟨Loc.far LS2 (p := ⟨bQ, 0, none⟩) (loc_ne LS2 LQ2 (by decide)) _, LQ2.fill1, Loc.far RS2 (p := ⟨bQ, 0, none⟩) (loc_ne RS2 LQ2 (by decide)) _, ?_, H.out.bs⟩
  rw [HDC.out]
  exact OwnQ.far ho2 LQ2 (by decide) _ _
 have HBE : Hid (Below base w (w2.setCell ⟨bQ, 0, none⟩ (.slice A' (qn + 1) c'))) := HB2.setCell (p := ⟨bQ, 0, none⟩) H.out.bs.2 _
 obtain ⟨e4, f4, l4⟩ := Loc.all LQ2 (w' := w2)
 clear e1 f1 l1 e3 f3 l3 g0 gf
 go_wp2_with fail
 go_end0
 exact ⟨rfl, ⟨_, HE⟩, HBE.out⟩

set_option maxRecDepth 100000 in
set_option maxHeartbeats 4000000 in
theorem reaches2_any (W : World) (bQ : Nat) (x : Int) (vq : Value) (D : List Int) (h : IntsV W vq D) (L : Loc W bQ 27 #[vq]) :
 Calls Tryz.prog 276 (#[.int .i64 x] ++ #[.pointer (some ⟨bQ, 0, none⟩)]) W fun e w' => Tells (x ∈ D) e ∧ Below W.heap.size W w' := by
 have H := Lib.hid h
 obtain ⟨A, cap, rfl, h, l1, l2⟩ := h.op
 obtain ⟨m, hm⟩ : ∃ m, D.length = m := ⟨_, rfl⟩
 rw [hm] at H L
 obtain ⟨e1, f1, q1⟩ := Loc.all L (w' := W)
 clear h hm
 go_enter Tryz.func276, Tryz.ntmps276
 go_wp2_with fail
 refine (containsV_any _ x _ D H.out).mono ?_
 rintro e w1 ⟨⟨b, rfl, hb⟩, hb1⟩
 have HBT := Lib.hid (show Tells (x ∈ D) (.returned (.bool b)) from ⟨b, rfl, hb⟩)
 clear hb
 go_wp2_with fail
 go_ret
 exact ⟨HBT.out, hb1⟩

set_option maxRecDepth 100000 in
set_option maxHeartbeats 16000000 in
theorem reaches_any (w : World) (n : Nat) (vE vF vT vC : Value) (es : List (Int × Int)) (s t cut : List Int) (hE : Tims w vE es) (hF : IntsV w vF s) (hT : IntsV w vT t) (hC : IntsV w vC cut) (hg : GraphOk n es) (hm : es.length ≤ 1000) (hs : NodesOk n s) (hc : NodesOk n cut) :
 Calls Tryz.prog 154 #[.agg #[.int .i64 n, vE], vF, vT, vC] w fun e w' => Tells (¬ Sep es s t cut) e ∧ Below w.heap.size w w' := by
 have HE0 := Lib.hid hE
 have HF0 := Lib.hid hF
 have HT0 := Lib.hid hT
 have HC0 := Lib.hid hC
 have HG := Lib.hid hg
 have HS := Lib.hid hs
 have HCC := Lib.hid hc
 have hn : n ≤ 4096 := by have := hg.1; omega
 obtain ⟨AE, cE, rfl, -, n1, n2⟩ := hE.op
 obtain ⟨AF, cF, rfl, -, f1, f2⟩ := hF.op
 obtain ⟨AT, cT, rfl, -, t1, t2⟩ := hT.op
 obtain ⟨AC, cC, rfl, -, c1, c2⟩ := hC.op
 obtain ⟨me, hme⟩ : ∃ m, es.length = m := ⟨_, rfl⟩
 have HME := Lib.hid hme
 have HE : Hid (Tims w (.slice AE me cE) es) := by have h9 := HE0.out; rw [hme] at h9; exact h9
 obtain ⟨mf, hmf⟩ : ∃ m, s.length = m := ⟨_, rfl⟩
 have HMF := Lib.hid hmf
 have HF : Hid (IntsV w (.slice AF mf cF) s) := by have h9 := HF0.out; rw [hmf] at h9; exact h9
 obtain ⟨mt, hmt⟩ : ∃ m, t.length = m := ⟨_, rfl⟩
 have HT : Hid (IntsV w (.slice AT mt cT) t) := by have h9 := HT0.out; rw [hmt] at h9; exact h9
 obtain ⟨mc, hmc⟩ : ∃ m, cut.length = m := ⟨_, rfl⟩
 have HMC := Lib.hid hmc
 have HC : Hid (IntsV w (.slice AC mc cC) cut) := by have h9 := HC0.out; rw [hmc] at h9; exact h9
 rw [hme] at n1 hm ⊢
 rw [hmf] at f1 ⊢
 rw [hmt] at t1 ⊢
 rw [hmc] at c1 ⊢
 have lf : mf ≤ 9223372036854775807 := by unfold maxLen at f2; omega
 have lc : mc ≤ 9223372036854775807 := by unfold maxLen at c2; omega
 clear hE hF hT hC hg hs hc hme hmf hmt hmc HE0 HF0 HT0 HC0
 have LG := made1 w #[.int .i64 n, .slice AE me cE] 109
 go_enter Tryz.func154, Tryz.ntmps154
 go_wp2_with (at_make; refine wpList_makeN _ rfl _ _ rfl Tryz.underlying82 info_ints rfl w.heap.size n rfl rfl rfl rfl (by omega) (by unfold maxLen; omega) (by simp only [World.size_alloc]; omega) ?_)
 intro w1 hrow hg1
 have hb1 : Below (w.heap.size + 1) (w.alloc (.cells #[.int .i64 n, .slice AE me cE] 109)) w1 := by
  have h9 := below_none (Below.refl (w.alloc (.cells #[.int .i64 n, .slice AE me cE] 109)).heap.size _) hg1 (Nat.le_refl _)
  simpa only [World.size_alloc] using h9
 have HB1 : Hid (Below w.heap.size w w1) := (below1 w _).trans (hb1.mono (by omega))
 have HLG : Hid (Loc w1 w.heap.size 109 #[.int .i64 n, .slice AE me cE]) := Loc.under LG hb1 (by omega)
 have HAJ : Hid (Adj w1 w.heap.size (w.heap.size + 1) n (fun _ => .slice none 0 0) (adj es 0)) := by
  have h9 := Adj.start (base := w.heap.size) (rowL_zeros hrow)
  (try simp only [World.size_alloc] at h9)
  exact h9.cong (fun _ _ => rfl) (fun i _ => (adj_zero es i).symm)
 have hB1 := HB1.out
 have y1 := hB1.size; (try simp only [zs] at y1)
 obtain ⟨e1, g1, -⟩ := Loc.all HLG.out (w' := w1)
 clear hrow hg1 hb1 LG
 go_wp2_with fail
 clear e1 g1
 go_loopw [28] (fun i wr => ∃ (c : Nat) (V : Nat → Value), c ≤ me ∧ i = .int .i64 c ∧ Hid (Adj wr w.heap.size (w.heap.size + 1) n V (adj es c)) ∧ Hid (Loc wr w.heap.size 109 #[.int .i64 n, .slice AE me cE]) ∧ Below w.heap.size w wr) (fun i _ => me - (intOf i).toNat)
 case atStart => exact ⟨0, _, by omega, rfl, HAJ, HLG, HB1.out⟩
 case round =>
  clear HAJ HLG HB1
  obtain ⟨c, V, hc, rfl, hAJ, hLG, hB⟩ := hrel
  obtain ⟨wo, rfl⟩ : ∃ wo : World, wo = wr := ⟨_, rfl⟩
  have y5 := hB.size; (try simp only [zs] at y5)
  by_cases hlt : c < me
  ·obtain ⟨⟨x, y⟩, hz⟩ : ∃ e, es[c]? = some e := ⟨_, List.getElem?_eq_getElem (by rw [HME.out]; exact hlt)⟩
   obtain ⟨a, rfl, hab, cx, cx2, zb1, zb2⟩ := (HE.out.keep (.of_below hB)).at hz
   simp only at cx cx2 zb1 zb2
   rw [addr_one] at cx2
   have hr := HG.out.2.2 _ (List.mem_of_getElem? hz)
   simp only at hr
   obtain ⟨k, rfl⟩ : ∃ k : Nat, x = (k : Int) := ⟨x.toNat, by omega⟩
   have hkn : k < n := by omega
   have HZ := Lib.hid hz
   have HNX := Lib.hid (adj_next hz)
   have hlen : (adj es c k).length ≤ 1000 := by have := adj_len es c k; omega
   obtain ⟨A0, c0, hV⟩ := hAJ.out.shape hkn
   obtain ⟨m0, hm0⟩ : ∃ q, (adj es c k).length = q := ⟨_, rfl⟩
   have HM0 := Lib.hid hm0
   rw [hm0] at hV hlen
   have HV := Lib.hid hV
   have hcellV := hAJ.out.cell hkn
   rw [hV] at hcellV
   have k0 : (0 : Int) ≤ (c : Int) := by omega
   have k1 : (c : Int) < (me : Int) := by omega
   have k2 : (0 : Int) ≤ (k : Int) := by omega
   have k3 : (k : Int) < (n : Int) := by omega
   obtain ⟨wx, hwx⟩ : ∃ W, wo.alloc (.cells #[.int .i64 (k : Int), .int .i64 y] 200) = W := ⟨_, rfl⟩
   have HWX := Lib.hid hwx
   have hbx : Below wo.heap.size wo wx := by rw [← hwx]; exact below1 _ _
   have HBX : Hid (Below w.heap.size w wx) := hB.trans (hbx.mono (by omega))
   have LX : Hid (Loc wx wo.heap.size 200 #[.int .i64 (k : Int), .int .i64 y]) := by show Loc _ _ _ _; rw [← hwx]; exact made1 wo _ _
   have HLGX : Hid (Loc wx w.heap.size 109 #[.int .i64 n, .slice (some a) me cE]) := Loc.below hLG.out hbx
   have HAX : Hid (Adj wx w.heap.size (w.heap.size + 1) n V (adj es c)) := hAJ.out.below hbx
   have hxs : w.heap.size < wx.heap.size := Loc.lt HLGX.out
   have HSS : Hid (∀ W, Below wx.heap.size wx W → (W.cell? ⟨wo.heap.size, 0, none⟩ = some (.int .i64 (k : Int)) ∧ W.cell? ⟨wo.heap.size, 1, none⟩ = some (.int .i64 y)) ∧ W.cell? ⟨w.heap.size + 1, k, none⟩ = some (.slice A0 m0 c0)) := fun W hW => by
    have h9 := (HAX.out.below hW).cell hkn
    rw [HV.out] at h9
    exact ⟨⟨Loc.cell (LX.out.below hW) 0, Loc.cell (LX.out.below hW) 1⟩, h9⟩
   clear hz hm0 hV hcellV hwx hbx
   go_wp2_with fail
   rw [HWX.out]
   clear cx cx2
   refine wp_region_noPanic ?_
   refine wp_region_heldK (k := 13) (S := (fun W => (W.cell? ⟨wo.heap.size, 0, none⟩ = some (.int .i64 (k : Int)) ∧ W.cell? ⟨wo.heap.size, 1, none⟩ = some (.int .i64 y)) ∧ W.cell? ⟨w.heap.size + 1, k, none⟩ = some (.slice A0 m0 c0))) (by kernel_rfl) ?_ (fun hHeld => ?_)
   ·exact HSS.out _ ((Below.refl _ _).drew)
   refine tkK 0 ?_
   (try simp only [Act.put, ly])
   refine tkK 1 ?_
   (try simp only [Act.put, ly])
   refine tkK 2 ?_
   (try simp only [Act.put, ly])
   refine tkK 3 ?_
   (try simp only [Act.put, ly])
   refine tkK 4 ?_
   (try simp only [Act.put, ly])
   refine tkK 5 ?_
   (try simp only [Act.put, ly])
   refine tkK 6 ?_
   (try simp only [Act.put, ly])
   refine tkK 7 ?_
   (try simp only [Act.put, ly])
   refine tkK 8 ?_
   (try simp only [Act.put, ly])
   refine tkK 9 ?_
   (try simp only [Act.put, ly])
   refine wpAnyK_ready (rs := [10]) (by kernel_rfl) (by simp) ?_
   refine AllReadyK.cons rfl (fun KK hKK => ?_) AllReadyK.nil
   go_simp
   (try go_wp2_with fail)
   refine hKK.out _ _ ?_ (fun hHeld => ?_)
   ·(try dsimp only)
    exact HSS.out _ ((below1 _ _).drew)
   clear hKK KK
   (try simp only [Act.put, ly])
   have hwA : Below wx.heap.size wx (wx.alloc (.cells #[.int .i64 y] 3)).drew := ((below1 wx (.cells #[.int .i64 y] 3)).drew)
   have hownA : Own1 (wx.alloc (.cells #[.int .i64 y] 3)).drew w.heap.size 3 (.slice A0 m0 c0) ((adj es c k).map (Value.int .i64)) := by
    have h9 := (HAX.out.below hwA).own k hkn
    rw [HV.out] at h9
    exact h9
   refine wpAnyK_ready (rs := [11]) (by kernel_rfl) (by simp) ?_
   refine AllReadyK.cons rfl (fun KK hKK => ?_) AllReadyK.nil
   refine step_pushZ _ rfl _ _ rfl w.heap.size (.slice A0 m0 c0) ((adj es c k).map (Value.int .i64)) rfl hownA wx.heap.size (.int .i64 y) rfl (made1 wx #[.int .i64 y] 3) rfl (by rw [List.length_map, HM0.out]; exact hlen) (by simp only [size_drew, World.size_alloc]; omega) ?_
   intro gA capA w2 hoa2 hg2 ho2 hl2
   have y2 := hg2.size
   simp only [size_drew, World.size_alloc] at y2 ho2
   rw [List.length_map, HM0.out] at hoa2
   rw [List.length_map, HM0.out]
   have HS2 : Hid ((w2.cell? ⟨wo.heap.size, 0, none⟩ = some (.int .i64 (k : Int)) ∧ w2.cell? ⟨wo.heap.size, 1, none⟩ = some (.int .i64 y)) ∧ w2.cell? ⟨w.heap.size + 1, k, none⟩ = some (.slice A0 m0 c0)) := by
    have L9 : Loc w2 wo.heap.size 200 #[.int .i64 (k : Int), .int .i64 y] := loc_other hownA hg2 (LX.out.below hwA) (by decide)
    have L8 := loc_other hownA hg2 ((HAX.out.below hwA).box) (by decide)
    refine ⟨⟨Loc.cell L9 0, Loc.cell L9 1⟩, ?_⟩
    rw [Loc.cell L8, adj_arr hkn, HV.out]
   have HLG2 : Hid (Loc w2 w.heap.size 109 #[.int .i64 n, .slice (some a) me cE]) := loc_other hownA hg2 (HLGX.out.below hwA) (by decide)
   have HAJ2 : Hid (Adj (w2.setCell ⟨w.heap.size + 1, k, none⟩ (.slice (some ⟨gA, 0, none⟩) (m0 + 1) capA)) w.heap.size (w.heap.size + 1) n (fun i => if i = k then .slice (some ⟨gA, 0, none⟩) (m0 + 1) capA else V i) (adj es (c + 1))) := by
    have h9 := Adj.push HAX.out (v' := .slice (some ⟨gA, 0, none⟩) (m0 + 1) capA) (x := y) (b' := gA) hkn hwA hoa2 (by rw [HV.out]; exact hg2) (by rw [HV.out]; simp only [size_drew, World.size_alloc]; exact ho2) rfl
    exact h9.cong (fun _ _ => rfl) (fun i _ => (HNX.out i).symm)
   have HB2 : Hid (Below w.heap.size w w2) := (HBX.out.trans (hwA.mono (by omega))).grown hg2 (by simp only [size_drew, World.size_alloc]; omega) (fun b hb => (Own1.lt hownA hb).2)
   have LB2 := loc_other hownA hg2 ((HAX.out.below hwA).box) (by decide)
   have HLX := Lib.hid LB2
   refine hKK.out _ _ HS2.out (fun hHeld => ?_)
   clear hKK KK LB2
   (try simp only [Act.put, ly])
   refine tkK 12 ?_
   (try simp only [Act.put, ly])
   have g0 := HS2.out.2
   have gf := Loc.frz HLX.out k
   have gl := Loc.lt HLX.out
   refine wpAnyK_ready (rs := [13]) (by kernel_rfl) (by simp) ?_
   refine AllReadyK.last (by kernel_rfl) rfl (fun KK hKK => ?_) AllReadyK.nil
   go_simp
   refine hKK.out _ _ ?_
   clear hKK KK
   (try simp only [Act.put, ly])
   refine wpAnyK_done (by kernel_rfl) ?_ _
   refine NoPanic.normal ?_
   clear g0 gf gl
   have HBE : Hid (Below w.heap.size w (w2.setCell ⟨w.heap.size + 1, k, none⟩ (.slice (some ⟨gA, 0, none⟩) (m0 + 1) capA))) := HB2.out.setCell (p := ⟨w.heap.size + 1, k, none⟩) (by show w.heap.size ≤ w.heap.size + 1; omega) _
   have HLGE : Hid (Loc (w2.setCell ⟨w.heap.size + 1, k, none⟩ (.slice (some ⟨gA, 0, none⟩) (m0 + 1) capA)) w.heap.size 109 #[.int .i64 n, .slice (some a) me cE]) := Loc.far HLG2.out (p := ⟨w.heap.size + 1, k, none⟩) (by show ¬ w.heap.size = w.heap.size + 1; omega) _
   go_wp2_with fail
   go_roundw
   case rel => exact ⟨c + 1, _, by omega, by go_num, HAJ2, HLGE, HBE.out⟩
   case measure => simp only [intOf]; omega
  ·obtain rfl : c = me := by omega
   obtain ⟨L, hL⟩ : ∃ L, (List.range n).map (adj es c) = L := ⟨_, rfl⟩
   have HN : Hid (IMat wo (.slice (some ⟨w.heap.size + 1, 0, none⟩) n n) L) := by
    show IMat _ _ _
    rw [← hL]
    exact hAJ.out.imat (by unfold maxLen; omega) (fun i hi z hz => by
     have h9 := (HG.out.2.2 _ (adj_sub hz)).2
     simp only at h9
     omega)
   have HL : Hid (L.length = n) := by show _ = _; rw [← hL]; simp
   have HA : Hid (∀ (i : Nat) (l : List Int), L[i]? = some l → ∀ x, x ∈ l ↔ ((i : Int), x) ∈ es) := fun i l hl x => by
    have hi : i < n := by have := (List.getElem?_eq_some_iff.1 hl).1; rw [HL.out] at this; exact this
    rw [← hL, List.getElem?_map, List.getElem?_range hi] at hl
    have hl : some (adj es c i) = some l := hl
    injection hl with hl
    rw [← hl]
    have h9 := @adj_mem es i x
    rw [HME.out] at h9
    exact h9
   obtain ⟨e1, g1, -⟩ := Loc.all hLG.out (w' := wo)
   have HBO := Lib.hid hB
   clear hL hAJ
   go_wp2_with (at_make; refine wpList_makeN _ rfl _ _ rfl Tryz.underlying137 info_bool1 rfl wo.heap.size n rfl rfl rfl rfl (by omega) (by unfold maxLen; omega) (Nat.le_refl _) ?_)
   intro w2 hrow hg2
   have hb2 : Below wo.heap.size wo w2 := below_none (Below.refl _ _) hg2 (Nat.le_refl _)
   have y2 := hb2.size; (try simp only [zs] at y2)
   have hgs : wo.heap.size < w2.heap.size := (rowB_zeros hrow).lt
   have HRS : Hid (RowB (w2.alloc (.cells #[.slice (some ⟨wo.heap.size, 0, none⟩) n n] 137)) wo.heap.size (rowP n (fun v => v ∈ ([] : List Int) ∨ v ∈ cut.take 0))) := by
    refine Loc.alloc ?_ _
    have h9 := rowB_zeros hrow
    rw [rowP_false, rowP_ext (q := fun v => v ∈ ([] : List Int) ∨ v ∈ cut.take 0) (fun i _ => by simp)] at h9
    exact h9
   have HLS : Hid (Loc (w2.alloc (.cells #[.slice (some ⟨wo.heap.size, 0, none⟩) n n] 137)) w2.heap.size 137 #[.slice (some ⟨wo.heap.size, 0, none⟩) n n]) := made1 w2 _ _
   have HB2 : Hid (Below wo.heap.size wo (w2.alloc (.cells #[.slice (some ⟨wo.heap.size, 0, none⟩) n n] 137))) := hb2.alloc (by omega) _
   clear hrow hg2 hb2 e1 g1
   go_wp2_with fail
   go_loopw [51] (fun i wr => ∃ (q : Nat), q ≤ mc ∧ i = .int .i64 q ∧ Hid (RowB wr wo.heap.size (rowP n (fun v => v ∈ ([] : List Int) ∨ v ∈ cut.take q))) ∧ Hid (Loc wr w2.heap.size 137 #[.slice (some ⟨wo.heap.size, 0, none⟩) n n]) ∧ Below wo.heap.size wo wr) (fun i _ => mc - (intOf i).toNat)
   case atStart => exact ⟨0, by omega, rfl, HRS, HLS, HB2.out⟩
   case round =>
    clear HRS HLS HB2
    obtain ⟨q, hq, rfl, hRS, hLS, hB3⟩ := hrel
    obtain ⟨wp, rfl⟩ : ∃ wp : World, wp = wr := ⟨_, rfl⟩
    have y6 := hB3.size; (try simp only [zs] at y6)
    obtain ⟨e1, g1, q1⟩ := Loc.all hLS.out (w' := wp)
    by_cases hlt2 : q < mc
    ·obtain ⟨z, hz⟩ : ∃ z, cut[q]? = some z := ⟨_, List.getElem?_eq_getElem (by rw [HMC.out]; exact hlt2)⟩
     obtain ⟨a, rfl, hab, hcell, -, -⟩ := (HC.out.keep (.of_below (HBO.out.trans (hB3.mono y5)))).at hz
     obtain ⟨hz0, hz1⟩ := HCC.out z (List.mem_of_getElem? hz)
     obtain ⟨k, rfl⟩ : ∃ k : Nat, z = (k : Int) := ⟨z.toNat, by omega⟩
     have hkn : k < n := by omega
     obtain ⟨b, hb⟩ : ∃ b, (rowP n (fun v => v ∈ ([] : List Int) ∨ v ∈ cut.take q))[k]? = some b := ⟨_, List.getElem?_eq_getElem (by rw [rowP_len]; exact hkn)⟩
     have cw := RowB.cell hRS.out hb
     have cf := RowB.frz hRS.out k
     have HNX : Hid (RowB (wp.setCell ⟨wo.heap.size, k, none⟩ (.bool true)) wo.heap.size (rowP n (fun v => v ∈ ([] : List Int) ∨ v ∈ cut.take (q + 1)))) := by
      have h9 := RowB.set hRS.out k true
      rw [rowP_set, rowP_ext (q := fun v => v ∈ ([] : List Int) ∨ v ∈ cut.take (q + 1)) (fun i _ => by
       rw [← mem_take_succ hz]
       simp [or_assoc])] at h9
      exact h9
     have HLSX : Hid (Loc (wp.setCell ⟨wo.heap.size, k, none⟩ (.bool true)) w2.heap.size 137 #[.slice (some ⟨wo.heap.size, 0, none⟩) n n]) := Loc.far hLS.out (p := ⟨wo.heap.size, k, none⟩) (by show ¬ w2.heap.size = wo.heap.size; omega) _
     have k0 : (0 : Int) ≤ (q : Int) := by omega
     have k1 : (q : Int) < (mc : Int) := by omega
     have k2 : (0 : Int) ≤ (k : Int) := by omega
     have k3 : (k : Int) < (n : Int) := by omega
     clear hz hb
     go_wp2_with fail
     go_roundw
     case rel => exact ⟨q + 1, by omega, by go_num, HNX, HLSX, hB3.setCell (p := ⟨wo.heap.size, k, none⟩) (Nat.le_refl _) _⟩
     case measure => simp only [intOf]; omega
    ·obtain rfl : q = mc := by omega
     have HAD : Hid (AddR ((wp.alloc (.cells #[] 3)).alloc (.cells #[.slice (some ⟨wp.heap.size, 0, none⟩) 0 0] 27)) wo.heap.size w2.heap.size (wp.heap.size + 1) wo.heap.size n cut [] (.slice (some ⟨wp.heap.size, 0, none⟩) 0 0)) := by
      refine ⟨(hLS.out.alloc _).alloc _, made2 wp _ _ _, ?_, .inr ⟨wp.heap.size, 0, 0, #[], rfl, y6, (made1 wp _ _).alloc _, Nat.le_refl _, Nat.zero_le _, Nat.le_refl _, fun i z hz => by cases hz⟩, by omega, by omega⟩
      refine Loc.alloc (Loc.alloc ?_ _) _
      have h9 := hRS.out
      rw [List.take_of_length_le (by rw [HMC.out]; exact Nat.le_refl _)] at h9
      exact h9
     have HBA : Hid (Below wo.heap.size wo ((wp.alloc (.cells #[] 3)).alloc (.cells #[.slice (some ⟨wp.heap.size, 0, none⟩) 0 0] 27))) := (hB3.alloc y6 _).alloc (by simp only [World.size_alloc]; omega) _
     clear e1 g1 q1 hRS hLS hB3
     go_wp2_with fail
     go_loopw [63] (fun i wr => ∃ (c : Nat) (D : List Int) (vq : Value), c ≤ mf ∧ i = .int .i64 c ∧ Hid (AddR wr wo.heap.size w2.heap.size (wp.heap.size + 1) wo.heap.size n cut D vq) ∧ Hid (Srch es cut s D n) ∧ Hid (Seen cut D s c) ∧ Below wo.heap.size wo wr) (fun i _ => mf - (intOf i).toNat)
     case atStart => exact ⟨0, [], _, by omega, rfl, HAD, Srch.start _ _ _ _, Lib.hid (fun i x hi => absurd hi (by omega)), HBA.out⟩
     case round =>
      clear HAD HBA
      obtain ⟨c', D, vq, hc', rfl, hAD, hSR, hSN, hB4⟩ := hrel
      obtain ⟨wq, rfl⟩ : ∃ wq : World, wq = wr := ⟨_, rfl⟩
      have y7 := hB4.size; (try simp only [zs] at y7)
      have hDl : D.length ≤ 100000 := by have := hSR.out.len; omega
      by_cases hlt3 : c' < mf
      ·obtain ⟨z, hz⟩ : ∃ z, s[c']? = some z := ⟨_, List.getElem?_eq_getElem (by rw [HMF.out]; exact hlt3)⟩
       obtain ⟨a, rfl, hab, hcell, -, -⟩ := (HF.out.keep (.of_below (HBO.out.trans (hB4.mono y5)))).at hz
       obtain ⟨hz0, hz1⟩ := HS.out z (List.mem_of_getElem? hz)
       obtain ⟨k, rfl⟩ : ∃ k : Nat, z = (k : Int) := ⟨z.toNat, by omega⟩
       have hkn : k < n := by omega
       have HZ := Lib.hid hz
       have k0 : (0 : Int) ≤ (c' : Int) := by omega
       have k1 : (c' : Int) < (mf : Int) := by omega
       clear hz
       go_wp2_with fail
       refine (visit_any wq _ _ _ _ n k cut D vq hAD.out hkn hDl y7).mono ?_
       rintro e w3 ⟨rfl, ⟨vq', hAD'⟩, hb3⟩
       have y3 := hb3.size; (try simp only [zs] at y3)
       have HSR : Hid (Srch es cut s (vis cut D k) n) := hSR.out.vis (fun h => .start (List.mem_of_getElem? HZ.out) h) ⟨hz0, hz1⟩
       have HSN : Hid (Seen cut (vis cut D k) s (c' + 1)) := hSN.out.next HZ.out
       have HB5 : Hid (Below wo.heap.size wo w3) := hB4.trans hb3
       go_wp2_with fail
       go_roundw
       case rel => exact ⟨c' + 1, _, _, by omega, by go_num, hAD', HSR, HSN, HB5.out⟩
       case measure => simp only [intOf]; omega
      ·obtain rfl : c' = mf := by omega
       go_wp2_with fail
       go_loopw [19] (fun iv wr => ∃ (i : Nat) (D : List Int) (vq : Value), i ≤ D.length ∧ iv = .int .i64 i ∧ Hid (AddR wr wo.heap.size w2.heap.size (wp.heap.size + 1) wo.heap.size n cut D vq) ∧ Hid (Srch es cut s D n) ∧ Hid (Seen cut D s c') ∧ Hid (Done es cut D i) ∧ Below wo.heap.size wo wr) (fun iv _ => n - (intOf iv).toNat)
       case atStart => exact ⟨0, D, vq, by omega, rfl, hAD, hSR, hSN, Lib.hid (fun i u x hi => absurd hi (by omega)), hB4⟩
       case round =>
        clear hAD hSR hSN hB4 hDl
        obtain ⟨i, D, vq, hil, rfl, hAD, hSR, hSN, hDN, hB4⟩ := hrel
        obtain ⟨wq, rfl⟩ : ∃ wq : World, wq = wr := ⟨_, rfl⟩
        have y8 := hB4.size; (try simp only [zs] at y8)
        have hDl := hSR.out.len
        obtain ⟨A, cq, e0⟩ := hAD.out.q.op
        subst e0
        obtain ⟨dn, hdn⟩ : ∃ q, D.length = q := ⟨_, rfl⟩
        have HDL := Lib.hid hdn
        rw [hdn] at hAD hil hDl
        obtain ⟨e3, f3, l3⟩ := Loc.all hAD.out.Q (w' := wq)
        clear hdn
        by_cases hlt4 : i < dn
        ·obtain ⟨u, hu⟩ : ∃ u, D[i]? = some u := ⟨_, List.getElem?_eq_getElem (by rw [HDL.out]; exact hlt4)⟩
         obtain ⟨hu0, hu1⟩ := hSR.out.rng u (List.mem_of_getElem? hu)
         obtain ⟨k, rfl⟩ : ∃ k : Nat, u = (k : Int) := ⟨u.toNat, by omega⟩
         have hkn : k < n := by omega
         have HU := Lib.hid hu
         obtain ⟨a, ea, hcell⟩ := hAD.out.q.at hu
         subst ea
         obtain ⟨l, hl⟩ : ∃ l, L[k]? = some l := ⟨_, List.getElem?_eq_getElem (by rw [HL.out]; exact hkn)⟩
         obtain ⟨aN, BN, cl, eaN, hab, hcl0, hnl, l3', l4'⟩ := HN.out.at hl
         injection eaN with eaN
         subst eaN
         have hcl : wq.cell? ((⟨w.heap.size + 1, 0, none⟩ : Addr).add k) = some (.slice BN l.length cl) := cell_keep (X := fun _ => False) hcl0 (by rw [add_block]; exact hab) id (.of_below hB4)
         rw [add0] at hcl
         obtain ⟨ln, hln⟩ : ∃ q, l.length = q := ⟨_, rfl⟩
         have HLN := Lib.hid hln
         rw [hln] at hcl l3' hnl
         have HNL := Lib.hid hnl
         have HLM := Lib.hid (HA.out k l hl)
         have lln : ln ≤ 9223372036854775807 := by unfold maxLen at l4'; omega
         have k0 : (0 : Int) ≤ (i : Int) := by omega
         have k1 : (i : Int) < (dn : Int) := by omega
         have k2 : (0 : Int) ≤ (k : Int) := by omega
         have k3 : (k : Int) < (n : Int) := by omega
         have d1 : decide ((i : Int) < (dn : Int)) = true := decide_eq_true k1
         have d1' : decide (i < dn) = true := decide_eq_true hlt4
         clear hu hl hln hnl hcl0
         go_wp2_with fail
         clear e3 f3 l3 hcell hcl
         go_loopw [85] (fun iv wr => ∃ (j : Nat) (D' : List Int) (vq : Value), j ≤ ln ∧ iv = .int .i64 j ∧ Hid (AddR wr wo.heap.size w2.heap.size (wp.heap.size + 1) wo.heap.size n cut D' vq) ∧ Hid (Srch es cut s D' n) ∧ Hid (Seen cut D' s c') ∧ Hid (Done es cut D' i) ∧ Hid (D'[i]? = some (k : Int)) ∧ Hid (Seen cut D' l j) ∧ Below wo.heap.size wo wr) (fun iv _ => ln - (intOf iv).toNat)
         case atStart => exact ⟨0, D, _, by omega, rfl, hAD, hSR, hSN, hDN, HU, Lib.hid (fun i x hi => absurd hi (by omega)), hB4⟩
         case round =>
          clear hAD hSR hSN hDN HU hB4
          obtain ⟨j, D', vq', hj, rfl, hAD, hSR, hSN, hDN, hU, hSL, hB4⟩ := hrel
          obtain ⟨wz, rfl⟩ : ∃ wz : World, wz = wr := ⟨_, rfl⟩
          have y9 := hB4.size; (try simp only [zs] at y9)
          have hDl' : D'.length ≤ 100000 := by have := hSR.out.len; omega
          have hiD : i < D'.length := (List.getElem?_eq_some_iff.1 hU.out).1
          by_cases hlt5 : j < ln
          ·obtain ⟨x, hx⟩ : ∃ z, l[j]? = some z := ⟨_, List.getElem?_eq_getElem (by rw [HLN.out]; exact hlt5)⟩
           have hxe := (HLM.out x).1 (List.mem_of_getElem? hx)
           have hxr := (HG.out.2.2 _ hxe).2
           simp only at hxr
           obtain ⟨aX, rfl, habx, hcx, -, -⟩ := (HNL.out.keep (.of_below hB4)).at hx
           obtain ⟨q, rfl⟩ : ∃ q : Nat, x = (q : Int) := ⟨x.toNat, by omega⟩
           have hqn2 : q < n := by omega
           have HX := Lib.hid hx
           have HXE := Lib.hid hxe
           have k4 : (0 : Int) ≤ (j : Int) := by omega
           have k5 : (j : Int) < (ln : Int) := by omega
           clear hx hxe
           go_wp2_with fail
           refine (visit_any wz _ _ _ _ n q cut D' vq' hAD.out hqn2 hDl' y9).mono ?_
           rintro e w3 ⟨rfl, ⟨vq3, hAD'⟩, hb3⟩
           have y3 := hb3.size; (try simp only [zs] at y3)
           have HSR : Hid (Srch es cut s (vis cut D' q) n) := hSR.out.vis (fun h => .step (hSR.out.rch _ (List.mem_of_getElem? hU.out)) HXE.out h) hxr
           have HDN3 : Hid (Done es cut (vis cut D' q) i) := hDN.out.vis (by omega) q
           have HSN3 : Hid (Seen cut (vis cut D' q) s c') := hSN.out.vis q
           have HU3 : Hid ((vis cut D' q)[i]? = some (k : Int)) := vis_get hU.out
           have HSL3 : Hid (Seen cut (vis cut D' q) l (j + 1)) := hSL.out.next HX.out
           have HB5 : Hid (Below wo.heap.size wo w3) := hB4.trans hb3
           go_wp2_with fail
           go_roundw
           case rel => exact ⟨j + 1, _, _, by omega, by go_num, hAD', HSR, HSN3, HDN3, HU3, HSL3, HB5.out⟩
           case measure => simp only [intOf]; omega
          ·obtain rfl : j = ln := by omega
           have HDN4 : Hid (Done es cut D' (i + 1)) := hDN.out.next hU.out (fun x hx => (HLM.out x).2 hx) (hSL.out.all (by rw [HLN.out]; exact Nat.le_refl _))
           have hin : i < n := by have := hSR.out.len; omega
           go_wp2_with fail
           go_roundw
           case rel => exact ⟨i + 1, D', vq', by omega, by go_num, hAD, hSR, hSN, HDN4, hB4⟩
           case measure => simp only [intOf]; omega
        ·obtain rfl : i = dn := by omega
         have HFD : Hid (∀ v, v ∈ D ↔ Rch es cut s v) := fun v => by
          obtain hd := hDN.out
          rw [← HDL.out] at hd
          exact hSR.out.found hd (hSN.out.all (by rw [HMF.out]; exact Nat.le_refl _)) v
         have HIV : Hid (IntsV wq (.slice A i cq) D) := hAD.out.q.vals (fun z hz => by have := hSR.out.rng z hz; omega)
         have HBF : Hid (Below w.heap.size w wq) := HBO.out.trans (hB4.mono y5)
         have d1 : decide ((i : Int) < (i : Int)) = false := decide_eq_false (by omega)
         have d1' : decide (i < i) = false := decide_eq_false (by omega)
         go_wp2_with fail
         refine (containsZ_any _ 276 #[.pointer (some ⟨wp.heap.size + 1, 0, none⟩)] (fun z => z ∈ D) _ t (HT.out.keep (.of_below HBF.out)) (enters Tryz.func276 (by kernel_rfl) (by kernel_rfl)) (fun W z hW _ => reaches2_any W _ z _ D (HIV.out.keep (.of_below hW)) (hAD.out.Q.below hW))).mono ?_
         rintro e w3 ⟨⟨b, rfl, hb⟩, hb3⟩
         have y3 := hb3.size; (try simp only [zs] at y3)
         have HBE : Hid (Below w.heap.size w w3) := HBF.out.trans (hb3.mono (by omega))
         have HV : Hid (Tells (¬ Sep es s t cut) (.returned (.bool b))) := ⟨b, rfl, by
          refine Iff.trans hb.out ⟨fun ⟨l, hl, hd⟩ hs => hs l hl ((HFD.out l).1 hd), fun h => ?_⟩
          refine Classical.byContradiction fun hn => h (fun v hv hr => hn ⟨v, hv, (HFD.out v).2 hr⟩)⟩
         clear hb
         go_wp2_with fail
         go_ret
         exact ⟨HV.out, HBE.out⟩
end Go.Proofs.YtbdcjhoedhhabaaGreat

