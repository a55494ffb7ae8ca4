/- Contracts of the functions that the statements reach, part 35. -/
import Derived.Test.YtbdcjhoedhhabaaGreatRows
import Derived.Test.YtbdcjhoedhhabaaGreatE31
import Derived.Test.YtbdcjhoedhhabaaGreatE33
import Derived.Test.YtbdcjhoedhhabaaGreatE34
set_option linter.unusedSimpArgs false
set_option linter.unusedVariables false

/- checker.Cut: the code of a cut with flows. -/
namespace Go.Proofs.YtbdcjhoedhhabaaGreat
open Go.RowKit
attribute [local go_sem ↓] Go.wp_at_zero Go.wp_at_succ

set_option maxRecDepth 100000 in
set_option maxHeartbeats 4000000 in
theorem cloneI_any (w : World) (v : Value) (zs : List Int) (h : IntsV w v zs) (hm : zs.length ≤ 5000) :
 Calls Tryz.prog 155 #[v] w fun e w' => (∃ v', e = .returned v' ∧ Hid (Own1 w' w.heap.size 3 v' (zs.map (Value.int .i64)))) ∧ Below w.heap.size w w' := by
 obtain ⟨A, c, rfl, hc, h1, h3, h4⟩ := h
 obtain ⟨i0, hi, hz0, hz1, hz2⟩ := info_parts info_int1
 have he := @Lib.run_eql_slice_nil Tryz.prog
 rcases A with _ | a
 ·have h0 : zs = [] := by
   rcases zs with _ | ⟨x, xs⟩
   ·rfl
   ·obtain ⟨a, h, _⟩ := h3 (by simp)
    cases h
  subst h0
  clear h3 h4
  go_enter Tryz.func155, Tryz.ntmps155
  go_wp2
  go_ret
  exact ⟨⟨_, rfl, Lib.hid (Own1.nil _ _ _)⟩, Below.refl _ _⟩
 ·have HC : Hid (∀ j u, (zs.map (Value.int .i64))[j]? = some u → w.cell? (a.add j) = some u ∧ a.block < w.heap.size) := fun j u hu => by
   rw [List.getElem?_map, Option.map_eq_some_iff] at hu
   obtain ⟨y, hy, rfl⟩ := hu
   obtain ⟨a', ea, hb, hcc⟩ := h3 (by have := (List.getElem?_eq_some_iff.1 hy).1; omega)
   injection ea with ea
   subst ea
   exact ⟨hcc j y hy, hb⟩
  obtain ⟨m, hm'⟩ : ∃ m, zs.length = m := ⟨_, rfl⟩
  have HM := Lib.hid hm'
  have HFL : Hid ((zs.map (Value.int .i64)).length = m * 1) := by show _ = _; rw [List.length_map, hm']; omega
  have HON : Hid (∀ u ∈ zs.map (Value.int .i64), u.oneCell' = true) := fun u hu => by
   obtain ⟨y, -, rfl⟩ := List.mem_map.1 hu
   rfl
  rw [hm'] at hm
  rw [hm']
  clear h3 h4 hc hm'
  go_enter Tryz.func155, Tryz.ntmps155
  go_wp2_with (at_builtin; refine wpList_append_own _ rfl _ _ 27 rfl w.heap.size 3 i0 (.int .i64 0) 1 8 Tryz.underlying27 hi hz0 hz1 hz2 rfl (by decide) _ _ _ rfl (World.ownsRow_lit w #[] 0 (Nat.le_refl _) (by unfold maxLen; omega) rfl) a m c (zs.map (Value.int .i64)) rfl HFL.out (fun j u hu => cell_keep (X := fun _ => False) (HC.out j u hu).1 (by rw [add_block]; exact (HC.out j u hu).2) id kp) HON.out (by unfold maxLen; omega) (by omega) (by simp only [World.size_alloc]; omega) ?_)
  intro v1 w1 hown hgrow _
  have HO : Hid (Own1 w1 w.heap.size 3 v1 (zs.map (Value.int .i64))) := by
   show w1.ownsRow _ _ _ _ _ _
   rw [List.length_map, HM.out]
   simpa using hown
  have HB : Hid (Below w.heap.size w w1) := ((Below.refl _ _).alloc (Nat.le_refl _) _).grown hgrow (by simp) (by simp [Value.ownBlock])
  clear hown hgrow
  go_wp2
  go_ret
  exact ⟨⟨_, rfl, HO⟩, HB.out⟩

section
variable {w : World} {base g n c : Nat} {l : List Int}
theorem Own1.setI (h : Own1 w base 3 (.slice (some ⟨g, 0, none⟩) n c) (l.map (Value.int .i64))) (k : Nat) (z : Int) : Own1 (w.setCell ⟨g, k, none⟩ (.int .i64 z)) base 3 (.slice (some ⟨g, 0, none⟩) n c) ((l.set k z).map (Value.int .i64)) := by
 refine ⟨by simp, ?_⟩
 rcases h.2 with ⟨h', _⟩ | ⟨g', cap', cur, h', h3, hg, h1, h2, hsz, htake⟩
 ·cases h'
 ·injection h' with e1 e2 e3
  injection e1 with e1
  injection e1 with e1
  subst e1 e3
  have hgl : Loc w g 3 cur := hg
  refine .inr ⟨g, c, cur.setIfInBounds k (.int .i64 z), by rw [e2]; simp, h3, hgl.set k _, by simpa using h1, h2, by simpa using hsz, ?_⟩
  rw [Array.toList_setIfInBounds, List.length_map, List.length_set, List.map_set, List.take_set]
  rw [List.length_map] at htake
  rw [htake]
theorem Own1.cellI (h : Own1 w base 3 (.slice (some ⟨g, 0, none⟩) n c) (l.map (Value.int .i64))) {k : Nat} {z : Int} (hz : l[k]? = some z) : w.cell? ⟨g, k, none⟩ = some (.int .i64 z) := by
 rcases h.op with ⟨h', -⟩ | ⟨g', cap, cur, h', -, -, hl, hc⟩
 ·cases h'
 ·injection h' with e1 e2 e3
  injection e1 with e1
  injection e1 with e1
  subst e1
  rw [Loc.cell hl]
  exact hc k _ (by rw [List.getElem?_map, hz]; rfl)
theorem Own1.locI (h : Own1 w base 3 (.slice (some ⟨g, 0, none⟩) n c) (l.map (Value.int .i64))) : ∃ cur, Loc w g 3 cur ∧ base ≤ g := by
 rcases h.2 with ⟨h', _⟩ | ⟨g', cap', cur, h', h3, hg, h1, h2, hsz, htake⟩
 ·cases h'
 ·injection h' with e1 e2 e3
  injection e1 with e1
  injection e1 with e1
  subst e1
  exact ⟨cur, hg, h3⟩
end
theorem edgeK_next {es : List (Int × Int)} {c : Nat} {e : Int × Int} (h : es[c]? = some e) (kl : Lit) : (kl = keyL e.1 e.2 ∨ edgeK es c kl) ↔ edgeK es (c + 1) kl := by
 unfold edgeK
 constructor
 ·rintro (h1 | ⟨x, hx, h1⟩)
  ·exact ⟨e, (mem_take_next h e).1 (.inr rfl), h1⟩
  ·exact ⟨x, (mem_take_next h x).1 (.inl hx), h1⟩
 ·rintro ⟨x, hx, h1⟩
  rcases (mem_take_next h x).2 hx with h2 | h2
  ·exact .inr ⟨x, h2, h1⟩
  ·exact .inl (by rw [h1, h2])

/-- What the weights leave over a load. -/
def LeftOf (ws ld lf : List Int) : Prop := lf.length = ws.length ∧ ∀ (i : Nat) (x y : Int), ws[i]? = some x → ld[i]? = some y → lf[i]? = some (x - y)
theorem LeftOf.start (ws : List Int) (n : Nat) : LeftOf ws (List.replicate n 0) ws := ⟨rfl, fun i x y hx hy => by
 have := List.eq_of_mem_replicate (List.mem_of_getElem? hy)
 subst this
 rw [hx, Int.sub_zero]⟩
theorem LeftOf.next {ws ld lf : List Int} (h : LeftOf ws ld lf) {k : Nat} {x y a : Int} (hx : ws[k]? = some x) (hy : ld[k]? = some y) : LeftOf ws (ld.set k (y + a)) (lf.set k (x - y - a)) := by
 refine ⟨by rw [List.length_set]; exact h.1, fun i u v hu hv => ?_⟩
 by_cases e : i = k
 ·subst e
  have hl := (List.getElem?_eq_some_iff.1 hy).1
  have hw := (List.getElem?_eq_some_iff.1 hx).1
  rw [List.getElem?_set_self hl] at hv
  injection hv with hv
  rw [hx] at hu
  injection hu with hu
  rw [List.getElem?_set_self (by rw [h.1]; exact hw), ← hv, ← hu]
  congr 1
  omega
 ·rw [List.getElem?_set_ne (fun h => e h.symm)] at hv
  rw [List.getElem?_set_ne (fun h => e h.symm)]
  exact h.2 i u v hu hv

theorem cut1d_any (W : World) (g : Nat) (n x : Int) (hc : W.cell? ⟨g, 0, none⟩ = some (.int .i64 n)) (hg : g < W.heap.size) :
 Calls Tryz.prog 152 #[.int .i64 x, .pointer (some ⟨g, 0, none⟩)] W fun e w' => Tells (¬ (0 ≤ x ∧ x < n)) e ∧ Below W.heap.size W w' := cut1_any W g n x hc hg

set_option maxRecDepth 100000 in
set_option maxHeartbeats 64000000 in
theorem kcut_any (w : World) (n : Int) (vE vW vF vT vC vX : Value) (es : List (Int × Int)) (ws s t cut : List Int) (fs : List (List Int × Int)) (hE : Tims w vE es) (hW : IntsV w vW ws) (hF : IntsV w vF s) (hT : IntsV w vT t) (hC : IntsV w vC cut) (hX : FlowsV w vX fs)
 (hel : es.length ≤ 1000) (hcl : cut.length ≤ 1000) (hfl : fs.length ≤ 1000) :
 Calls Tryz.prog 57 #[.agg #[.int .i64 n, vE], vW, vF, vT, vC, vX] w fun e w' => (∃ r : Int, e = .returned (.int .i64 r) ∧ Hid (CutCode n es ws s t cut fs r)) ∧ Below w.heap.size w w' := by
 have HE0 := Lib.hid hE
 have HW0 := Lib.hid hW
 have HF0 := Lib.hid hF
 have HT0 := Lib.hid hT
 have HC0 := Lib.hid hC
 have HX0 := Lib.hid hX
 have HEL := Lib.hid hel
 obtain ⟨AE, cE, rfl, -, n1, n2⟩ := hE.op
 obtain ⟨AW, cW, rfl, -, w1, w2⟩ := hW.op
 obtain ⟨AF, cF, rfl, -, f1, f2⟩ := hF.op
 obtain ⟨AT, cT, rfl, -, t1, t2⟩ := hT.op
 obtain ⟨AC, cC, rfl, -, c1, c2⟩ := hC.op
 obtain ⟨AX, cX, rfl, -, x1, x2⟩ := hX.op
 obtain ⟨me, hme⟩ : ∃ m, es.length = m := ⟨_, rfl⟩
 have HME := Lib.hid hme
 have HE : Hid (Tims w (.slice AE me cE) es) := by have h9 := HE0.out; rw [hme] at h9; exact h9
 obtain ⟨mw, hmw⟩ : ∃ m, ws.length = m := ⟨_, rfl⟩
 have HMW := Lib.hid hmw
 have HW : Hid (IntsV w (.slice AW mw cW) ws) := by have h9 := HW0.out; rw [hmw] at h9; exact h9
 obtain ⟨mf, hmf⟩ : ∃ m, s.length = m := ⟨_, rfl⟩
 have HF : Hid (IntsV w (.slice AF mf cF) s) := by have h9 := HF0.out; rw [hmf] at h9; exact h9
 obtain ⟨mt, hmt⟩ : ∃ m, t.length = m := ⟨_, rfl⟩
 have HT : Hid (IntsV w (.slice AT mt cT) t) := by have h9 := HT0.out; rw [hmt] at h9; exact h9
 obtain ⟨mc, hmc⟩ : ∃ m, cut.length = m := ⟨_, rfl⟩
 have HMC := Lib.hid hmc
 have HC : Hid (IntsV w (.slice AC mc cC) cut) := by have h9 := HC0.out; rw [hmc] at h9; exact h9
 obtain ⟨mx, hmx⟩ : ∃ m, fs.length = m := ⟨_, rfl⟩
 have HMX := Lib.hid hmx
 have HX : Hid (FlowsV w (.slice AX mx cX) fs) := by have h9 := HX0.out; rw [hmx] at h9; exact h9
 rw [hme] at n1 hel ⊢
 rw [hmw] at w1 ⊢
 rw [hmf] at f1 ⊢
 rw [hmt] at t1 ⊢
 rw [hmc] at c1 hcl ⊢
 rw [hmx] at x1 hfl ⊢
 have LG := made1 w #[.int .i64 n, .slice AE me cE] 109
 clear hE hW hF hT hC hX hme hmw hmf hmt hmc hmx HE0 HW0 HF0 HT0 HC0 HX0
 go_enter Tryz.func57, Tryz.ntmps57
 go_wp2_with fail
 refine (kgraph_any _ n _ es (HE.out.keep kp)).mono ?_
 rintro e w1 ⟨⟨b, rfl, hb⟩, hb1⟩
 have y1 := hb1.size; (try simp only [zs] at y1)
 have HB1 : Hid (Below w.heap.size w w1) := by show Below _ _ _; exact bel
 have HLG : Hid (Loc w1 w.heap.size 109 #[.int .i64 n, .slice AE me cE]) := by show Loc _ _ _ _; exact Loc.below LG hb1
 clear LG hb1
 cases b
 case false =>
  have HNG : Hid (¬ GraphOk n es) := fun h => by have := hb.out.2 h; cases this
  have HV : Hid (CutCode n es ws s t cut fs 1) := ⟨fun _ => rfl, fun h => absurd h HNG.out, fun h => absurd h HNG.out, fun h => absurd h HNG.out, fun h => absurd h HNG.out⟩
  clear hb
  go_wp2_with fail
  go_ret
  exact ⟨⟨_, rfl, HV⟩, HB1.out⟩
 have HG : Hid (GraphOk n es) := hb.out.1 rfl
 obtain ⟨⟨e1, e2⟩, g1, q1⟩ := Loc.two HLG.out
 clear hb
 by_cases hmn : (mw : Int) = n
 case neg =>
  have HV : Hid (CutCode n es ws s t cut fs 2) := ⟨fun h => absurd HG.out h, fun _ _ => rfl, fun _ h => absurd (by rw [HMW.out] at h; exact h) hmn, fun _ h => absurd (by rw [HMW.out] at h; exact h) hmn, fun _ h => absurd (by rw [HMW.out] at h; exact h) hmn⟩
  have d0 : ((mw : Int) != n) = true := by rw [bne_iff_ne]; exact hmn
  clear hmn
  go_wp2_with fail
  go_ret
  exact ⟨⟨_, rfl, HV⟩, HB1.out⟩
 subst hmn
 have hn : mw ≤ 4096 := by have := HG.out.1; omega
 have HRNG : Hid (¬ ((∀ x ∈ ws, x ≤ 1048576) ∧ NodesOk mw s ∧ NodesOk mw t) → CutCode mw es ws s t cut fs 3) := fun h => ⟨fun h' => absurd HG.out h', fun _ h' => absurd (by rw [HMW.out]) h', fun _ _ _ => rfl, fun _ _ h' => absurd h' h, fun _ _ h' => absurd h' h⟩
 have d0 : ((mw : Int) != (mw : Int)) = false := bne_self_eq_false _
 go_wp2_with fail
 clear d0 e1 e2 g1 q1
 refine (containsZ_any _ 153 #[] (fun x => 1048576 < x) _ ws (HW.out.keep (.of_below HB1.out)) (enters Tryz.func153 (by kernel_rfl) (by kernel_rfl)) (fun W z _ _ => cut2_any W z)).mono ?_
 rintro e w2 ⟨⟨b, rfl, hb⟩, hb2⟩
 have y2 := hb2.size; (try simp only [zs] at y2)
 have HB2 : Hid (Below w.heap.size w w2) := HB1.out.trans (hb2.mono HB1.out.size)
 have HLG2 : Hid (Loc w2 w.heap.size 109 #[.int .i64 (mw : Int), .slice AE me cE]) := HLG.out.below hb2
 have HCELL : Hid (∀ W0 W, Loc W0 w.heap.size 109 #[.int .i64 (mw : Int), .slice AE me cE] → Below W0.heap.size W0 W → W.cell? ⟨w.heap.size, 0, none⟩ = some (.int .i64 (mw : Int)) ∧ w.heap.size < W.heap.size) := fun W0 W h hb => ⟨Loc.cell (h.below hb) 0, (h.below hb).lt⟩
 cases b
 case true =>
  have HV := Lib.hid (HRNG.out (fun h => by
   obtain ⟨x, hx, h9⟩ := hb.out.1 rfl
   have := h.1 x hx
   omega))
  clear hb
  go_wp2_with fail
  go_ret
  exact ⟨⟨_, rfl, HV⟩, HB2.out⟩
 have HWS : Hid (∀ x ∈ ws, x ≤ 1048576) := fun x hx => Classical.byContradiction fun h => by have := hb.out.2 ⟨x, hx, by omega⟩; cases this
 clear hb
 go_wp2_with fail
 refine (containsZ_any _ 152 #[.pointer (some ⟨w.heap.size, 0, none⟩)] (fun x => ¬ (0 ≤ x ∧ x < (mw : Int))) _ s (HF.out.keep (.of_below HB2.out)) (enters Tryz.func152 (by kernel_rfl) (by kernel_rfl)) (fun W z hW _ => cut1_any W w.heap.size mw z (HCELL.out _ _ HLG2.out hW).1 (HCELL.out _ _ HLG2.out hW).2)).mono ?_
 rintro e w3 ⟨⟨b, rfl, hb⟩, hb3⟩
 have y3 := hb3.size; (try simp only [zs] at y3)
 have HB3 : Hid (Below w.heap.size w w3) := HB2.out.trans (hb3.mono HB2.out.size)
 have HLG3 : Hid (Loc w3 w.heap.size 109 #[.int .i64 (mw : Int), .slice AE me cE]) := HLG2.out.below hb3
 cases b
 case true =>
  have HV := Lib.hid (HRNG.out (fun h => by
   obtain ⟨x, hx, h9⟩ := hb.out.1 rfl
   exact h9 (h.2.1 x hx)))
  clear hb
  go_wp2_with fail
  go_ret
  exact ⟨⟨_, rfl, HV⟩, HB3.out⟩
 have HS : Hid (NodesOk mw s) := fun x hx => Classical.byContradiction fun h => by have := hb.out.2 ⟨x, hx, h⟩; cases this
 clear hb
 go_wp2_with fail
 refine (containsZ_any _ 152 #[.pointer (some ⟨w.heap.size, 0, none⟩)] (fun x => ¬ (0 ≤ x ∧ x < (mw : Int))) _ t (HT.out.keep (.of_below HB3.out)) (enters Tryz.func152 (by kernel_rfl) (by kernel_rfl)) (fun W z hW _ => cut1_any W w.heap.size mw z (HCELL.out _ _ HLG3.out hW).1 (HCELL.out _ _ HLG3.out hW).2)).mono ?_
 rintro e w4 ⟨⟨b, rfl, hb⟩, hb4⟩
 have y4 := hb4.size; (try simp only [zs] at y4)
 have HB4 : Hid (Below w.heap.size w w4) := HB3.out.trans (hb4.mono HB3.out.size)
 have HLG4 : Hid (Loc w4 w.heap.size 109 #[.int .i64 (mw : Int), .slice AE me cE]) := HLG3.out.below hb4
 cases b
 case true =>
  have HV := Lib.hid (HRNG.out (fun h => by
   obtain ⟨x, hx, h9⟩ := hb.out.1 rfl
   exact h9 (h.2.2 x hx)))
  clear hb
  go_wp2_with fail
  go_ret
  exact ⟨⟨_, rfl, HV⟩, HB4.out⟩
 have HTT : Hid (NodesOk mw t) := fun x hx => Classical.byContradiction fun h => by have := hb.out.2 ⟨x, hx, h⟩; cases this
 have HWO : Hid (WsOk mw ws) := ⟨HMW.out, HWS.out⟩
 have HOK : Hid (GoodCut mw es ws s t cut fs → CutCode mw es ws s t cut fs 0) := fun h => ⟨fun h' => absurd HG.out h', fun _ h' => absurd (by rw [HMW.out]) h', fun _ _ h' => absurd ⟨HWO.out.2, HS.out, HTT.out⟩ h', fun _ _ _ _ => rfl, fun _ _ _ h' => absurd h h'⟩
 have HNOT : Hid (¬ GoodCut mw es ws s t cut fs → CutCode mw es ws s t cut fs 13) := fun h => ⟨fun h' => absurd HG.out h', fun _ h' => absurd (by rw [HMW.out]) h', fun _ _ h' => absurd ⟨HWO.out.2, HS.out, HTT.out⟩ h', fun _ _ _ h' => absurd h' h, fun _ _ _ _ => rfl⟩
 clear hb
 go_wp2_with fail
 go_loopw [14, 49] (fun tv i wr => ∃ (c : Nat), c ≤ mc ∧ i = .int .i64 c ∧ tv = .int .i64 (wgt ws cut c) ∧ Hid (CutTo ws cut mw c) ∧ Hid (Loc wr w.heap.size 109 #[.int .i64 (mw : Int), .slice AE me cE]) ∧ Below w.heap.size w wr) (fun _ i _ => mc - (intOf i).toNat)
 case atStart => exact ⟨0, by omega, rfl, rfl, Lib.hid (fun i v hi => absurd hi (by omega)), HLG4, HB4.out⟩
 case round =>
  obtain ⟨c, hc, rfl, rfl, hCT, hLG, hB⟩ := hrel
  obtain ⟨wo, rfl⟩ : ∃ wo : World, wo = wr := ⟨_, rfl⟩
  have y5 := hB.size; (try simp only [zs] at y5)
  obtain ⟨T, hTe⟩ : ∃ T, wgt ws cut c = T := ⟨_, rfl⟩
  have HTE := Lib.hid hTe
  have htb := wgt_le (m := mw) (c := c) HWO.out hCT.out (by rw [HMC.out]; exact hc)
  rw [hTe] at htb
  rw [hTe]
  clear hTe
  by_cases hlt : c < mc
  ·obtain ⟨v, hv⟩ : ∃ z, cut[c]? = some z := ⟨_, List.getElem?_eq_getElem (by rw [HMC.out]; exact hlt)⟩
   obtain ⟨a, rfl, hab, hcell0, zb1, zb2⟩ := HC.out.at hv
   have HCC : Hid (∀ W, Below w.heap.size w W → W.cell? (a.add c) = some (.int .i64 v)) := fun W hW => cell_keep (X := fun _ => False) hcell0 (by rw [add_block]; exact hab) id (.of_below hW)
   have hcell := HCC.out wo hB
   have HV := Lib.hid hv
   have HBAD : Hid (¬ ((0 ≤ v ∧ v < (mw : Int)) ∧ 0 ≤ nth ws v ∧ ∀ (j : Nat) (u : Int), c = j + 1 → cut[j]? = some u → u < v) → CutCode mw es ws s t cut fs 13) := fun h => HNOT.out (fun hg => h (hg.1 c v (by rw [HMC.out]; exact hlt) HV.out))
   have k0 : (0 : Int) ≤ (c : Int) := by omega
   have k1 : (c : Int) < (mc : Int) := by omega
   clear hv hcell0
   go_wp2_with fail
   refine (cut1d_any wo w.heap.size mw v (Loc.cell hLG.out 0) hLG.out.lt).mono ?_
   rintro e w5 ⟨⟨b, rfl, hb⟩, hb5⟩
   have y6 := hb5.size; (try simp only [zs] at y6)
   have HB5 : Hid (Below w.heap.size w w5) := hB.trans (hb5.mono y5)
   have HLG5 : Hid (Loc w5 w.heap.size 109 #[.int .i64 (mw : Int), .slice AE me cE]) := hLG.out.below hb5
   cases b
   case true =>
    have HX9 := Lib.hid (HBAD.out (fun h => hb.out.1 rfl h.1))
    clear hb hcell
    go_wp2_with fail
    go_ret
    exact ⟨⟨_, rfl, HX9⟩, HB5.out⟩
   have hvr : 0 ≤ v ∧ v < (mw : Int) := Classical.byContradiction fun h => by have := hb.out.2 h; cases this
   obtain ⟨k, rfl⟩ : ∃ k : Nat, v = (k : Int) := ⟨v.toNat, by omega⟩
   have hkn : k < mw := by omega
   obtain ⟨x, hx⟩ : ∃ z, ws[k]? = some z := ⟨_, List.getElem?_eq_getElem (by rw [HMW.out]; exact hkn)⟩
   obtain ⟨aW, rfl, habw, hcw, -, -⟩ := (HW.out.keep (.of_below HB5.out)).at hx
   have HNT : Hid (nth ws (k : Int) = x) := by show (ws[(k : Int).toNat]?).getD 0 = x; rw [Int.toNat_natCast, hx]; rfl
   have hxb : x ≤ 1048576 := HWO.out.2 x (List.mem_of_getElem? hx)
   have HTN : Hid (wgt ws cut (c + 1) = T + x) := by
    show wgt ws cut c + nth ws ((cut[c]?).getD 0) = T + x
    rw [HTE.out, HV.out, Option.getD_some, HNT.out]
   have k2 : (0 : Int) ≤ (k : Int) := by omega
   have k3 : (k : Int) < (mw : Int) := by omega
   clear hx hb hvr hcell
   by_cases z2 : x < 0
   ·have HX9 := Lib.hid (HBAD.out (fun h => by rw [HNT.out] at h; omega))
    have d2 : decide (x < 0) = true := decide_eq_true z2
    clear z2
    go_wp2_with fail
    go_ret
    exact ⟨⟨_, rfl, HX9⟩, HB5.out⟩
   have d2 : decide (x < 0) = false := decide_eq_false z2
   have HX0 : Hid (0 ≤ x) := by show _ ≤ _; omega
   have k4 : IntKind.i64.wrap (T + x) = T + x := by rw [IntKind.wrap_i64]; omega
   clear z2
   by_cases hc0 : c = 0
   ·have HC0 := Lib.hid hc0
    have HNX : Hid (CutTo ws cut mw (c + 1)) := hCT.out.next HV.out ⟨by omega, by omega⟩ (by rw [HNT.out]; exact HX0.out) (fun j u e => absurd e (by have := HC0.out; omega))
    have d3 : decide ((0 : Int) < (c : Int)) = false := decide_eq_false (by omega)
    have d3' : decide (0 < c) = false := decide_eq_false (by omega)
    clear hc0
    go_wp2_with fail
    go_roundw
    case rel => exact ⟨c + 1, by omega, by go_num, by first | rw [HTN.out] | (rw [HTN.out, k4]), HNX, HLG5, HB5.out⟩
    case measure => simp only [intOf]; omega
   ·obtain ⟨p, hp⟩ : ∃ p, c = p + 1 := ⟨c - 1, by omega⟩
    obtain ⟨u, hu⟩ : ∃ z, cut[p]? = some z := ⟨_, List.getElem?_eq_getElem (by rw [HMC.out]; omega)⟩
    obtain ⟨a', ea, hab', hcu, -, -⟩ := (HC.out.keep (.of_below HB5.out)).at hu
    injection ea with ea
    subst ea
    have HU := Lib.hid hu
    have HPC := Lib.hid hp
    have k5 : IntKind.i64.wrap ((c : Int) - 1) = (p : Int) := by rw [IntKind.wrap_i64]; omega
    have k6 : (0 : Int) ≤ (p : Int) := by omega
    have k7 : (p : Int) < (mc : Int) := by omega
    have d3 : decide ((0 : Int) < (c : Int)) = true := decide_eq_true (by omega)
    have d3' : decide (0 < c) = true := decide_eq_true (by omega)
    have d3'' : 0 < c := by omega
    clear hu hp hc0
    by_cases z3 : (k : Int) ≤ u
    ·have HX9 := Lib.hid (HBAD.out (fun h => by have := h.2.2 p u HPC.out HU.out; omega))
     have d4 : decide ((k : Int) ≤ u) = true := decide_eq_true z3
     clear z3
     go_wp2_with fail
     go_ret
     exact ⟨⟨_, rfl, HX9⟩, HB5.out⟩
    have HNX : Hid (CutTo ws cut mw (c + 1)) := hCT.out.next HV.out ⟨by omega, by omega⟩ (by rw [HNT.out]; exact HX0.out) (fun j u' e hu' => by
     obtain rfl : j = p := by have := HPC.out; omega
     rw [HU.out] at hu'
     injection hu' with hu'
     omega)
    have d4 : decide ((k : Int) ≤ u) = false := decide_eq_false z3
    clear z3
    go_wp2_with fail
    go_roundw
    case rel => exact ⟨c + 1, by omega, by go_num, by first | rw [HTN.out] | (rw [HTN.out, k4]), HNX, HLG5, HB5.out⟩
    case measure => simp only [intOf]; omega
  ·obtain rfl : c = mc := by omega
   have HCT : Hid (CutTo ws cut mw cut.length) := by show CutTo _ _ _ _; rw [HMC.out]; exact hCT.out
   have HCN : Hid (NodesOk mw cut) := fun v hv => by
    obtain ⟨i, hi, e⟩ := List.getElem_of_mem hv
    exact (HCT.out i v hi (by rw [List.getElem?_eq_getElem hi, e])).1
   obtain ⟨⟨e1, e2⟩, g1, q1⟩ := Loc.two hLG.out
   go_wp2_with fail
   refine (reaches_any _ mw _ _ _ _ es s t cut (HE.out.keep (.of_below hB)) (HF.out.keep (.of_below hB)) (HT.out.keep (.of_below hB)) (HC.out.keep (.of_below hB)) HG.out HEL.out HS.out HCN.out).mono ?_
   rintro e w5 ⟨⟨b, rfl, hb⟩, hb5⟩
   have y6 := hb5.size; (try simp only [zs] at y6)
   have HB5 : Hid (Below w.heap.size w w5) := hB.trans (hb5.mono y5)
   have HLG5 : Hid (Loc w5 w.heap.size 109 #[.int .i64 (mw : Int), .slice AE me cE]) := hLG.out.below hb5
   clear e1 e2 g1 q1
   cases b
   case true =>
    have HX9 := Lib.hid (HNOT.out (fun h => hb.out.1 rfl h.2.1))
    clear hb
    go_wp2_with fail
    go_ret
    exact ⟨⟨_, rfl, HX9⟩, HB5.out⟩
   have HSEP : Hid (Sep es s t cut) := Classical.byContradiction fun h => by have := hb.out.2 h; cases this
   clear hb
   go_wp2_with fail
   refine (cloneI_any _ _ ws (HW.out.keep (.of_below HB5.out)) (by rw [HMW.out]; omega)).mono ?_
   rintro e w6 ⟨⟨vL, rfl, hO⟩, hb6⟩
   have y7 := hb6.size; (try simp only [zs] at y7)
   obtain ⟨AL, cL, hvL⟩ : ∃ A c, vL = .slice A mw c := by
    rcases hO.out.2 with ⟨h', h9⟩ | ⟨g', cap', cur, h', _⟩
    ·rw [List.length_map, HMW.out] at h9
     exact ⟨none, 0, by rw [h', h9]⟩
    ·exact ⟨_, _, by rw [h', List.length_map, HMW.out]⟩
   subst hvL
   have HB6 : Hid (Below w.heap.size w w6) := HB5.out.trans (hb6.mono HB5.out.size)
   have HLG6 : Hid (Loc w6 w.heap.size 109 #[.int .i64 (mw : Int), .slice AE me cE]) := HLG5.out.below hb6
   have hmk := run_makeMap (P := Tryz.prog) 255 w6
   have HM0 : Hid (MapB (w6.alloc (.map #[] 0)) 200 w6.heap.size 0 (edgeK es 0)) := (MapB.made w6 200).cong (fun kl => by simp [edgeK])
   have HO0 : Hid (Own1 (w6.alloc (.map #[] 0)) w5.heap.size 3 (.slice AL mw cL) (ws.map (Value.int .i64))) := hO.out.alloc _
   have HLG7 : Hid (Loc (w6.alloc (.map #[] 0)) w.heap.size 109 #[.int .i64 (mw : Int), .slice AE me cE]) := HLG6.out.alloc _
   have HB7 : Hid (Below w.heap.size w (w6.alloc (.map #[] 0))) := HB6.out.alloc HB6.out.size _
   obtain ⟨⟨e1, e2⟩, g1, q1⟩ := Loc.two HLG7.out
   clear hO
   go_wp2_with fail
   clear hmk e1 e2 g1 q1
   go_loopw [95] (fun i wr => ∃ (q : Nat), q ≤ me ∧ i = .int .i64 q ∧ Hid (MapB wr 200 w6.heap.size q (edgeK es q)) ∧ Hid (Own1 wr w5.heap.size 3 (.slice AL mw cL) (ws.map (Value.int .i64))) ∧ Below w.heap.size w wr) (fun i _ => me - (intOf i).toNat)
   case atStart => exact ⟨0, by omega, rfl, HM0, HO0, HB7.out⟩
   case round =>
    clear HM0 HO0 HB7 HLG7
    obtain ⟨q, hq, rfl, hM, hO, hBq⟩ := hrel
    obtain ⟨wp, rfl⟩ : ∃ wp : World, wp = wr := ⟨_, rfl⟩
    have y8 := hBq.size; (try simp only [zs] at y8)
    have hw6p : w6.heap.size < wp.heap.size := hM.out.lt
    by_cases hlt2 : q < me
    ·obtain ⟨⟨x, y⟩, hz⟩ : ∃ e, es[q]? = some e := ⟨_, List.getElem?_eq_getElem (by rw [HME.out]; exact hlt2)⟩
     obtain ⟨a, rfl, hab, cx, cx2, zb1, zb2⟩ := (HE.out.keep (.of_below hBq)).at hz
     simp only at cx cx2 zb1 zb2
     rw [addr_one] at cx2
     have HEN := Lib.hid (edgeK_next hz)
     have k0 : (0 : Int) ≤ (q : Int) := by omega
     have k1 : (q : Int) < (me : Int) := by omega
     obtain ⟨wx, hwx⟩ : ∃ W, wp.alloc (.cells #[.int .i64 x, .int .i64 y] 200) = W := ⟨_, rfl⟩
     have HWX := Lib.hid hwx
     have hbx : Below wp.heap.size wp wx := by rw [← hwx]; exact below1 _ _
     have LX : Loc wx wp.heap.size 200 #[.int .i64 x, .int .i64 y] := by rw [← hwx]; exact made1 wp _ _
     have HMX9 : Hid (MapB wx 200 w6.heap.size q (edgeK es q)) := hM.out.below hbx hw6p
     have HOX : Hid (Own1 wx w5.heap.size 3 (.slice AL mw cL) (ws.map (Value.int .i64))) := hO.out.below hbx
     have HBX : Hid (Below w.heap.size w wx) := hBq.trans (hbx.mono y8)
     obtain ⟨⟨e1, e2⟩, g1, q1⟩ := Loc.two LX
     clear hz hwx LX hbx
     go_wp2_with (first | rw [HWX.out] | (at_mapUpdate; refine wpList_putB _ rfl _ _ _ rfl keyed_arr Tryz.underlying255 rfl HMX9.out (by omega) (.agg #[.int .i64 x, .int .i64 y]) (keyL x y) rfl rfl (key_arr zb1 zb2) ?_))
     intro w7 hM7 hg7
     have y9 := hg7.size
     have HM7 : Hid (MapB w7 200 w6.heap.size (q + 1) (edgeK es (q + 1))) := hM7.cong HEN.out
     have HO7 : Hid (Own1 w7 w5.heap.size 3 (.slice AL mw cL) (ws.map (Value.int .i64))) := World.ownsRow.kept HOX.out hg7 (by
      rcases hq9 : (Value.slice AL mw cL).ownBlock with _ | g
      ·exact .inl rfl
      ·refine .inr (fun e => ?_)
       injection e with e
       subst e
       rcases HOX.out.2 with ⟨h', _⟩ | ⟨g', cap', cur, h', _, hg', _⟩
       ·rw [h'] at hq9; cases hq9
       ·rw [h'] at hq9
        injection hq9 with hq9
        exact HMX9.out.ne_loc (g := g') hg' hq9.symm)
     have HB9 : Hid (Below w.heap.size w w7) := HBX.out.grown hg7 HBX.out.size (fun b hb => by injection hb with hb; have := HB6.out.size; omega)
     clear hM7 hg7 e1 e2 g1 q1
     go_wp2_with fail
     go_roundw
     case rel => exact ⟨q + 1, by omega, by go_num, HM7, HO7, HB9.out⟩
     case measure => simp only [intOf]; omega
    ·obtain rfl : q = me := by omega
     have HMM : Hid (MapB wp 200 w6.heap.size q (edgeK es es.length)) := by show MapB _ _ _ _ _; rw [HME.out]; exact hM.out
     go_wp2_with fail
     go_loopw [14, 15, 104] (fun av ov i wr => ∃ (j : Nat) (ld lf : List Int), j ≤ mx ∧ i = .int .i64 j ∧ ov = .bool true ∧ av = .int .i64 (T - sent fs j) ∧ Hid (FlowsTo es ws s t fs mw j ld) ∧ Hid (LeftOf ws ld lf) ∧ Hid (sent fs j ≤ T) ∧ Hid (Own1 wr w5.heap.size 3 (.slice AL mw cL) (lf.map (Value.int .i64))) ∧ Hid (MapB wr 200 w6.heap.size q (edgeK es es.length)) ∧ Below w.heap.size w wr) (fun _ _ i _ => mx - (intOf i).toNat)
     case atStart => exact ⟨0, List.replicate mw 0, ws, by omega, rfl, rfl, by show Value.int .i64 T = Value.int .i64 (T - 0); rw [Int.sub_zero], Lib.hid rfl, LeftOf.start ws mw, Lib.hid htb.1, hO, HMM, hBq⟩
     case round =>
      clear hM hO hBq HMM
      obtain ⟨j, ld, lf, hj, rfl, rfl, rfl, hFT, hLO, hSL, hO, hM, hB⟩ := hrel
      obtain ⟨wo, rfl⟩ : ∃ wo : World, wo = wr := ⟨_, rfl⟩
      have y8 := hB.size; (try simp only [zs] at y8)
      have hw6o : w6.heap.size < wo.heap.size := hM.out.lt
      obtain ⟨S, hSe⟩ : ∃ S, sent fs j = S := ⟨_, rfl⟩
      have HSE := Lib.hid hSe
      have hsb := hFT.out.sent HWO.out HSEP.out (fun v hv => by
       obtain ⟨i, hi, e⟩ := List.getElem_of_mem hv
       exact (HCT.out i v hi (by rw [List.getElem?_eq_getElem hi, e])).2.1)
      rw [hSe] at hsb
      have hst : S ≤ T := by have := hSL.out; rw [hSe] at this; exact this
      rw [hSe]
      obtain ⟨A0, hA0⟩ : ∃ A0, T - S = A0 := ⟨_, rfl⟩
      have HA0 := Lib.hid hA0
      have ha00 : 0 ≤ A0 := by omega
      have ha01 : A0 ≤ 1048576000 := by omega
      rw [hA0]
      clear hSe hA0
      by_cases hlt2 : j < mx
      ·obtain ⟨⟨p, a⟩, hz⟩ : ∃ z, fs[j]? = some z := ⟨_, List.getElem?_eq_getElem (by rw [HMX.out]; exact hlt2)⟩
       obtain ⟨aX, BP, cP, rfl, hab, cy0, cy1, hip, hba⟩ := HX.out.at hz
       simp only at cy0 cy1 hip hba
       have cx0 := cell_keep (X := fun _ => False) cy0 (by rw [add_block]; exact hab) id (.of_below hB)
       have cx1 := cell_keep (X := fun _ => False) cy1 (by rw [add_block, add_block]; exact hab) id (.of_below hB)
       rw [addr_one] at cx1
       obtain ⟨pl, hpl⟩ : ∃ q, p.length = q := ⟨_, rfl⟩
       have HPLN := Lib.hid hpl
       rw [hpl] at cx0 hip
       have hplb : pl ≤ 9223372036854775807 := by
        obtain ⟨_, _, h9, -, h8, h7⟩ := hip.op
        rw [hpl] at h8
        unfold maxLen at h7
        omega
       have HPV := Lib.hid hip
       have HZ := Lib.hid hz
       have HSN : Hid (sent fs (j + 1) = S + a) := by
        show sent fs j + ((fs[j]?).getD ([], 0)).2 = S + a
        rw [HSE.out, hz]; rfl
       have HTOP : Hid (GoodCut mw es ws s t cut fs → 1 ≤ a ∧ S + a ≤ T ∧ PathOk es s t p) := fun hg => by
        obtain ⟨l9, h9⟩ := good_flow hg hFT.out HZ.out
        obtain ⟨-, -, ⟨le, hle⟩, heq⟩ := hg
        have h8 := hle.pos (j + 1) (by rw [HMX.out]; omega)
        rw [HSN.out, heq, HMC.out, HTE.out] at h8
        exact ⟨h9.1, h8, h9.2.1⟩
       obtain ⟨wx, hwx⟩ : ∃ W, wo.alloc (.cells #[.slice BP pl cP, .int .i64 a] 115) = W := ⟨_, rfl⟩
       have HWX := Lib.hid hwx
       have hbx : Below wo.heap.size wo wx := by rw [← hwx]; exact below1 _ _
       have LX : Loc wx wo.heap.size 115 #[.slice BP pl cP, .int .i64 a] := by rw [← hwx]; exact made1 wo _ _
       have HLX := Lib.hid LX
       have HBX : Hid (Below w.heap.size w wx) := hB.trans (hbx.mono y8)
       have HMX9 : Hid (MapB wx 200 w6.heap.size q (edgeK es es.length)) := hM.out.below hbx hw6o
       have HOX : Hid (Own1 wx w5.heap.size 3 (.slice AL mw cL) (lf.map (Value.int .i64))) := hO.out.below hbx
       obtain ⟨⟨e1, e2⟩, g1, q1⟩ := Loc.two LX
       have k0 : (0 : Int) ≤ (j : Int) := by omega
       have k1 : (j : Int) < (mx : Int) := by omega
       clear hz hip hpl hwx LX hbx cy0 cy1
       by_cases z0 : 1 ≤ a
       case neg =>
        have HV := Lib.hid (HNOT.out (fun hg => z0 (HTOP.out hg).1))
        have d1 : decide (1 ≤ a) = false := decide_eq_false z0
        clear z0
        go_wp2_with (rw [HWX.out])
        go_ret
        exact ⟨⟨_, rfl, HV⟩, HBX.out⟩
       have d1 : decide (1 ≤ a) = true := decide_eq_true z0
       by_cases z1 : a ≤ A0
       case neg =>
        have HV := Lib.hid (HNOT.out (fun hg => z1 (by have := (HTOP.out hg).2.1; have := HA0.out; omega)))
        have d2 : decide (a ≤ A0) = false := decide_eq_false z1
        clear z0 z1
        go_wp2_with (rw [HWX.out])
        go_ret
        exact ⟨⟨_, rfl, HV⟩, HBX.out⟩
       have d2 : decide (a ≤ A0) = true := decide_eq_true z1
       go_wp2_with (rw [HWX.out])
       refine (simple_any wx mw _ _ _ _ _ es s t p HMX9.out (HF.out.keep (.of_below HBX.out)) (HT.out.keep (.of_below HBX.out)) (HPV.out.keep (.of_below HBX.out)) (fun e he => by have h8 := HG.out.2.2 e he; omega)).mono ?_
       rintro e w7 ⟨⟨b, rfl, hb⟩, hb7⟩
       have y9 := hb7.size; (try simp only [zs] at y9)
       have HB7 : Hid (Below w.heap.size w w7) := HBX.out.trans (hb7.mono HBX.out.size)
       have HLX7 : Hid (Loc w7 wo.heap.size 115 #[.slice BP pl cP, .int .i64 a]) := HLX.out.below hb7
       have HM7 : Hid (MapB w7 200 w6.heap.size q (edgeK es es.length)) := HMX9.out.below hb7 HMX9.out.lt
       have HO7 : Hid (Own1 w7 w5.heap.size 3 (.slice AL mw cL) (lf.map (Value.int .i64))) := HOX.out.below hb7
       clear e1 e2 g1 q1
       cases b
       case false =>
        have HV := Lib.hid (HNOT.out (fun hg => by have := hb.out.2 (HTOP.out hg).2.2; cases this))
        clear hb
        go_wp2_with fail
        go_ret
        exact ⟨⟨_, rfl, HV⟩, HB7.out⟩
       have HPO : Hid (PathOk es s t p) := hb.out.1 rfl
       have HPN : Hid (NodesOk mw p) := HPO.out.rng HS.out HG.out
       obtain ⟨⟨e1, e2⟩, g1, q1⟩ := Loc.two HLX7.out
       obtain ⟨A1, hA1⟩ : ∃ A1, A0 - a = A1 := ⟨_, rfl⟩
       have HA1 := Lib.hid hA1
       have k2 : IntKind.i64.wrap (A0 - a) = A1 := by rw [IntKind.wrap_i64]; omega
       clear hb hA1
       go_wp2_with fail
       clear e1 e2 g1 q1 cx0 cx1
       go_loopw [137] (fun iv wr => ∃ (i : Nat) (lc lf : List Int), i ≤ pl ∧ iv = .int .i64 i ∧ Hid (ldT ws a p ld i = some lc) ∧ Hid (LdOk mw ws lc) ∧ Hid (LeftOf ws lc lf) ∧ Hid (Own1 wr w5.heap.size 3 (.slice AL mw cL) (lf.map (Value.int .i64))) ∧ Hid (MapB wr 200 w6.heap.size q (edgeK es es.length)) ∧ Hid (Loc wr wo.heap.size 115 #[.slice BP pl cP, .int .i64 a]) ∧ Below w.heap.size w wr) (fun iv _ => pl - (intOf iv).toNat)
       case atStart => exact ⟨0, ld, lf, by omega, rfl, Lib.hid rfl, hFT.out.ok HWO.out, hLO, HO7, HM7, HLX7, HB7.out⟩
       case round =>
        clear HO7 HM7 HLX7 HB7 HLX HOX HMX9 HBX hLO hO hM hB
        obtain ⟨i, lc, lf, hi, rfl, hLT, hLO, hLF, hO, hM, hLX, hB⟩ := hrel
        obtain ⟨wz, rfl⟩ : ∃ wz : World, wz = wr := ⟨_, rfl⟩
        have y10 := hB.size; (try simp only [zs] at y10)
        by_cases hlt3 : i < pl
        ·obtain ⟨v, hv⟩ : ∃ z, p[i]? = some z := ⟨_, List.getElem?_eq_getElem (by rw [HPLN.out]; exact hlt3)⟩
         obtain ⟨aP, rfl, habp, hcell, -, -⟩ := (HPV.out.keep (.of_below hB)).at hv
         obtain ⟨hv0, hv1⟩ := HPN.out v (List.mem_of_getElem? hv)
         obtain ⟨k, rfl⟩ : ∃ k : Nat, v = (k : Int) := ⟨v.toNat, by omega⟩
         have hkn : k < mw := by omega
         obtain ⟨x, hx⟩ : ∃ z, ws[k]? = some z := ⟨_, List.getElem?_eq_getElem (by rw [HMW.out]; exact hkn)⟩
         obtain ⟨aW, rfl, habw, hcw, -, -⟩ := (HW.out.keep (.of_below hB)).at hx
         obtain ⟨y, hy⟩ : ∃ z, lc[k]? = some z := ⟨_, List.getElem?_eq_getElem (by rw [hLO.out.1]; exact hkn)⟩
         have hlf := hLF.out.2 k x y hx hy
         have hxb : x ≤ 1048576 := HWO.out.2 x (List.mem_of_getElem? hx)
         have hyb := hLO.out.2 k y hy
         have HSTEP : Hid (ldT ws a p ld (i + 1) = if x < 0 then some lc else if x - y < a then none else some (lc.set k (y + a))) := by
          have h1 : nth ws (k : Int) = x := by show (ws[(k : Int).toNat]?).getD 0 = x; rw [Int.toNat_natCast, hx]; rfl
          have h2 : nth lc (k : Int) = y := by show (lc[(k : Int).toNat]?).getD 0 = y; rw [Int.toNat_natCast, hy]; rfl
          show _ = _
          rw [ldT_step hLT.out hv]
          unfold ldS
          rw [h1, h2, Int.toNat_natCast]
         obtain ⟨gL, hgL⟩ : ∃ gL, AL = some ⟨gL, 0, none⟩ := by
          rcases hO.out.2 with ⟨h', h9⟩ | ⟨g', cap', cur, h', _⟩
          ·injection h' with h1 h2
           omega
          ·injection h' with h1 h2
           exact ⟨g', h1⟩
         subst hgL
         have hcl := hO.out.cellI hlf
         obtain ⟨cur, hlcur, hgb⟩ := hO.out.locI
         have HLC := Lib.hid hlcur
         obtain ⟨Z, hZ⟩ : ∃ Z, x - y - a = Z := ⟨_, rfl⟩
         have HNX := Lib.hid (hLF.out.next (a := a) hx hy)
         rw [hZ] at HNX
         have HZE := Lib.hid hZ
         obtain ⟨Y, hY⟩ : ∃ Y, x - y = Y := ⟨_, rfl⟩
         rw [hY] at hcl
         have HYE := Lib.hid hY
         have k3 : (0 : Int) ≤ (i : Int) := by omega
         have k4 : (i : Int) < (pl : Int) := by omega
         have k5 : (0 : Int) ≤ (k : Int) := by omega
         have k6 : (k : Int) < (mw : Int) := by omega
         have hbM : ¬ w6.heap.size = gL := hM.out.ne_loc hlcur
         have hbX : ¬ wo.heap.size = gL := fun e => loc_ne hLX.out hlcur (by decide) e
         have hlk : k < lf.length := (List.getElem?_eq_some_iff.1 hlf).1
         clear hv hx hy hZ hY hlf hlcur
         by_cases zx : x < 0
         ·have HLT7 : Hid (ldT ws a p ld (i + 1) = some lc) := by show _ = _; rw [HSTEP.out, if_pos zx]
          have dx : decide (x < 0) = true := decide_eq_true zx
          clear zx
          go_wp2_with fail
          go_roundw
          case rel => exact ⟨i + 1, lc, lf, by omega, by go_num, HLT7, hLO, hLF, hO, hM, hLX, hB⟩
          case measure => simp only [intOf]; omega
         have dx : decide (x < 0) = false := decide_eq_false zx
         have kZ : IntKind.i64.wrap (Y - a) = Z := by have := HZE.out; have := HYE.out; rw [IntKind.wrap_i64]; omega
         have HSS : Hid (wz.cell? ⟨wo.heap.size, 1, none⟩ = some (.int .i64 a) ∧ wz.cell? ⟨gL, k, none⟩ = some (.int .i64 Y)) := ⟨Loc.cell hLX.out 1, hcl⟩
         have HEND : Hid (∀ W, (wz.setCell ⟨gL, k, none⟩ (.int .i64 Z)).drew = W → Own1 W w5.heap.size 3 (.slice (some ⟨gL, 0, none⟩) mw cL) ((lf.set k Z).map (Value.int .i64)) ∧ MapB W 200 w6.heap.size q (edgeK es es.length) ∧ Loc W wo.heap.size 115 #[.slice (some aP) pl cP, .int .i64 a] ∧ Below w.heap.size w W) := fun W hW => by
          replace hW : wz.drew.setCell ⟨gL, k, none⟩ (.int .i64 Z) = W := hW
          subst hW
          refine ⟨Own1.setI (w := wz.drew) hO.out k Z, MapB.far (w := wz.drew) hM.out (p := ⟨gL, k, none⟩) hbM _, Loc.far (w := wz.drew) hLX.out (p := ⟨gL, k, none⟩) hbX _, (hB.drew).setCell (p := ⟨gL, k, none⟩) (by show w.heap.size ≤ gL; have := HB5.out.size; omega) _⟩
         have GF : Hid (∀ z, wz.frozen? ⟨gL, z, none⟩ = false) := Loc.frz HLC.out
         have GL : Hid (gL < wz.heap.size) := Loc.lt HLC.out
         go_wp2_with fail
         clear hcell hcw hcl
         refine wp_region_noPanic ?_
         refine wp_region_heldK (k := 8) (S := (fun W => W.cell? ⟨wo.heap.size, 1, none⟩ = some (.int .i64 a) ∧ W.cell? ⟨gL, k, none⟩ = some (.int .i64 Y))) (by kernel_rfl) ?_ (fun hHeld => ?_)
         ·exact HSS.out
         refine tkK 0 ?_
         (try simp only [Act.put, ly])
         refine tkK 1 ?_
         (try simp only [Act.put, ly])
         refine tkK 2 ?_
         (try simp only [Act.put, ly])
         refine tkK 3 ?_
         (try simp only [Act.put, ly])
         refine tkK 4 ?_
         (try simp only [Act.put, ly])
         refine tkK 5 ?_
         (try simp only [Act.put, ly])
         refine tkK 6 ?_
         (try simp only [Act.put, ly])
         refine tkK 7 ?_
         (try simp only [Act.put, ly])
         have g0 := HSS.out.2
         have gf := GF.out
         have gl := GL.out
         refine wpAnyK_ready (rs := [8]) (by kernel_rfl) (by simp) ?_
         refine AllReadyK.last (by kernel_rfl) rfl (fun KK hKK => ?_) AllReadyK.nil
         go_simp
         refine hKK.out _ _ ?_
         clear hKK KK
         (try simp only [Act.put, ly])
         refine wpAnyK_done (by kernel_rfl) ?_ _
         refine NoPanic.normal ?_
         clear g0 gf gl
         obtain ⟨wy, hwy⟩ : ∃ W, (wz.setCell ⟨gL, k, none⟩ (.int .i64 Z)).drew = W := ⟨_, rfl⟩
         have HE2 := Lib.hid (HEND.out _ hwy)
         (try rw [hwy])
         have hcz := HE2.out.1.cellI (k := k) (z := Z) (List.getElem?_set_self hlk)
         clear hwy HEND
         by_cases zl : Z < 0
         ·have HV := Lib.hid (HNOT.out (fun hg => by
           obtain ⟨l9, -, -, h9⟩ := good_flow hg hFT.out HZ.out
           have h8 : ldT ws a p ld (i + 1) = none := by rw [HSTEP.out, if_neg (by omega), if_pos (by have := HYE.out; have := HZE.out; omega)]
           simp only at h9
           rw [ldT_bad h8 (by rw [HPLN.out]; omega)] at h9
           cases h9))
          have dl : decide (Z < 0) = true := decide_eq_true zl
          clear zl zx
          go_wp2_with fail
          go_ret
          exact ⟨⟨_, rfl, HV⟩, HE2.out.2.2.2⟩
         have dl : decide (Z < 0) = false := decide_eq_false zl
         have HLT7 : Hid (ldT ws a p ld (i + 1) = some (lc.set k (y + a))) := by show _ = _; rw [HSTEP.out, if_neg (by omega), if_neg (by have := HYE.out; have := HZE.out; omega)]
         have HLO7 : Hid (LdOk mw ws (lc.set k (y + a))) := ldT_ok HWO.out z0 (hFT.out.ok HWO.out) _ _ HLT7.out
         clear zl zx
         go_wp2_with fail
         go_roundw
         case rel => exact ⟨i + 1, _, _, by omega, by go_num, HLT7, HLO7, HNX, Lib.hid HE2.out.1, Lib.hid HE2.out.2.1, Lib.hid HE2.out.2.2.1, HE2.out.2.2.2⟩
         case measure => simp only [intOf]; omega
        ·obtain rfl : i = pl := by omega
         have HFN : Hid (FlowsTo es ws s t fs mw (j + 1) lc) := ⟨ld, (p, a), hFT.out, HZ.out, z0, HPO.out, by show ldT ws a p ld p.length = _; rw [HPLN.out]; exact hLT.out⟩
         have HSL : Hid (sent fs (j + 1) ≤ T) := by show _ ≤ _; rw [HSN.out]; have := HA0.out; omega
         have HAE : Hid (A1 = T - sent fs (j + 1)) := by show _ = _; rw [HSN.out]; have := HA0.out; have := HA1.out; omega
         go_wp2_with fail
         go_roundw
         case rel => exact ⟨j + 1, lc, lf, by omega, by go_num, rfl, by rw [HAE.out], HFN, hLF, HSL, hO, hM, hB⟩
         case measure => simp only [intOf]; omega
      ·obtain rfl : j = mx := by omega
       by_cases hST : A0 = 0
       ·have HV := Lib.hid (HOK.out ⟨HCT.out, HSEP.out, ⟨ld, by have h9 := hFT.out; rw [HMX.out]; exact h9⟩, by rw [HMX.out, HMC.out, HSE.out, HTE.out]; have := HA0.out; omega⟩)
        have d1 : (A0 != 0) = false := by rw [hST]; rfl
        clear hST
        go_wp2_with fail
        go_ret
        exact ⟨⟨_, rfl, HV⟩, hB⟩
       ·have HV := Lib.hid (HNOT.out (fun h => by
         have h9 := h.2.2.2
         rw [HMX.out, HMC.out, HSE.out, HTE.out] at h9
         exact hST (by have := HA0.out; omega)))
        have d1 : (A0 != 0) = true := by rw [bne_iff_ne]; exact hST
        clear hST
        go_wp2_with fail
        go_ret
        exact ⟨⟨_, rfl, HV⟩, hB⟩
end Go.Proofs.YtbdcjhoedhhabaaGreat

