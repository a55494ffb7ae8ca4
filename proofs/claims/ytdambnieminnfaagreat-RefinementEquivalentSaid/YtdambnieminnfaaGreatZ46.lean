/- Contracts of the functions that the statements reach, part 46. -/
import Derived.Test.YtdambnieminnfaaGreatRows
import Derived.Test.YtdambnieminnfaaGreatZ45
set_option linter.unusedSimpArgs false
set_option linter.unusedVariables false

/- The law's side of layer 40: reduced. -/
namespace Go.Proofs.YtdambnieminnfaaGreat
open Go.RowKit
attribute [local go_sem ↓] Go.wp_at_zero Go.wp_at_succ

/-- What is known of the lists that reduced gathers. -/
structure RedI (w : World) (base m : Nat) (L : List (List Int)) (y : Nat) (v : Value) (es : List RE) : Prop where
 out : OutR w base v es
 gi : GI m (ce L) y (es.map RE.l)
 few : es.length ≤ y
theorem RedI.below {w w' : World} {base m y : Nat} {L : List (List Int)} {v : Value} {es : List RE} (h : RedI w base m L y v es) (hb : Below w.heap.size w w') : RedI w' base m L y v es := ⟨h.out.below hb, h.gi, h.few⟩
/-- The sizes of the numbers. -/
theorem gi_small {L : List (List Int)} (hV : VC L) {y : Nat} (hy : y ≤ wid L) {o : List (List Int)} (h : GI L.length (ce L) y o) : ∀ l ∈ o, ∀ z ∈ l, 0 ≤ z ∧ z ≤ 1048576 := by
 intro l hl z hz
 refine ⟨h.nn l hl z hz, ?_⟩
 obtain ⟨i, hi, rfl⟩ := List.getElem_of_mem hz
 have hlen := h.len l hl
 have hC := hV.chan
 have h1 := h.le (fun x hx y' hy' => hC.non x hx y' (by have : wid L = (L.getD 0 []).length := rfl; omega)) hl (x := i) (by omega)
 have h2 : sm y (fun y => ce L i y) ≤ sm (wid L) (fun y => ce L i y) := by
  have e := sm_split (fun y => ce L i y) y (wid L - y)
  rw [show y + (wid L - y) = wid L by omega] at e
  rw [e]
  have : 0 ≤ sm (wid L - y) (fun j => ce L i (y + j)) := sm_nonneg (fun j hj => hC.non i (by omega) (y + j) (by have : wid L = (L.getD 0 []).length := rfl; omega))
  grind
 have h3 : sm (wid L) (fun y => ce L i y) = ((tot L : Int) : Rat) := hC.row i (by omega)
 have h4 := hV.tot.2
 have h5 : lv l i = ((l[i] : Int) : Rat) := by unfold lv; rw [List.getD_eq_getElem?_getD, List.getElem?_eq_getElem hi]; rfl
 rw [h5] at h1
 have h6 : ((l[i] : Int) : Rat) ≤ ((tot L : Int) : Rat) := by grind
 have := Rat.intCast_le_intCast.1 h6
 omega

set_option maxRecDepth 100000 in
set_option maxHeartbeats 16000000 in
theorem reduced_any (w : World) (v0 : Value) (L : List (List Int)) (h : IMat w v0 L) (hF : Few40 L) (hV : VC L) :
 Calls Tryz.prog 41 #[.agg #[v0]] w fun e w' => ∃ (v' : Value) (R A : List (List Int)), e = .returned v' ∧ Hid (IMat w' v' R ∧ GI L.length (ce L) (wid L) A ∧ R.Perm (redL A) ∧ R.Pairwise geL) ∧ Below w.heap.size w w' := by
 have H := Lib.hid h
 have HV := Lib.hid hV
 obtain ⟨A1, c1, rfl, -, la1, la2⟩ := h.op
 obtain ⟨m, hm⟩ : ∃ r, L.length = r := ⟨_, rfl⟩
 obtain ⟨n, hn⟩ : ∃ r, wid L = r := ⟨_, rfl⟩
 have HM := Lib.hid hm
 have HN := Lib.hid hn
 have hm5 : m ≤ 5 := by rw [← hm]; exact hF.1
 have hn5 : n ≤ 5 := by rw [← hn]; exact hF.wd
 have hm1 : 1 ≤ m := by rw [← hm]; exact hV.1
 have hn1 : 1 ≤ n := by rw [← hn]; exact hV.2.2.1
 rw [hm] at H la1
 rw [hm, hn]
 unfold maxLen at la2
 obtain ⟨l0, he0⟩ : ∃ l, L[0]? = some l := ⟨_, List.getElem?_eq_getElem (by omega)⟩
 obtain ⟨a1, D1, d1, rfl, hab1, hcell1, -, -, -⟩ := H.out.at he0
 rw [(hV.row he0).1, hn, addr_zero] at hcell1
 have i0 : 0 < m := by omega
 obtain ⟨w1, hw1⟩ : ∃ W, w.alloc (.cells #[.slice (some a1) m c1] 24) = W := ⟨_, rfl⟩
 have hb01 : Below w.heap.size w w1 := by rw [← hw1]; exact below1 w _
 have B1 : Loc w1 w.heap.size 24 #[.slice (some a1) m c1] := by rw [← hw1]; exact made1 w #[.slice (some a1) m c1] 24
 have hs1 : w.heap.size < w1.heap.size := B1.lt
 have hc1 : w1.cell? a1 = _ := cell_keep (X := fun _ => False) hcell1 hab1 id (.of_below hb01)
 have HW : Hid (∀ W, Below w1.heap.size w1 W → Loc W w.heap.size 24 #[.slice (some a1) m c1] ∧ Below w.heap.size w W) := fun W hW => ⟨B1.below hW, hb01.trans (hW.mono (by omega))⟩
 have HGI0 : Hid (RedI w1 w1.heap.size m L 0 (.slice none 0 0) []) := ⟨OutR.nil _ _, GI.start, Nat.le_refl _⟩
 obtain ⟨e1, f1, -⟩ := B1.all (w' := w1)
 clear h hF hV hm hn he0 hcell1 B1 hb01
 go_enter Tryz.func41, Tryz.ntmps41
 go_wp2_with fail
 clear e1 f1 hc1
 go_loopw [3, 22] (fun v i wr => ∃ (y : Nat) (es : List RE), y ≤ n ∧ i = .int .i64 y ∧ Hid (RedI wr w1.heap.size m L y v es) ∧ Below w1.heap.size w1 wr) (fun _ i _ => n - (intOf i).toNat)
 case atStart => exact ⟨0, [], by omega, rfl, HGI0, Below.refl _ _⟩
 case round =>
  clear HGI0
  obtain ⟨y, es, hy, rfl, hI, hB⟩ := hrel
  obtain ⟨wx, rfl⟩ : ∃ wo : World, wo = wr := ⟨_, rfl⟩
  have HI := Lib.hid hI.out
  have HB := Lib.hid hB
  have yx := hB.size
  clear hI hB
  by_cases hlt : y < n
  ·obtain ⟨w2, hw2⟩ : ∃ W, wx.alloc (.cells #[.slice none 0 0] 38) = W := ⟨_, rfl⟩
   have hb2 : Below wx.heap.size wx w2 := by rw [← hw2]; exact below1 wx _
   have BX : Loc w2 wx.heap.size 38 #[.slice none 0 0] := by rw [← hw2]; exact made1 wx #[.slice none 0 0] 38
   have y2 := BX.lt
   have HB2 := Lib.hid hb2
   obtain ⟨e1, f1, -⟩ := Loc.all ((HW.out _ HB.out).1.below hb2) (w' := w2)
   have k0 : (0 : Int) ≤ (y : Int) := by omega
   have k1 : (y : Int) < (n : Int) := by omega
   have hyw : y < wid L := by rw [HN.out]; exact hlt
   clear hb2
   go_wp2_with fail
   clear e1 f1
   go_loopw [28] (fun i wr => ∃ (x : Nat) (cv : Value), x ≤ m ∧ i = .int .i64 x ∧ Loc wr wx.heap.size 38 #[cv] ∧ Own1 wr w2.heap.size 3 cv ((colP L y x).map (Value.int .i64)) ∧ Below wx.heap.size wx wr ∧ w2.heap.size ≤ wr.heap.size) (fun i _ => m - (intOf i).toNat)
   case atStart => exact ⟨0, _, by omega, rfl, BX, Own1.nil _ _ _, HB2.out, Nat.le_refl _⟩
   case round =>
    clear BX
    obtain ⟨x, cv, hx, rfl, BX, hcv, hBx, yw⟩ := hrel
    obtain ⟨wq, rfl⟩ : ∃ wo : World, wo = wr := ⟨_, rfl⟩
    have HBX := Lib.hid hBx
    have HCV := Lib.hid hcv
    have HBOX := Lib.hid BX
    obtain ⟨Ac, mc, cc, rfl⟩ : ∃ A m c, cv = .slice A m c := by
     rcases HCV.out.2 with ⟨rfl, -⟩ | ⟨g, cap, cur, rfl, -⟩
     ·exact ⟨_, _, _, rfl⟩
     ·exact ⟨_, _, _, rfl⟩
    have HBW : Hid (Below w1.heap.size w1 wq) := HB.out.trans (hBx.mono yx)
    clear hBx hcv BX
    by_cases hltx : x < m
    ·have hxL : x < L.length := by rw [HM.out]; exact hltx
     obtain ⟨l1, hl1, hl1y, -, -⟩ := HV.out.en hxL hyw
     obtain ⟨a1', D4, d4, ea, hab4, hcell4, hints4, -, -⟩ := H.out.at hl1
     injection ea with ea
     subst ea
     rw [(HV.out.row hl1).1, HN.out] at hcell4
     obtain ⟨b4, rfl, hbb4, hc4, -, -⟩ := hints4.at hl1y
     obtain ⟨z, hz⟩ : ∃ z, en L x y = z := ⟨_, rfl⟩
     have HZ := Lib.hid hz
     rw [hz] at hc4
     have k2 : (0 : Int) ≤ (x : Int) := by omega
     have k3 : (x : Int) < (m : Int) := by omega
     have HLS : Hid (∀ W, Below wx.heap.size wx W → Loc W wx.heap.size 38 #[.slice Ac mc cc] → ((W.cell? ⟨wx.heap.size, 0, none⟩ = some (.slice Ac mc cc) ∧ W.cell? ⟨w.heap.size, 0, none⟩ = some (.slice (some a1) m c1)) ∧ W.cell? (a1.add x) = some (.slice (some b4) n d4) ∧ W.cell? (b4.add y) = some (.int .i64 z))) := fun W hW hL => by
      have hW1 : Below w1.heap.size w1 W := HB.out.trans (hW.mono yx)
      have hK : Keep (fun _ => False) w W := .of_below (HW.out W hW1).2
      exact ⟨⟨Loc.cell hL 0, Loc.cell (HW.out W hW1).1 0⟩, cell_keep hcell4 (by rw [addr_block]; exact hab4) id hK, cell_keep hc4 (by rw [addr_block]; exact hbb4) id hK⟩
     have hownA : Own1 (wq.alloc (.cells #[.int .i64 z] 3)) w2.heap.size 3 (.slice Ac mc cc) ((colP L y x).map (Value.int .i64)) := HCV.out.below (below1 _ _)
     have HOWNA := Lib.hid hownA
     have yw2 : wx.heap.size ≤ wq.heap.size := HBX.out.size
     have HSZ : Hid (w2.heap.size = wx.heap.size + 1) := by show _ = _; rw [← hw2]; simp only [World.size_alloc]
     have hml : ((colP L y x).map (Value.int .i64)).length ≤ 1000 := by rw [List.length_map, colP_len]; omega
     have HML := Lib.hid hml
     clear hl1 hl1y hcell4 hints4 hc4 hz hownA hxL hml
     go_upto_region 10 with fail
     refine wp_region_noPanic ?_
     refine wp_region_heldK (k := 11) (S := (fun W => (W.cell? ⟨wx.heap.size, 0, none⟩ = some (.slice Ac mc cc) ∧ W.cell? ⟨w.heap.size, 0, none⟩ = some (.slice (some a1) m c1)) ∧ W.cell? (a1.add x) = some (.slice (some b4) n d4) ∧ W.cell? (b4.add y) = some (.int .i64 z))) (by kernel_rfl) ?_ (fun hHeld => ?_)
     ·exact HLS.out _ HBX.out.drew HBOX.out
     refine tkK 0 ?_
     (try simp only [Act.put, ly])
     refine puK 1 ?_
     (try simp only [Act.put, ly])
     refine tkK 2 ?_
     (try simp only [Act.put, ly])
     refine puK 3 ?_
     (try simp only [Act.put, ly])
     refine puK 4 ?_
     (try simp only [Act.put, ly])
     refine tkK 5 ?_
     (try simp only [Act.put, ly])
     refine puK 6 ?_
     (try simp only [Act.put, ly])
     refine puK 7 ?_
     (try simp only [Act.put, ly])
     refine tkK 8 ?_
     (try simp only [Act.put, ly])
     refine wpAnyK_ready (rs := [9]) (by kernel_rfl) (by simp) ?_
     refine AllReadyK.cons rfl (fun KK hKK => ?_) AllReadyK.nil
     go_simp
     (try go_wp2_with fail)
     refine hKK.out _ _ ?_ (fun hHeld => ?_)
     ·(try dsimp only)
      exact HLS.out _ ((HBX.out.trans ((below1 wq _).mono yw2)).drew) (HBOX.out.below ((below1 wq _).drew))
     clear hKK KK
     (try simp only [Act.put, ly])
     refine wpAnyK_ready (rs := [10]) (by kernel_rfl) (by simp) ?_
     refine AllReadyK.cons rfl (fun KK hKK => ?_) AllReadyK.nil
     refine step_push1 _ rfl _ _ rfl Tryz.underlying38 info_int1 rfl (by decide) w2.heap.size (.slice Ac mc cc) ((colP L y x).map (Value.int .i64)) rfl (show Own1 (wq.alloc (.cells #[.int .i64 z] 3)).drew w2.heap.size 3 (.slice Ac mc cc) ((colP L y x).map (Value.int .i64)) from HOWNA.out) wq.heap.size (.int .i64 z) rfl (made1 wq #[.int .i64 z] 3) rfl HML.out (by simp only [size_drew, World.size_alloc]; omega) ?_
     intro gA capA w4 hoa4 hg4 ho4 hl4
     have y4 := hg4.size
     simp only [size_drew, World.size_alloc] at y4 ho4
     have hb4 : Below wx.heap.size wx w4 := below_own (HBX.out.trans ((below1 wq _).mono yw2)).drew (show Own1 (wq.alloc (.cells #[.int .i64 z] 3)).drew w2.heap.size 3 (.slice Ac mc cc) ((colP L y x).map (Value.int .i64)) from HOWNA.out) hg4 (by have := HSZ.out; omega) (by simp only [size_drew, World.size_alloc]; omega)
     have hbox4 : Loc w4 wx.heap.size 38 #[.slice Ac mc cc] := loc_other (show Own1 (wq.alloc (.cells #[.int .i64 z] 3)).drew w2.heap.size 3 (.slice Ac mc cc) ((colP L y x).map (Value.int .i64)) from HOWNA.out) hg4 (HBOX.out.below ((below1 wq _).drew)) (by decide)
     refine hKK.out _ _ (HLS.out _ hb4 hbox4) (fun hHeld => ?_)
     clear hKK KK
     (try simp only [Act.put, ly])
     obtain ⟨e4, f4, l4⟩ := hbox4.all (w' := w4)
     have hlen : ((colP L y x).map (Value.int .i64)).length = x := by rw [List.length_map, colP_len]
     rw [hlen] at hoa4 ⊢
     have HREL : Hid (Loc (w4.setCell ⟨wx.heap.size, 0, none⟩ (.slice (some ⟨gA, 0, none⟩) (x + 1) capA)) wx.heap.size 38 #[.slice (some ⟨gA, 0, none⟩) (x + 1) capA] ∧ Own1 (w4.setCell ⟨wx.heap.size, 0, none⟩ (.slice (some ⟨gA, 0, none⟩) (x + 1) capA)) w2.heap.size 3 (.slice (some ⟨gA, 0, none⟩) (x + 1) capA) ((colP L y (x + 1)).map (Value.int .i64)) ∧ Below wx.heap.size wx (w4.setCell ⟨wx.heap.size, 0, none⟩ (.slice (some ⟨gA, 0, none⟩) (x + 1) capA))) :=
      ⟨hbox4.set 0 _, by rw [colP_succ, List.map_append, HZ.out]; exact Own1.far hoa4 (by have := HSZ.out; omega) _ _, hb4.setCell (Nat.le_refl _) _⟩
     have y5 : w2.heap.size ≤ w4.heap.size := by omega
     clear hoa4 hg4 hb4 hlen
     refine wpAnyK_ready (rs := [11]) (by kernel_rfl) (by simp) ?_
     refine AllReadyK.last (by kernel_rfl) rfl (fun KK hKK => ?_) AllReadyK.nil
     go_simp
     refine hKK.out _ _ ?_
     clear hKK KK
     (try simp only [Act.put, ly])
     refine wpAnyK_done (by kernel_rfl) ?_ _
     refine NoPanic.normal ?_
     clear e4 f4 l4
     go_wp2_with fail
     go_roundw
     case rel => exact ⟨x + 1, _, by omega, by go_num, HREL.out.1, HREL.out.2.1, HREL.out.2.2, by simp only [World.size_setCell]; exact y5⟩
     case measure => simp only [intOf]; omega
    ·obtain rfl : m = x := by omega
     have HCB : Hid (∀ z ∈ colP L y m, 0 ≤ z ∧ z ≤ 1048576) := fun z hz => by
      obtain ⟨i, hi, rfl⟩ := colP_mem hz
      obtain ⟨_, _, _, q1, q2⟩ := HV.out.en (by rw [HM.out]; exact hi : i < L.length) hyw
      exact ⟨q1, q2⟩
     have hcne : colP L y m ≠ [] := fun e => by have := colP_len L y m; rw [e] at this; simp at this; omega
     obtain ⟨ec, hec1, hec2, hec3⟩ := RE.of_own HCV.out hcne
     have hecv := hec2
     unfold RE.v at hecv
     rw [hec1, colP_len] at hecv
     simp only [Value.slice.injEq] at hecv
     obtain ⟨rfl, rfl, rfl⟩ := hecv
     have hval : IntsV wq (.slice (some ⟨ec.g, 0, none⟩) m ec.cap) (colP L y m) := by
      have := hec3.vals (fun z hz => by rw [hec1] at hz; have := HCB.out z hz; omega)
      rw [hec1, hec2] at this
      exact this
     have HVAL := Lib.hid hval
     have HEC : Hid (ec.l = colP L y m ∧ ec.v = .slice (some ⟨ec.g, 0, none⟩) m ec.cap ∧ ec.ok wq w2.heap.size) := ⟨hec1, hec2, hec3⟩
     have HS2 : Hid (w2.heap.size = wx.heap.size + 1) := by show _ = _; rw [← hw2]; simp only [World.size_alloc]
     obtain ⟨e1, f1, -⟩ := HBOX.out.all (w' := wq)
     clear hcne hec1 hec2 hec3 hval HCV
     go_wp2_with fail
     refine (maxI_any _ _ (colP L y m) HVAL.out (by rw [colP_len]; exact hm1) (fun z hz => (HCB.out z hz).1)).mono ?_
     rintro e w5 ⟨M, rfl, hMx, hb5⟩
     have y5 := hb5.size
     have HB5 := Lib.hid hb5
     have HM5 := Lib.hid hMx.out
     have HBW5 : Hid (Below w1.heap.size w1 w5) := HBW.out.trans (hb5.mono HBW.out.size)
     have HX5 : Hid (Below wx.heap.size wx w5) := HBX.out.trans (hb5.mono HBX.out.size)
     have HI5 : Hid (RedI w5 w1.heap.size m L y u3 es) := HI.out.below HX5.out
     clear e1 f1 hMx hb5
     have HCE : Hid (∀ x, x < m → lv (colP L y m) x = ce L x y) := fun x hx => colP_lv hx
     by_cases hM0 : M = 0
     ·subst hM0
      have HN0 : Hid (RedI w5 w1.heap.size m L (y + 1) u3 es) := ⟨HI5.out.out, HI5.out.gi.skip (fun x hx => by
       rw [← HCE.out x hx]
       unfold lv
       rw [List.getD_eq_getElem?_getD, List.getElem?_eq_getElem (by rw [colP_len]; exact hx)]
       have := HM5.out.1 rfl _ (List.getElem_mem (by rw [colP_len]; exact hx : x < (colP L y m).length))
       simp only [Option.getD_some, this]; rfl), by have := HI5.out.few; omega⟩
      go_wp2_with fail
      go_roundw
      case rel => exact ⟨y + 1, es, by omega, by go_num, HN0, HBW5.out⟩
      case measure => simp only [intOf]; omega
     have d1 : (M == 0) = false := beq_eq_false_iff_ne.2 hM0
     have HNE : Hid (cs m (ce L) y ≠ 0) := fun h0 => hM0 (HM5.out.2 (fun z hz => by
      obtain ⟨i, hi, rfl⟩ := colP_mem hz
      have := cs_zero (fun x hx => HV.out.chan.non x (by rw [HM.out]; exact hx) y hyw) h0 i hi
      exact Rat.intCast_inj.1 (by exact this)))
     have hsm : ∀ e ∈ es, ∀ z ∈ e.l, 0 ≤ z ∧ z ≤ 1048576 := fun e he z hz => gi_small HV.out (y := y) (by rw [HN.out]; omega) (by have := HI5.out.gi; rw [← HM.out] at this; exact this) e.l (List.mem_map.2 ⟨e, he, rfl⟩) z hz
     have HSM := Lib.hid hsm
     have himat : IMat w5 u3 (es.map RE.l) := HI5.out.out.imat (fun e he z hz => by have := HSM.out e he z hz; omega)
     have HIM := Lib.hid himat
     have HBOX5 : Hid (Loc w5 wx.heap.size 38 #[.slice (some ⟨ec.g, 0, none⟩) m ec.cap]) := HBOX.out.below HB5.out
     have HVAL5 : Hid (IntsV w5 (.slice (some ⟨ec.g, 0, none⟩) m ec.cap) (colP L y m)) := HVAL.out.keep (.of_below HB5.out)
     obtain ⟨e1, f1, -⟩ := HBOX5.out.all (w' := w5)
     clear hM0 hsm himat HM5
     go_wp2_with fail
     refine (indexK_any _ 78 #[.pointer (some ⟨wx.heap.size, 0, none⟩)] (fun l => alk l (colP L y m)) _ (es.map RE.l) HIM.out (enters Tryz.func78 (by kernel_rfl) (by kernel_rfl)) (show TellsI _ 78 #[.pointer (some ⟨wx.heap.size, 0, none⟩)] (fun l => alk l (colP L y m)) (es.map RE.l) from fun W A c l hW hv hl => by
      obtain ⟨e, he, rfl⟩ := List.mem_map.1 hl
      exact red1_any W A c wx.heap.size _ e.l (colP L y m) hv (HBOX5.out.below hW) (HVAL5.out.keep (.of_below hW)) (by rw [HI5.out.gi.len e.l hl, colP_len]) (HSM.out e he) HCB.out)).mono ?_
     rintro e w6 ⟨r, rfl, hr, hb6⟩
     have y6 := hb6.size
     have HB6 := Lib.hid hb6
     have HBW6 : Hid (Below w1.heap.size w1 w6) := HBW5.out.trans (hb6.mono HBW5.out.size)
     have HX6 : Hid (Below wx.heap.size wx w6) := HX5.out.trans (hb6.mono HX5.out.size)
     have HBOX6 : Hid (Loc w6 wx.heap.size 38 #[.slice (some ⟨ec.g, 0, none⟩) m ec.cap]) := HBOX5.out.below HB6.out
     have HEC6 : Hid (ec.ok w6 w2.heap.size) := (HEC.out.2.2.below HB5.out).below HB6.out
     have HI6 : Hid (RedI w6 w1.heap.size m L y u3 es) := HI5.out.below HB6.out
     have HGX : Hid (∀ a ∈ es, a.g < wx.heap.size) := fun a ha => (HI.out.out.rows a ha).lt
     clear e1 f1 hb6
     rcases hr.out with ⟨k, l, rfl, hk, hak⟩ | ⟨rfl, hno⟩
     ·have hkr := hk
      rw [List.getElem?_map] at hkr
      obtain ⟨e, hek, rfl⟩ := Option.map_eq_some_iff.1 hkr
      have hkl := (List.getElem?_eq_some_iff.1 hek).1
      have hem := List.mem_of_getElem? hek
      have HEK : Hid (es[k]? = some e ∧ alk e.l (colP L y m)) := ⟨hek, hak⟩
      have hel : e.l.length = m := HI6.out.gi.len e.l (List.mem_map.2 ⟨e, hem, rfl⟩)
      have HEL := Lib.hid hel
      have HGE : Hid (e.g < wx.heap.size) := HGX.out e hem
      have HSE : Hid (∀ z ∈ e.l, 0 ≤ z ∧ z ≤ 1048576) := HSM.out e hem
      have hne : es ≠ [] := List.ne_nil_of_mem hem
      obtain ⟨G, cap, rfl, hG1, hG2, hG3, hG4, -, -, -⟩ := HI6.out.out.op hne
      obtain ⟨N, hN2⟩ : ∃ N, es.length = N := ⟨_, rfl⟩
      have HNL := Lib.hid hN2
      have hO0 : Hid (OutR w6 w1.heap.size (.slice (some ⟨G, 0, none⟩) N cap) (es.set k ⟨e.g, e.cap, addP e.l (colP L y m) 0⟩)) := by
       have he2 : es.set k ⟨e.g, e.cap, addP e.l (colP L y m) 0⟩ = es := by
        rw [addP_zero]
        apply List.ext_getElem?
        intro i
        by_cases hi : i = k
        ·subst hi
         rw [List.getElem?_set_self hkl, hek]
        ·rw [List.getElem?_set_ne (fun h => hi h.symm)]
       rw [he2]
       have := HI6.out.out
       rw [hN2] at this
       exact this
      rw [hN2] at hkl hG3 ⊢
      have hN5 : N ≤ 5 := by have := HI6.out.few; rw [hN2] at this; omega
      have k4 : (0 : Int) ≤ (k : Int) := by omega
      have k5 : (k : Int) < (N : Int) := by omega
      obtain ⟨e1, f1, -⟩ := HBOX6.out.all (w' := w6)
      have y61 := HBW6.out.size
      clear hr hk hkr hek hak hem hel hne hN2
      go_wp2_with fail
      clear e1 f1
      go_loopw [57] (fun i wr => ∃ (x : Nat), x ≤ m ∧ i = .int .i64 x ∧ Hid (OutR wr w1.heap.size (.slice (some ⟨G, 0, none⟩) N cap) (es.set k ⟨e.g, e.cap, addP e.l (colP L y m) x⟩)) ∧ Loc wr wx.heap.size 38 #[.slice (some ⟨ec.g, 0, none⟩) m ec.cap] ∧ Hid (ec.ok wr w2.heap.size) ∧ Below w1.heap.size w1 wr ∧ w6.heap.size ≤ wr.heap.size) (fun i _ => m - (intOf i).toNat)
      case atStart => exact ⟨0, by omega, rfl, hO0, HBOX6.out, HEC6, HBW6.out, Nat.le_refl _⟩
      case round =>
       clear hO0 HBOX6
       obtain ⟨x, hx, rfl, hO, hbx, hecx, hBx, yr⟩ := hrel
       obtain ⟨wz, rfl⟩ : ∃ wo : World, wo = wr := ⟨_, rfl⟩
       have HO := Lib.hid hO.out
       have HBXX := Lib.hid hbx
       have HECX := Lib.hid hecx.out
       have HBZ := Lib.hid hBx
       clear hO hbx hecx hBx
       by_cases hltx : x < m
       ·have hkS : (es.set k ⟨e.g, e.cap, addP e.l (colP L y m) x⟩)[k]? = some ⟨e.g, e.cap, addP e.l (colP L y m) x⟩ := List.getElem?_set_self (by rw [HNL.out]; exact hkl)
        obtain ⟨G', cap', hv', -, -, -, -, -, hcell, -⟩ := HO.out.op (List.ne_nil_of_mem (List.mem_of_getElem? hkS))
        rw [List.length_set, HNL.out] at hv'
        simp only [Value.slice.injEq, Option.some.injEq, Addr.mk.injEq, and_true, true_and] at hv'
        obtain ⟨rfl, -⟩ := hv'
        have g1 := hcell k _ hkS
        have hrow := HO.out.rows _ (List.mem_of_getElem? hkS)
        have hgx : (addP e.l (colP L y m) x)[x]? = some (e.l.getD x 0) := by rw [addP_get (by rw [HEL.out]; exact hltx), if_neg (Nat.lt_irrefl x)]
        have g2 := hrow.cell hgx
        have gf := hrow.frz
        have hlt3 := hrow.lt
        have hcx : ec.l[x]? = some ((colP L y m).getD x 0) := by
         rw [HEC.out.1, List.getD_eq_getElem?_getD, List.getElem?_eq_getElem (by rw [colP_len]; exact hltx)]; rfl
        have g3 := HECX.out.cell hcx
        have g4 : wz.cell? ⟨wx.heap.size, 0, none⟩ = some (.slice (some ⟨ec.g, 0, none⟩) m ec.cap) := Loc.cell HBXX.out 0
        have b1 := HSE.out (e.l.getD x 0) (getD_mem (by rw [HEL.out]; exact hltx))
        have b2 := HCB.out ((colP L y m).getD x 0) (getD_mem (by rw [colP_len]; exact hltx))
        obtain ⟨P, hP⟩ : ∃ P, e.l.getD x 0 = P := ⟨_, rfl⟩
        obtain ⟨Q, hQ⟩ : ∃ P, (colP L y m).getD x 0 = P := ⟨_, rfl⟩
        have HPQ : Hid (P + Q = e.l.getD x 0 + (colP L y m).getD x 0) := by show _ = _; rw [hP, hQ]
        rw [hP] at g2 b1
        rw [hQ] at g3 b2
        unfold RE.v at g1
        dsimp only at g1 g2 hlt3 gf
        rw [addP_len, HEL.out] at g1
        have t1 : IntKind.i64.wrap (P + Q) = P + Q := by rw [IntKind.wrap_i64]; omega
        have HLS : Hid (((wz.cell? ⟨G, k, none⟩ = some (.slice (some ⟨e.g, 0, none⟩) m e.cap) ∧ wz.cell? ⟨e.g, x, none⟩ = some (.int .i64 P)) ∧ wz.cell? ⟨wx.heap.size, 0, none⟩ = some (.slice (some ⟨ec.g, 0, none⟩) m ec.cap)) ∧ wz.cell? ⟨ec.g, x, none⟩ = some (.int .i64 Q)) := ⟨⟨⟨g1, g2⟩, g4⟩, g3⟩
        have hput := HO.out.put hkS x (P + Q)
        dsimp only at hput
        rw [List.set_set, addP_set (by rw [HEL.out]; exact hltx) HPQ.out] at hput
        have HPUT := Lib.hid hput
        have HBP : Hid (Loc (wz.setCell ⟨e.g, x, none⟩ (.int .i64 (P + Q))) wx.heap.size 38 #[.slice (some ⟨ec.g, 0, none⟩) m ec.cap]) := HBXX.out.far (by dsimp only; have := HGE.out; omega) _
        have HEP : Hid (ec.ok (wz.setCell ⟨e.g, x, none⟩ (.int .i64 (P + Q))) w2.heap.size) := HECX.out.far (p := ⟨e.g, x, none⟩) (by have := HGE.out; have := HECX.out.1; have := HS2.out; dsimp only; omega) _
        have HBN : Hid (Below w1.heap.size w1 (wz.setCell ⟨e.g, x, none⟩ (.int .i64 (P + Q)))) := HBZ.out.setCell hrow.1 _
        have HGF := Lib.hid gf
        have k6 : (0 : Int) ≤ (x : Int) := by omega
        have k7 : (x : Int) < (m : Int) := by omega
        clear hkS hcell g1 g2 g3 g4 hrow hgx hcx b1 b2 hP hQ hput gf
        go_upto_region 19 with fail
        refine wp_region_noPanic ?_
        refine wp_region_heldK (k := 13) (S := (fun W => ((W.cell? ⟨G, k, none⟩ = some (.slice (some ⟨e.g, 0, none⟩) m e.cap) ∧ W.cell? ⟨e.g, x, none⟩ = some (.int .i64 P)) ∧ W.cell? ⟨wx.heap.size, 0, none⟩ = some (.slice (some ⟨ec.g, 0, none⟩) m ec.cap)) ∧ W.cell? ⟨ec.g, x, none⟩ = some (.int .i64 Q))) (by kernel_rfl) ?_ (fun hHeld => ?_)
        ·exact HLS.out
        refine puK 0 ?_
        (try simp only [Act.put, ly])
        refine puK 1 ?_
        (try simp only [Act.put, ly])
        refine puK 2 ?_
        (try simp only [Act.put, ly])
        refine tkK 3 ?_
        (try simp only [Act.put, ly])
        refine puK 4 ?_
        (try simp only [Act.put, ly])
        refine puK 5 ?_
        (try simp only [Act.put, ly])
        refine tkK 6 ?_
        (try simp only [Act.put, ly])
        refine tkK 7 ?_
        (try simp only [Act.put, ly])
        refine puK 8 ?_
        (try simp only [Act.put, ly])
        refine puK 9 ?_
        (try simp only [Act.put, ly])
        refine tkK 10 ?_
        (try simp only [Act.put, ly])
        refine puK 11 ?_
        (try simp only [Act.put, ly])
        refine puK 12 ?_
        (try simp only [Act.put, ly])
        have g2 := HLS.out.1.1.2
        have gf := HGF.out
        refine wpAnyK_ready (rs := [13]) (by kernel_rfl) (by simp) ?_
        refine AllReadyK.last (by kernel_rfl) rfl (fun KK hKK => ?_) AllReadyK.nil
        go_simp
        refine hKK.out _ _ ?_
        clear hKK KK
        (try simp only [Act.put, ly])
        refine wpAnyK_done (by kernel_rfl) ?_ _
        refine NoPanic.normal ?_
        clear g2 gf t1
        go_wp2_with fail
        go_roundw
        case rel => exact ⟨x + 1, by omega, by go_num, HPUT.out.below (Below.refl _ _).drew, HBP.out, HEP.out, HBN.out.drew, by simp only [size_drew, World.size_setCell]; exact yr⟩
        case measure => simp only [intOf]; omega
       ·obtain rfl : m = x := by omega
        have HN1 : Hid (RedI wz w1.heap.size m L (y + 1) (.slice (some ⟨G, 0, none⟩) N cap) (es.set k ⟨e.g, e.cap, addP e.l (colP L y m) m⟩)) := by
         refine ⟨HO.out, ?_, ?_⟩
         ·rw [List.map_set]
          refine HI6.out.gi.add (l := e.l) (c := colP L y m) (by rw [List.getElem?_map, HEK.out.1]; rfl) (by rw [addP_len]; exact HEL.out) (fun z hz => ?_) (fun z hz => (HCB.out z hz).1) HCE.out HNE.out ((alk_par HEL.out).1 HEK.out.2) (fun x hx => addP_lv HEL.out hx)
          obtain ⟨i, hi, rfl⟩ := List.mem_map.1 hz
          have hi' : i < m := by have := List.mem_range.1 hi; rw [HEL.out] at this; exact this
          have q1 := HSE.out (e.l.getD i 0) (getD_mem (by rw [HEL.out]; exact hi'))
          have q2 := HCB.out ((colP L y m).getD i 0) (getD_mem (by rw [colP_len]; exact hi'))
          split <;> omega
         ·rw [List.length_set]
          have := HI6.out.few
          omega
        go_wp2_with fail
        go_roundw
        case rel => exact ⟨y + 1, _, by omega, by go_num, HN1, HBZ.out⟩
        case measure => simp only [intOf]; omega
     ·have HNO := Lib.hid hno
      obtain ⟨Av, cv, rfl⟩ := HI6.out.out.shape
      have hL6 : es.length ≤ 1000 := by have := HI6.out.few; omega
      have hownA : Own1 (w6.alloc (.cells #[.slice (some ⟨ec.g, 0, none⟩) m ec.cap] 38)) w1.heap.size 38 (.slice Av es.length cv) (es.map RE.v) := HI6.out.out.own.below (below1 _ _)
      have HL6 : Hid ((es.map RE.v).length ≤ 1000) := by show _ ≤ _; rw [List.length_map]; exact hL6
      obtain ⟨e1, f1, -⟩ := HBOX6.out.all (w' := w6)
      clear hr hno
      go_wp2_with (at_builtin; refine wpList_pushI _ rfl _ _ rfl w1.heap.size _ (es.map RE.v) rfl hownA w6.heap.size (.slice (some ⟨ec.g, 0, none⟩) m ec.cap) rfl (made1 w6 #[.slice (some ⟨ec.g, 0, none⟩) m ec.cap] 38) rfl HL6.out (by simp only [World.size_alloc]; omega) ?_)
      intro gA capA w8 hoa8 hg8 ho8 hl8
      have y8 := hg8.size
      (try simp only [World.size_alloc] at y8)
      have hb8 : Below w1.heap.size w1 w8 := below_own (HBW6.out.trans ((below1 w6 _).mono (by have := HBW6.out.size; omega))) hownA hg8 (Nat.le_refl _) (by have := HBW6.out.size; simp only [World.size_alloc]; omega)
      have HPN : Hid (RedI w8 w1.heap.size m L (y + 1) (.slice (some ⟨gA, 0, none⟩) (es.length + 1) capA) (es ++ [ec])) := by
       have hO : OutR (w6.alloc (.cells #[.slice (some ⟨ec.g, 0, none⟩) m ec.cap] 38)) w1.heap.size (.slice Av es.length cv) es := HI6.out.out.below (below1 _ _)
       have hE : ec.ok (w6.alloc (.cells #[.slice (some ⟨ec.g, 0, none⟩) m ec.cap] 38)) w1.heap.size := by
        obtain ⟨q1, q2⟩ := HEC6.out.below (below1 w6 (.cells #[.slice (some ⟨ec.g, 0, none⟩) m ec.cap] 38))
        exact ⟨by have := HS2.out; omega, q2⟩
       refine ⟨hO.push hE (fun a ha => ?_) (by rw [HEC.out.2.1]; exact hoa8) hg8, ?_, ?_⟩
       ·have := HGX.out a ha
        have := HEC.out.2.2.1
        have := HS2.out
        omega
       ·rw [List.map_append]
        have := HI6.out.gi.push (c := ec.l) (by rw [HEC.out.1, colP_len]) (fun z hz => by rw [HEC.out.1] at hz; exact (HCB.out z hz).1) (fun x hx => by rw [HEC.out.1]; exact HCE.out x hx) HNE.out (fun l hl hp => HNO.out l hl (by
         rw [HEC.out.1] at hp
         exact (alk_par (HI6.out.gi.len l hl)).2 hp))
        exact this
       ·rw [List.length_append]
        have := HI6.out.few
        simp only [List.length_cons, List.length_nil]
        omega
      clear hoa8 hg8 ho8 e1 f1 hownA
      have HB8 := Lib.hid hb8
      clear hb8
      go_wp2_with fail
      go_roundw
      case rel => exact ⟨y + 1, es ++ [ec], by omega, by go_num, HPN, HB8.out⟩
      case measure => simp only [intOf]; omega
  ·obtain rfl : n = y := by omega
   have hGI : GI L.length (ce L) (wid L) (es.map RE.l) := by have := HI.out.gi; rw [← HM.out, ← HN.out] at this; exact this
   have hne : es ≠ [] := fun e => by
    have := hGI.ne HV.out.chan
    rw [e] at this
    exact this rfl
   have hsm : ∀ e ∈ es, ∀ z ∈ e.l, 0 ≤ z ∧ z ≤ 1048576 := fun e he z hz => gi_small HV.out (Nat.le_refl _) hGI e.l (List.mem_map.2 ⟨e, he, rfl⟩) z hz
   have hlenm : ∀ e ∈ es, e.l.length = m := fun e he => HI.out.gi.len e.l (List.mem_map.2 ⟨e, he, rfl⟩)
   have HGI := Lib.hid hGI
   have HSM := Lib.hid hsm
   have HLM := Lib.hid hlenm
   obtain ⟨G, cap, rfl, hG1, hG2, hG3, hG4, -, hcell, -⟩ := HI.out.out.op hne
   obtain ⟨N, hN2⟩ : ∃ N, es.length = N := ⟨_, rfl⟩
   have HNL := Lib.hid hN2
   have hN5 : N ≤ 5 := by have := HI.out.few; rw [hN2] at this; omega
   have hN1 : 1 ≤ N := by
    have : 0 < es.length := List.length_pos_iff.2 hne
    omega
   have HCELL : Hid (∀ W, Below wx.heap.size wx W → ∀ (i : Nat) (e : RE), es[i]? = some e → W.cell? ⟨G, i, none⟩ = some (.slice (some ⟨e.g, 0, none⟩) m e.cap)) := fun W hW i e he => by
    have := cell_keep (X := fun _ => False) (hcell i e he) hG2 id (.of_below hW)
    unfold RE.v at this
    rw [HLM.out e (List.mem_of_getElem? he)] at this
    exact this
   have HOUT : Hid (OutR wx w1.heap.size (.slice (some ⟨G, 0, none⟩) N cap) es) := by have := HI.out.out; rw [hN2] at this; exact this
   rw [hN2] at hG3 ⊢
   unfold maxLen at hG4
   clear hGI hne hsm hlenm hcell hN2 HI
   go_wp2_with fail
   go_loopw [4, 77] (fun t i wr => ∃ (a : Nat), a ≤ N ∧ t = .int .i64 (gLL 0 ((es.map RE.l).take a)) ∧ i = .int .i64 a ∧ Below wx.heap.size wx wr) (fun _ i _ => N - (intOf i).toNat)
   case atStart => exact ⟨0, by omega, rfl, rfl, Below.refl _ _⟩
   case round =>
    obtain ⟨a, ha, rfl, rfl, hBa⟩ := hrel
    obtain ⟨wa, rfl⟩ : ∃ wo : World, wo = wr := ⟨_, rfl⟩
    have HBA := Lib.hid hBa
    have ya := hBa.size
    clear hBa
    by_cases hlta : a < N
    ·obtain ⟨e, he⟩ : ∃ e, es[a]? = some e := ⟨_, List.getElem?_eq_getElem (by have := HNL.out; omega)⟩
     have hem := List.mem_of_getElem? he
     have HE := Lib.hid he
     have HEM := Lib.hid hem
     have g1 := HCELL.out wa HBA.out a e he
     have HRW : Hid (∀ W, Below wx.heap.size wx W → e.ok W w1.heap.size) := fun W hW => (HOUT.out.rows e hem).below hW
     have HEL := Lib.hid (HLM.out e hem)
     have HTK : Hid (gLL 0 ((es.map RE.l).take (a + 1)) = gL (gLL 0 ((es.map RE.l).take a)) e.l) := gLL_take (by rw [List.getElem?_map, he]; rfl)
     have HGB : Hid (0 ≤ gLL 0 ((es.map RE.l).take a) ∧ gLL 0 ((es.map RE.l).take a) ≤ 1048576) := gLL_bound _ 0 (by decide) (fun l hl z hz => by
      obtain ⟨e', he', rfl⟩ := List.mem_map.1 (List.mem_of_mem_take hl)
      exact HSM.out e' he' z hz)
     obtain ⟨g0, hg0⟩ : ∃ g, gLL 0 ((es.map RE.l).take a) = g := ⟨_, rfl⟩
     rw [hg0] at HTK HGB ⊢
     have k0 : (0 : Int) ≤ (a : Int) := by omega
     have k1 : (a : Int) < (N : Int) := by omega
     clear he hem hg0
     go_wp2_with fail
     clear g1
     go_loopw [4, 83] (fun t i wr => ∃ (b : Nat), b ≤ m ∧ t = .int .i64 (gL g0 (e.l.take b)) ∧ i = .int .i64 b ∧ Below wx.heap.size wx wr) (fun _ i _ => m - (intOf i).toNat)
     case atStart => exact ⟨0, by omega, rfl, rfl, HBA.out⟩
     case round =>
      clear HBA
      obtain ⟨b, hb, rfl, rfl, hBb⟩ := hrel
      obtain ⟨wb, rfl⟩ : ∃ wo : World, wo = wr := ⟨_, rfl⟩
      have HBB := Lib.hid hBb
      have yb := hBb.size
      clear hBb
      by_cases hltb : b < m
      ·obtain ⟨z, hz⟩ : ∃ z, e.l[b]? = some z := ⟨_, List.getElem?_eq_getElem (by have := HEL.out; omega)⟩
       have g2 := (HRW.out wb HBB.out).cell hz
       have hzb := HSM.out e HEM.out z (List.mem_of_getElem? hz)
       have HGT := Lib.hid (gL_take (g := g0) hz)
       have hgb := gL_bound (B := 1048576) (e.l.take b) g0 HGB.out (fun z hz => HSM.out e HEM.out z (List.mem_of_mem_take hz))
       obtain ⟨g9, hg9⟩ : ∃ g, gL g0 (e.l.take b) = g := ⟨_, rfl⟩
       rw [hg9] at HGT hgb ⊢
       have k2 : (0 : Int) ≤ (b : Int) := by omega
       have k3 : (b : Int) < (m : Int) := by omega
       clear hz hg9
       go_wp2_with fail
       refine (divisor40_any _ z g9 (by omega) (by omega)).mono ?_
       rintro e' w5 ⟨rfl, hb5⟩
       have y5 := hb5.size
       have HB5 : Hid (Below wx.heap.size wx w5) := HBB.out.trans (hb5.mono (by omega))
       clear g2
       go_wp2_with fail
       go_roundw
       case rel => exact ⟨b + 1, by omega, by rw [HGT.out], by go_num, HB5.out⟩
       case measure => simp only [intOf]; omega
      ·obtain rfl : m = b := by omega
       have HFI : Hid (gL g0 (e.l.take m) = gLL 0 ((es.map RE.l).take (a + 1))) := by
        show _ = _
        rw [HTK.out, ← HEL.out, List.take_length]
       go_wp2_with fail
       go_roundw
       case rel => exact ⟨a + 1, by omega, by rw [HFI.out], by go_num, HBB.out⟩
       case measure => simp only [intOf]; omega
    ·obtain rfl : N = a := by omega
     have HGF : Hid (gLL 0 ((es.map RE.l).take N) = gLL 0 (es.map RE.l)) := by
      show _ = _
      rw [List.take_of_length_le (by rw [List.length_map, HNL.out]; exact Nat.le_refl _)]
     rw [HGF.out]
     have HGB : Hid (0 ≤ gLL 0 (es.map RE.l) ∧ gLL 0 (es.map RE.l) ≤ 1048576) := gLL_bound _ 0 (by decide) (fun l hl z hz => by
      obtain ⟨e', he', rfl⟩ := List.mem_map.1 hl
      exact HSM.out e' he' z hz)
     obtain ⟨g, hg⟩ : ∃ g, gLL 0 (es.map RE.l) = g := ⟨_, rfl⟩
     have HG := Lib.hid hg
     rw [hg] at HGB ⊢
     obtain ⟨D, hD⟩ : ∃ D, max g 1 = D := ⟨_, rfl⟩
     have hD1 : 1 ≤ D := by omega
     have hD2 : D ≤ 1048576 := by have := HGB.out; omega
     have HDD := Lib.hid hD
     have HOA : Hid (OutR wa w1.heap.size (.slice (some ⟨G, 0, none⟩) N cap) (dvP D es 0)) := by
      show OutR _ _ _ _
      rw [dvP_zero]
      exact HOUT.out.below HBA.out
     have HBW : Hid (Below w1.heap.size w1 wa) := HB.out.trans (HBA.out.mono yx)
     clear hg hD
     go_wp2_with fail
     go_loopw [94] (fun i wr => ∃ (a : Nat), a ≤ N ∧ i = .int .i64 a ∧ Hid (OutR wr w1.heap.size (.slice (some ⟨G, 0, none⟩) N cap) (dvP D es a)) ∧ Below w1.heap.size w1 wr) (fun i _ => N - (intOf i).toNat)
     case atStart => exact ⟨0, by omega, rfl, HOA, HBW.out⟩
     case round =>
      clear HOA HBW
      obtain ⟨a, ha', rfl, hO, hBa2⟩ := hrel
      obtain ⟨wd, rfl⟩ : ∃ wo : World, wo = wr := ⟨_, rfl⟩
      have HBD := Lib.hid hBa2
      have HO := Lib.hid hO.out
      have yd := hBa2.size
      clear hBa2 hO
      by_cases hlta : a < N
      ·obtain ⟨e, he⟩ : ∃ e, es[a]? = some e := ⟨_, List.getElem?_eq_getElem (by have := HNL.out; omega)⟩
       have hem := List.mem_of_getElem? he
       have HE := Lib.hid he
       have HEM := Lib.hid hem
       have HEL := Lib.hid (HLM.out e hem)
       have hdv : (dvP D es a)[a]? = some e := by rw [dvP_get he, if_neg (Nat.lt_irrefl a)]
       have hdlt : a < (dvP D es a).length := (List.getElem?_eq_some_iff.1 hdv).1
       have HDLT := Lib.hid hdlt
       obtain ⟨G', cap', hv', -, -, -, -, -, hcell, -⟩ := HO.out.op (List.ne_nil_of_mem (List.mem_of_getElem? hdv))
       rw [dvP_len, HNL.out] at hv'
       simp only [Value.slice.injEq, Option.some.injEq, Addr.mk.injEq, and_true, true_and] at hv'
       obtain ⟨rfl, -⟩ := hv'
       have g1 := hcell a e hdv
       unfold RE.v at g1
       rw [HEL.out] at g1
       have hO0 : Hid (OutR wd w1.heap.size (.slice (some ⟨G, 0, none⟩) N cap) ((dvP D es a).set a ⟨e.g, e.cap, divP D e.l 0⟩)) := by
        have he2 : (dvP D es a).set a ⟨e.g, e.cap, divP D e.l 0⟩ = dvP D es a := by
         rw [divP_zero]
         apply List.ext_getElem?
         intro i
         by_cases hi : i = a
         ·subst hi
          rw [List.getElem?_set_self hdlt, hdv]
         ·rw [List.getElem?_set_ne (fun h => hi h.symm)]
        rw [he2]
        exact HO.out
       have k0 : (0 : Int) ≤ (a : Int) := by omega
       have k1 : (a : Int) < (N : Int) := by omega
       clear he hem hdv hdlt hcell
       go_wp2_with fail
       clear g1
       go_loopw [100] (fun i wr => ∃ (x : Nat), x ≤ m ∧ i = .int .i64 x ∧ Hid (OutR wr w1.heap.size (.slice (some ⟨G, 0, none⟩) N cap) ((dvP D es a).set a ⟨e.g, e.cap, divP D e.l x⟩)) ∧ Below w1.heap.size w1 wr) (fun i _ => m - (intOf i).toNat)
       case atStart => exact ⟨0, by omega, rfl, hO0, HBD.out⟩
       case round =>
        clear hO0 HBD
        obtain ⟨x, hx, rfl, hO, hBx⟩ := hrel
        obtain ⟨wz, rfl⟩ : ∃ wo : World, wo = wr := ⟨_, rfl⟩
        have HOX := Lib.hid hO.out
        have HBZ := Lib.hid hBx
        clear hO hBx
        by_cases hltx : x < m
        ·have hkS : ((dvP D es a).set a ⟨e.g, e.cap, divP D e.l x⟩)[a]? = some ⟨e.g, e.cap, divP D e.l x⟩ := List.getElem?_set_self HDLT.out
         have hrow := HOX.out.rows _ (List.mem_of_getElem? hkS)
         have hgx : (divP D e.l x)[x]? = some (e.l.getD x 0) := by rw [divP_get (by rw [HEL.out]; exact hltx), if_neg (Nat.lt_irrefl x)]
         have g2 := hrow.cell hgx
         have gf := hrow.frz
         have hlt3 := hrow.lt
         have b1 := HSM.out e HEM.out (e.l.getD x 0) (getD_mem (by rw [HEL.out]; exact hltx))
         obtain ⟨P, hP⟩ : ∃ P, e.l.getD x 0 = P := ⟨_, rfl⟩
         rw [hP] at g2 b1
         dsimp only at g2 gf hlt3
         obtain ⟨Q, hQ⟩ : ∃ Q, P / D = Q := ⟨_, rfl⟩
         have hQ0 : 0 ≤ Q ∧ Q ≤ 1048576 := by
          rw [← hQ]
          exact ⟨Int.ediv_nonneg b1.1 (by omega), Int.le_trans (Int.ediv_le_self _ b1.1) b1.2⟩
         have t1 : P.tdiv D = Q := by rw [Int.tdiv_eq_ediv_of_nonneg b1.1, hQ]
         have t2 : IntKind.i64.wrap Q = Q := by rw [IntKind.wrap_i64]; omega
         have t3 : max g 1 = D := HDD.out
         have t4 : (D == 0) = false := beq_eq_false_iff_ne.2 (by omega)
         have t5 : ¬ D = 0 := by omega
         have hput := HOX.out.put hkS x Q
         dsimp only at hput
         rw [List.set_set, divP_set (by rw [HEL.out]; exact hltx) (by rw [hP, hQ])] at hput
         have HPUT := Lib.hid hput
         have HBN : Hid (Below w1.heap.size w1 (wz.setCell ⟨e.g, x, none⟩ (.int .i64 Q))) := HBZ.out.setCell hrow.1 _
         have k6 : (0 : Int) ≤ (x : Int) := by omega
         have k7 : (x : Int) < (m : Int) := by omega
         clear hkS hrow hgx hP hQ hput
         go_wp2_with fail
         clear g2 gf t1 t2 t3 t4 t5
         go_roundw
         case rel => exact ⟨x + 1, by omega, by go_num, HPUT, HBN.out⟩
         case measure => simp only [intOf]; omega
        ·obtain rfl : m = x := by omega
         have HFI : Hid (OutR wz w1.heap.size (.slice (some ⟨G, 0, none⟩) N cap) (dvP D es (a + 1))) := by
          have := HOX.out
          rw [← HEL.out, divP_all, dvP_set HE.out] at this
          exact this
         go_wp2_with fail
         go_roundw
         case rel => exact ⟨a + 1, by omega, by go_num, HFI, HBZ.out⟩
         case measure => simp only [intOf]; omega
      ·obtain rfl : N = a := by omega
       have HSD : Hid (∀ e ∈ dvP D es N, ∀ z ∈ e.l, 0 ≤ z ∧ z ≤ 1048576) := fun e he z hz => by
        have hmm : e.l ∈ (dvP D es es.length).map RE.l := by rw [HNL.out]; exact List.mem_map.2 ⟨e, he, rfl⟩
        rw [dvP_all] at hmm
        obtain ⟨l, hl, hle⟩ := List.mem_map.1 hmm
        obtain ⟨e', he', rfl⟩ := List.mem_map.1 hl
        rw [← hle] at hz
        obtain ⟨z', hz', rfl⟩ := List.mem_map.1 hz
        have := HSM.out e' he' z' hz'
        exact ⟨Int.ediv_nonneg this.1 (by omega), Int.le_trans (Int.ediv_le_self _ this.1) this.2⟩
       have hw1d := HBD.out.size
       go_wp2_with fail
       refine (sortF_any _ w1.heap.size G cap N (dvP D es N) HO.out (by rw [dvP_len, HNL.out]) hN1 (by omega) hw1d (fun e he z hz => by have := HSD.out e he z hz; omega)).mono ?_
       rintro e9 w9 ⟨rfl, ⟨es9, h9⟩, hb9⟩
       have HFIN : Hid (IMat w9 (.slice (some ⟨G, 0, none⟩) N cap) (es9.map RE.l) ∧ GI L.length (ce L) (wid L) (es.map RE.l) ∧ (es9.map RE.l).Perm (redL (es.map RE.l)) ∧ (es9.map RE.l).Pairwise geL) := by
        refine ⟨h9.out.2.2.imat (fun e he z hz => ?_), HGI.out, ?_, h9.out.2.1⟩
        ·have := HSD.out e (h9.out.1.mem_iff.1 he) z hz
         omega
        ·have hp := h9.out.1.map RE.l
         have hd := dvP_all D es
         rw [HNL.out] at hd
         rw [hd] at hp
         unfold redL
         rw [HG.out, HDD.out]
         exact hp
       have HB9 : Hid (Below w.heap.size w w9) := (HW.out wd HBD.out).2.trans (hb9.mono (by omega))
       clear h9 hb9
       go_wp2_with fail
       go_ret
       refine ⟨_, es9.map RE.l, es.map RE.l, rfl, ?_, HB9.out⟩
       have := HFIN.out
       rw [HM.out, HN.out] at this
       exact this
end Go.Proofs.YtdambnieminnfaaGreat

