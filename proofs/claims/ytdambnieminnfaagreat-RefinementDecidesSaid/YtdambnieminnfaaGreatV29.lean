/- Contracts of the functions that the statements reach, part 29. -/
import Derived.Test.YtdambnieminnfaaGreatRows
import Derived.Test.YtdambnieminnfaaGreatV28
set_option linter.unusedSimpArgs false
set_option linter.unusedVariables false

/- The law's side of layer 40: worth. -/
namespace Go.Proofs.YtdambnieminnfaaGreat
open Go.RowKit
attribute [local go_sem ↓] Go.wp_at_zero Go.wp_at_succ

set_option maxRecDepth 100000 in
set_option maxHeartbeats 16000000 in
theorem lworth_any (w : World) (v1 vg : Value) (L1 : List (List Int)) (Kn k B : Nat) (N : Nat → Nat) (F : Nat → Nat → Rat) (h1 : IMat w v1 L1) (hV : VC L1) (h : Mat k w (fun _ => False) vg Kn N F)
 (hN : ∀ i, i < Kn → N i = L1.length) (hF0 : ∀ i, i < Kn → ∀ x, x < L1.length → 0 ≤ F i x) (hK : Kn ≤ 200) (hw : wid L1 ≤ 200) (hk1 : 1 ≤ k) (hB : (2 + k + 1) * L1.length + 2 ≤ B) (hB2 : (B + 1) * wid L1 + 2 ≤ 900000) :
 Calls Tryz.prog 61 #[.agg #[v1], vg] w fun e w' => ∃ v', e = .returned v' ∧ RatL 900000 w' (fun _ => False) v' (worthV (wid L1) Kn L1.length (ce L1) F) ∧ Below w.heap.size w w' := by
 have H1 := Lib.hid h1
 have HV := Lib.hid hV
 have H := Lib.hid h
 have HNN := Lib.hid hN
 have HFZ : Hid (∀ i, i < Kn → ∀ x, x < L1.length → Rsz k (F i x)) := fun i hi x hx => h.rsz hk1 i hi x (by rw [hN i hi]; exact hx)
 obtain ⟨A1, c1, rfl, -, la1, la2⟩ := h1.op
 obtain ⟨A, cA, rfl, -, l1, l2⟩ := h.op
 have HG0 : Hid (∀ y, y < wid L1 → ∀ i, i < Kn → 0 ≤ sm L1.length (fun x => ce L1 x y * F i x)) := fun y hy i hi => sm_nonneg (fun x hx => Rat.mul_nonneg (by
  obtain ⟨z, e, hz, -⟩ := hV.entry x y hx hy
  rw [e]; exact Rat.intCast_nonneg.2 hz) (hF0 i hi x hx))
 have HGZ : Hid (∀ y, y < wid L1 → ∀ i, i < Kn → ∀ x, x ≤ L1.length → Rsz B (sm x (fun x => ce L1 x y * F i x))) := fun y hy i hi x hx => (gain_rsz hV hy (HFZ.out i hi) x hx).mono (by
  have := Nat.mul_le_mul_left (2 + k + 1) hx
  omega)
 have HBZ : Hid (∀ y, y < wid L1 → ∀ i, i ≤ Kn → Rsz B (best i (fun w => sm L1.length (fun x => ce L1 x y * F w x)))) := fun y hy i hi => best_rsz (by omega) i (fun j hj => HGZ.out y hy j (by omega) _ (Nat.le_refl _))
 have HSZ : Hid (∀ y, y ≤ wid L1 → Rsz 900000 (sm y (fun y => best Kn (fun w => sm L1.length (fun x => ce L1 x y * F w x))))) := fun y hy => (sum_le_rsz (fun i hi => HBZ.out i hi Kn (Nat.le_refl _)) y hy).mono (by
  have : (B + 1) * y ≤ (B + 1) * wid L1 := Nat.mul_le_mul_left _ hy
  omega)
 have hwp : 0 < wid L1 := hV.2.2.1
 have hB3 : B ≤ 900000 := by
  have := Nat.le_mul_of_pos_right (B + 1) hwp
  omega
 have hk2 : k ≤ 900000 := by have := Nat.le_mul_of_pos_right (2 + k + 1) (show 0 < L1.length from hV.1); omega
 have hr1 := hV.1
 have hr2 := hV.2.1
 clear hB hB2 hF0
 obtain ⟨r, hr⟩ : ∃ r, L1.length = r := ⟨_, rfl⟩
 have HR := Lib.hid hr
 rw [hr] at la1 H1 hr1 hr2 HGZ HBZ HSZ HNN HG0
 rw [hr]
 obtain ⟨n, hn⟩ : ∃ n, wid L1 = n := ⟨_, rfl⟩
 have HN1 := Lib.hid hn
 rw [hn] at hw HGZ HBZ HSZ HG0 hwp
 rw [hn]
 obtain ⟨l1', he1⟩ : ∃ l, L1[0]? = some l := ⟨_, List.getElem?_eq_getElem (by have := HR.out; omega)⟩
 obtain ⟨a1, D1, d1, rfl, hab1, hcell1, -, lc1, -⟩ := H1.out.at he1
 rw [(HV.out.row he1).1, hn] at hcell1 lc1
 rw [addr_zero] at hcell1
 unfold worthV
 obtain ⟨G, hG⟩ : ∃ G : Nat → Rat, (fun y => best Kn (fun w => sm r (fun x => ce L1 x y * F w x))) = G := ⟨_, rfl⟩
 have HG := Lib.hid hG
 rw [hG] at HSZ
 rw [hG]
 have i1 : (0 : Int) < (r : Int) := by omega
 have L := made1 w #[.slice (some a1) r c1] 24
 have M := made2 w (.cells #[.slice (some a1) r c1] 24) #[.bool false, .slice none 0 0, .bool false, .slice none 0 0] 60
 have T := made3 w (.cells #[.slice (some a1) r c1] 24) (.cells #[.bool false, .slice none 0 0, .bool false, .slice none 0 0] 60) #[.bool false, .slice none 0 0, .bool false, .slice none 0 0] 60
 have W0 : Below w.heap.size w (((w.alloc (.cells #[.slice (some a1) r c1] 24)).alloc (.cells #[.bool false, .slice none 0 0, .bool false, .slice none 0 0] 60)).alloc (.cells #[.bool false, .slice none 0 0, .bool false, .slice none 0 0] 60)) := bel
 have hc1 : (((w.alloc (.cells #[.slice (some a1) r c1] 24)).alloc (.cells #[.bool false, .slice none 0 0, .bool false, .slice none 0 0] 60)).alloc (.cells #[.bool false, .slice none 0 0, .bool false, .slice none 0 0] 60)).cell? a1 = _ := cell_keep (X := fun _ => False) hcell1 hab1 id kp
 clear h1 hV h hr hN he1 hn hG
 go_enter Tryz.func61, Tryz.ntmps61
 go_wp2_with fail
 clear hc1 hcell1 W0
 go_loopw [17] (fun i wr => ∃ (y : Nat) (q : R4), y ≤ n ∧ i = .int .i64 y ∧ Loc wr (w.heap.size + 1 + 1) 60 #[.bool q.b, .slice q.A q.m q.c, .bool q.b', .slice q.A' q.m' q.c'] ∧ RatL 900000 wr (fun b => b ≤ w.heap.size + 1 + 1) q.v (sm y G) ∧
  Loc wr w.heap.size 24 #[.slice (some a1) r c1] ∧ Loc wr (w.heap.size + 1) 60 #[.bool false, .slice none 0 0, .bool false, .slice none 0 0] ∧ Below w.heap.size w wr) (fun i _ => n - (intOf i).toNat)
 case atStart => exact ⟨0, zR4, by omega, rfl, T, z4_any _ _ _, L.to, M.to, bel⟩
 case round =>
  obtain ⟨y, q, hy, rfl, Ty, sy, NLy, NMy, hBy⟩ := hrel
  obtain ⟨wy, rfl⟩ : ∃ wy : World, wy = wr := ⟨_, rfl⟩
  obtain ⟨b6, A6, m6, c6, b6', A6', m6', c6'⟩ := q
  unfold R4.v at sy
  dsimp only at Ty sy
  clear T M L
  have yy := hBy.size; (try simp only [zs] at yy)
  have q5 := Ty.lt
  have q6 := NLy.lt
  have q7 := NMy.lt
  by_cases hlty : y < n
  ·have HGE : Hid (sm (y + 1) G = sm y G + best Kn (fun w => sm r (fun x => ce L1 x y * F w x))) := by show _ = _; rw [sm_succ, ← HG.out]
   have HBY := Lib.hid hBy
   have HSY := Lib.hid sy
   have T7 := made1 wy #[.bool false, .slice none 0 0, .bool false, .slice none 0 0] 60
   clear sy
   go_wp2_with fail
   go_loopw [23] (fun i wr => ∃ (c : Nat) (q : R4), c ≤ Kn ∧ i = .int .i64 c ∧ Loc wr wy.heap.size 60 #[.bool q.b, .slice q.A q.m q.c, .bool q.b', .slice q.A' q.m' q.c'] ∧ RatL B wr (fun b => b = wy.heap.size) q.v (best c (fun w => sm r (fun x => ce L1 x y * F w x))) ∧ Below wy.heap.size wy wr) (fun i _ => Kn - (intOf i).toNat)
   case atStart => exact ⟨0, zR4, by omega, rfl, T7, z4_any _ _ _, bel⟩
   case round =>
    obtain ⟨c, q, hc, rfl, T7, s7, hBc⟩ := hrel
    obtain ⟨wc, rfl⟩ : ∃ wc : World, wc = wr := ⟨_, rfl⟩
    obtain ⟨b8, A8, m8, c8, b8', A8', m8', c8'⟩ := q
    unfold R4.v at s7
    dsimp only at T7 s7
    have yc := hBc.size; (try simp only [zs] at yc)
    have q8 := T7.lt
    by_cases hltc : c < Kn
    ·have HBA := Lib.hid (HBY.out.trans (hBc.mono yy))
     obtain ⟨a9, D9, d9, rfl, hab9, -, hcell9, hnum9, lc9, -⟩ := Mat.at (Mat.keep H.out (.of_below HBA.out)) hltc
     rw [HNN.out c hltc] at hcell9 hnum9 lc9
     have k0 : (0 : Int) ≤ (c : Int) := by omega
     have k1 : (c : Int) < (Kn : Int) := by omega
     have HNUM := Lib.hid hnum9
     have HBC := Lib.hid hBc
     have HS7 := Lib.hid s7
     have HBE : Hid (best (c + 1) (fun w => sm r (fun x => ce L1 x y * F w x)) = if best c (fun w => sm r (fun x => ce L1 x y * F w x)) < sm r (fun x => ce L1 x y * F c x) then sm r (fun x => ce L1 x y * F c x) else best c (fun w => sm r (fun x => ce L1 x y * F w x))) := rfl
     have HCG : Hid (∀ W, Below wc.heap.size wc W → W.cell? (a9.add c) = some (.slice D9 r d9)) := fun W hW => cell_keep (X := fun _ => False) hcell9 (by rw [addr_block]; exact hab9) id (.of_below hW)
     have T10 := made1 wc #[.bool false, .slice none 0 0, .bool false, .slice none 0 0] 60
     have NL3 : Loc wc w.heap.size _ _ := NLy.to
     obtain ⟨e6, f6, -⟩ := NL3.all (w' := wc.alloc (.cells #[.bool false, .slice none 0 0, .bool false, .slice none 0 0] 60))
     clear hnum9 s7 hcell9
     go_wp2_with fail
     clear e6 f6
     go_loopw [30] (fun i wr => ∃ (x : Nat) (q : R4), x ≤ r ∧ i = .int .i64 x ∧ Loc wr wc.heap.size 60 #[.bool q.b, .slice q.A q.m q.c, .bool q.b', .slice q.A' q.m' q.c'] ∧ RatL B wr (fun b => b = wc.heap.size ∨ b = wy.heap.size) q.v (sm x (fun x => ce L1 x y * F c x)) ∧ Below wc.heap.size wc wr) (fun i _ => r - (intOf i).toNat)
     case atStart => exact ⟨0, zR4, by omega, rfl, T10, z4_any _ _ _, bel⟩
     case round =>
      obtain ⟨x, q, hx, rfl, T10, s10, hBx⟩ := hrel
      obtain ⟨wx, rfl⟩ : ∃ wx : World, wx = wr := ⟨_, rfl⟩
      obtain ⟨b11, A11, m11, c11, b11', A11', m11', c11'⟩ := q
      unfold R4.v at s10
      dsimp only at T10 s10
      have yx := hBx.size; (try simp only [zs] at yx)
      have q9 := T10.lt
      have hBX : Hid (Below w.heap.size w wx) := HBA.out.trans (hBx.mono (by omega))
      by_cases hltx : x < r
      ·obtain ⟨lx, hex⟩ : ∃ l, L1[x]? = some l := ⟨_, List.getElem?_eq_getElem (by have := HR.out; omega)⟩
       obtain ⟨a1', Dx, dx, ea, habx, hcellx, hintx, lcx, lmx⟩ := (H1.out.keep (.of_below hBX.out)).at hex
       injection ea with ea
       subst ea
       obtain ⟨nx, hnx⟩ : ∃ n, lx[y]? = some n := ⟨_, List.getElem?_eq_getElem (by have := (HV.out.row hex).1; have := HN1.out; omega)⟩
       have hnx2 := (HV.out.row hex).2 nx (List.mem_of_getElem? hnx)
       obtain ⟨ax, rfl, hbx, hcx, -, -⟩ := hintx.at hnx
       rw [(HV.out.row hex).1, HN1.out] at hcellx lcx
       obtain ⟨a8, b12, A12, m12, c12, b12', A12', m12', c12', rfl, hab8, -, x0, x1, x2, x3, r8⟩ := Nums.at (Nums.keep HNUM.out (.of_below hBx)) hltx
       have HE : Hid (sm (x + 1) (fun x => ce L1 x y * F c x) = sm x (fun x => ce L1 x y * F c x) + (nx : Rat) * F c x) := by
        show _ = _
        rw [sm_succ, ce_get hex hnx]
       have HS1 := Lib.hid (HGZ.out y hlty c hltc (x + 1) (by omega))
       have HF1 : Hid (Rsz k (F c x)) := HFZ.out c hltc x (by rw [HR.out]; exact hltx)
       have HLS : Hid (∀ W, Below wx.heap.size wx W → ((((W.cell? ⟨wc.heap.size, 0, none⟩ = some (.bool b11) ∧ W.cell? ⟨wc.heap.size, 1, none⟩ = some (.slice A11 m11 c11)) ∧ W.cell? ⟨wc.heap.size, 2, none⟩ = some (.bool b11') ∧ W.cell? ⟨wc.heap.size, 3, none⟩ = some (.slice A11' m11' c11')) ∧ W.cell? ⟨w.heap.size, 0, none⟩ = some (.slice (some a1) r c1) ∧ W.cell? (a1.add x) = some (.slice (some ax) n dx)) ∧ (W.cell? (ax.add y) = some (.int .i64 nx) ∧ W.cell? (a9.add c) = some (.slice (some a8) r d9)) ∧ (W.cell? (a8.add (x * 4)) = some (.bool b12) ∧ W.cell? ⟨(a8.add (x * 4)).block, (a8.add (x * 4)).off + 1, none⟩ = some (.slice A12 m12 c12)) ∧ W.cell? ⟨(a8.add (x * 4)).block, (a8.add (x * 4)).off + 2, none⟩ = some (.bool b12') ∧ W.cell? ⟨(a8.add (x * 4)).block, (a8.add (x * 4)).off + 3, none⟩ = some (.slice A12' m12' c12'))) := fun W hW => by
        have hb8 : (a8.add (x * 4)).block < wx.heap.size := by rw [addr_block]; exact hab8
        have hK : Keep (fun _ => False) wx W := .of_below hW
        exact ⟨⟨⟨⟨Loc.cell (T10.below hW) 0, Loc.cell (T10.below hW) 1⟩, Loc.cell (T10.below hW) 2, Loc.cell (T10.below hW) 3⟩, Loc.cell (NL3.below (hBx.trans (hW.mono yx))) 0, cell_keep hcellx (by rw [addr_block]; exact habx) id hK⟩, ⟨cell_keep hcx (by rw [addr_block]; exact hbx) id hK, HCG.out W (hBx.trans (hW.mono yx))⟩, ⟨cell_keep x0 hb8 id hK, cell_keep x1 hb8 id hK⟩, cell_keep x2 hb8 id hK, cell_keep x3 hb8 id hK⟩
       have k2 : (0 : Int) ≤ (x : Int) := by omega
       have k3 : (x : Int) < (r : Int) := by omega
       have k4 : (0 : Int) ≤ (y : Int) := by omega
       have k5 : (y : Int) < (n : Int) := by omega
       clear hnx hex x0 x1 x2 x3 hcx hintx hcellx
       go_upto_block 5 with fail
       go_cut [] from 32 to 52 (fun W => ∃ q : R4, Loc W wc.heap.size 60 #[.bool q.b, .slice q.A q.m q.c, .bool q.b', .slice q.A' q.m' q.c'] ∧ RatL B W (fun b => b = wc.heap.size ∨ b = wy.heap.size) q.v (sm (x + 1) (fun x => ce L1 x y * F c x)) ∧ Below wc.heap.size wc W)
       case first =>
        go_wp2_with fail
        refine wp_region_noPanic ?_
        refine wp_region_heldK (k := 19) (S := (fun W => ((((W.cell? ⟨wc.heap.size, 0, none⟩ = some (.bool b11) ∧ W.cell? ⟨wc.heap.size, 1, none⟩ = some (.slice A11 m11 c11)) ∧ W.cell? ⟨wc.heap.size, 2, none⟩ = some (.bool b11') ∧ W.cell? ⟨wc.heap.size, 3, none⟩ = some (.slice A11' m11' c11')) ∧ W.cell? ⟨w.heap.size, 0, none⟩ = some (.slice (some a1) r c1) ∧ W.cell? (a1.add x) = some (.slice (some ax) n dx)) ∧ (W.cell? (ax.add y) = some (.int .i64 nx) ∧ W.cell? (a9.add c) = some (.slice (some a8) r d9)) ∧ (W.cell? (a8.add (x * 4)) = some (.bool b12) ∧ W.cell? ⟨(a8.add (x * 4)).block, (a8.add (x * 4)).off + 1, none⟩ = some (.slice A12 m12 c12)) ∧ W.cell? ⟨(a8.add (x * 4)).block, (a8.add (x * 4)).off + 2, none⟩ = some (.bool b12') ∧ W.cell? ⟨(a8.add (x * 4)).block, (a8.add (x * 4)).off + 3, none⟩ = some (.slice A12' m12' c12')))) (by kernel_rfl) ?_ (fun hHeld => ?_)
        ·exact HLS.out _ bel
        refine tkK 0 ?_
        (try simp only [Act.put, ly])
        refine puK 1 ?_
        (try simp only [Act.put, ly])
        refine tkK 2 ?_
        (try simp only [Act.put, ly])
        refine puK 3 ?_
        (try simp only [Act.put, ly])
        refine puK 4 ?_
        (try simp only [Act.put, ly])
        refine tkK 5 ?_
        (try simp only [Act.put, ly])
        refine puK 6 ?_
        (try simp only [Act.put, ly])
        refine puK 7 ?_
        (try simp only [Act.put, ly])
        refine tkK 8 ?_
        (try simp only [Act.put, ly])
        refine puK 10 ?_
        (try simp only [Act.put, ly])
        refine puK 11 ?_
        (try simp only [Act.put, ly])
        refine puK 12 ?_
        (try simp only [Act.put, ly])
        refine tkK 13 ?_
        (try simp only [Act.put, ly])
        refine puK 14 ?_
        (try simp only [Act.put, ly])
        refine puK 15 ?_
        (try simp only [Act.put, ly])
        refine tkK 16 ?_
        (try simp only [Act.put, ly])
        refine wpAnyK_ready (rs := [9]) (by kernel_rfl) (by simp) ?_
        refine AllReadyK.cons rfl (fun KK hKK => ?_) AllReadyK.nil
        go_simp
        refine (lwhole_any _ nx (by omega) (by omega)).mono ?_
        rintro e u1 ⟨v1, rfl, j1, hb1⟩
        obtain ⟨b21, A21, m21, c21, b21', A21', m21', c21', rfl, j1, -, -⟩ := j1.op
        have y11 := hb1.size; (try simp only [zs] at y11)
        (try go_wp2_with fail)
        refine hKK.out _ _ ?_ (fun hHeld => ?_)
        ·(try dsimp only)
         exact HLS.out _ bel
        clear hKK KK
        (try simp only [Act.put, ly])
        refine wpAnyK_ready (rs := [17]) (by kernel_rfl) (by simp) ?_
        refine AllReadyK.cons rfl (fun KK hKK => ?_) AllReadyK.nil
        go_simp
        refine (rmul_rat _ (fun _ => False) _ _ (nx : Rat) (F c x) (RatL.to (j1.len ((rsz_int (by omega) (by omega)).mono (show 2 ≤ 1000000 by omega)))) (RatL.to (r8.mono (by omega)))).mono ?_
        rintro e u2 ⟨v2, rfl, j2, hb2⟩
        obtain ⟨b22, A22, m22, c22, b22', A22', m22', c22', rfl, j2, -, -⟩ := j2.op
        have y12 := hb2.size; (try simp only [zs] at y12)
        (try go_wp2_with fail)
        refine hKK.out _ _ ?_ (fun hHeld => ?_)
        ·(try dsimp only)
         exact HLS.out _ bel
        clear hKK KK
        (try simp only [Act.put, ly])
        refine wpAnyK_ready (rs := [18]) (by kernel_rfl) (by simp) ?_
        refine AllReadyK.cons rfl (fun KK hKK => ?_) AllReadyK.nil
        go_simp
        refine (radd_rat _ (fun _ => False) _ _ (sm x (fun x => ce L1 x y * F c x)) ((nx : Rat) * F c x) (RatL.to (s10.mono (by omega))) (RatL.to ((j2.len ((rsz_int (by omega) (by omega)).mul HF1.out)).mono (by omega)))).mono ?_
        rintro e u3 ⟨v3, rfl, j3, hb3⟩
        rw [← HE.out] at j3
        obtain ⟨b23, A23, m23, c23, b23', A23', m23', c23', rfl, j3, -, -⟩ := j3.op
        have y13 := hb3.size; (try simp only [zs] at y13)
        obtain ⟨e3, f3, -⟩ := Loc.all T10 (w' := u3)
        (try go_wp2_with fail)
        refine hKK.out _ _ ?_ (fun hHeld => ?_)
        ·(try dsimp only)
         exact HLS.out _ bel
        clear hKK KK
        (try simp only [Act.put, ly])
        refine wpAnyK_ready (rs := [19]) (by kernel_rfl) (by simp) ?_
        refine AllReadyK.last (by kernel_rfl) rfl (fun KK hKK => ?_) AllReadyK.nil
        go_simp
        refine hKK.out _ _ ?_
        clear hKK KK
        (try simp only [Act.put, ly])
        refine wpAnyK_done (by kernel_rfl) ?_ _
        refine NoPanic.normal ?_
        go_wp2_with fail
        go_meet
        exact ⟨⟨b23, A23, m23, c23, b23', A23', m23', c23'⟩, Loc.fill4 (Loc.to T10 (w' := u3)), RatV.len (RatV.out j3) HS1.out, bel⟩
       case rest =>
        obtain ⟨q, T9, s9, hB9⟩ := hcut
        go_wp2_with fail
        go_roundw
        case rel => exact ⟨x + 1, q, by omega, by go_num, T9, s9, hB9⟩
        case measure => simp only [intOf]; omega
      ·obtain rfl : x = r := by omega
       have T7x : Loc wx wy.heap.size _ _ := T7.to
       obtain ⟨e7, f7, l7⟩ := T7x.all (w' := wx)
       obtain ⟨e10, f10, l10⟩ := T10.all (w' := wx)
       have HG1 := Lib.hid (HG0.out y hlty c hltc)
       obtain ⟨bv, hbv⟩ : ∃ q, best c (fun w => sm x (fun x => ce L1 x y * F w x)) = q := ⟨_, rfl⟩
       obtain ⟨nv, hnv⟩ : ∃ q, sm x (fun x => ce L1 x y * F c x) = q := ⟨_, rfl⟩
       have HBV := Lib.hid hbv
       have hs7 := HS7.out
       rw [hbv] at hs7 HBE
       rw [hnv] at s10 HBE HG1
       have HN9 := Lib.hid s10
       have HS9 := Lib.hid hs7
       have HBF0 : Hid (∀ W, Below wx.heap.size wx W → Below wy.heap.size wy W) := fun W hW => HBC.out.trans ((hBx.trans (hW.mono yx)).mono yc)
       by_cases hc0 : c = 0
       ·have d0 : ((c : Int) == 0) = true := beq_iff_eq.2 (by omega)
        have HV2 : Hid (best (c + 1) (fun w => sm x (fun x => ce L1 x y * F w x)) = nv) := by
         have hbv0 : bv = 0 := by rw [← HBV.out, hc0]; rfl
         have := HG1.out
         show _ = _
         rw [HBE.out, hbv0]
         split
         ·rfl
         ·grind
        have HH := HN9.out
        have HW : Hid (Below wy.heap.size wy ((((wx.setCell ⟨wy.heap.size, 0, none⟩ (.bool b11)).setCell ⟨wy.heap.size, 1, none⟩ (.slice A11 m11 c11)).setCell ⟨wy.heap.size, 2, none⟩ (.bool b11')).setCell ⟨wy.heap.size, 3, none⟩ (.slice A11' m11' c11'))) := ((((HBF0.out wx (Below.refl _ _)).setCell (by dsimp only; omega) _).setCell (by dsimp only; omega) _).setCell (by dsimp only; omega) _).setCell (by dsimp only; omega) _
        have HKM : Keep (fun b => b = wc.heap.size ∨ b = wy.heap.size) wx ((((wx.setCell ⟨wy.heap.size, 0, none⟩ (.bool b11)).setCell ⟨wy.heap.size, 1, none⟩ (.slice A11 m11 c11)).setCell ⟨wy.heap.size, 2, none⟩ (.bool b11')).setCell ⟨wy.heap.size, 3, none⟩ (.slice A11' m11' c11')) := ((((Keep.refl _ _).set (.inl (.inr rfl)) _).set (.inl (.inr rfl)) _).set (.inl (.inr rfl)) _).set (.inl (.inr rfl)) _
        have HR9 := Lib.hid ((HH.keep HKM).weak (Y := fun b => b = wy.heap.size) (fun _ _ h => .inr h))
        clear hc0 hBx hBc hBy HKM hs7
        go_wp2_with fail
        go_roundw
        case rel => exact ⟨c + 1, ⟨b11, A11, m11, c11, b11', A11', m11', c11'⟩, by omega, by go_num, Loc.fill4 T7x, by rw [HV2.out]; exact HR9.out, HW.out⟩
        case measure => simp only [intOf]; omega
       ·have d0 : ((c : Int) == 0) = false := beq_eq_false_iff_ne.2 (by omega)
        obtain ⟨q, hq⟩ : ∃ q, rcmp nv bv = q := ⟨_, rfl⟩
        have HQ := Lib.hid hq
        have HZ : Hid (0 < q ↔ bv < nv) := by show _ ↔ _; rw [← hq]; exact rcmp_pos _ _
        have S7x := hs7.keep (Keep.of_below hBx)
        clear hq hbv hnv
        go_wp2_with fail
        refine (rcompare_rat _ (fun _ => False) _ _ nv bv (RatL.to (s10.mono (by omega))) (RatL.to (S7x.mono (by omega)))).mono ?_
        rintro e w5 ⟨he, hb5⟩
        rw [HQ.out] at he
        subst he
        have y5 := hb5.size; (try simp only [zs] at y5)
        clear S7x s10 e7 f7 e10 f10
        have HN5 := HN9.out.keep (Keep.of_below hb5)
        have T7y : Loc w5 wy.heap.size _ _ := T7x.to
        have T10y : Loc w5 wc.heap.size _ _ := T10.to
        obtain ⟨e7, f7, l7'⟩ := T7y.all (w' := w5)
        obtain ⟨e10, f10, l10'⟩ := T10y.all (w' := w5)
        have HBF := Lib.hid (HBF0.out w5 hb5)
        by_cases h0 : 0 < q
        ·have HV2 : Hid (best (c + 1) (fun w => sm x (fun x => ce L1 x y * F w x)) = nv) := by show _ = _; rw [HBE.out, if_pos (HZ.out.1 h0)]
         have d1 : decide (0 < q) = true := decide_eq_true h0
         have HW : Hid (Below wy.heap.size wy ((((w5.setCell ⟨wy.heap.size, 0, none⟩ (.bool b11)).setCell ⟨wy.heap.size, 1, none⟩ (.slice A11 m11 c11)).setCell ⟨wy.heap.size, 2, none⟩ (.bool b11')).setCell ⟨wy.heap.size, 3, none⟩ (.slice A11' m11' c11'))) := (((HBF.out.setCell (by dsimp only; omega) _).setCell (by dsimp only; omega) _).setCell (by dsimp only; omega) _).setCell (by dsimp only; omega) _
         have HKM : Keep (fun b => b = wc.heap.size ∨ b = wy.heap.size) w5 ((((w5.setCell ⟨wy.heap.size, 0, none⟩ (.bool b11)).setCell ⟨wy.heap.size, 1, none⟩ (.slice A11 m11 c11)).setCell ⟨wy.heap.size, 2, none⟩ (.bool b11')).setCell ⟨wy.heap.size, 3, none⟩ (.slice A11' m11' c11')) := ((((Keep.refl _ _).set (.inl (.inr rfl)) _).set (.inl (.inr rfl)) _).set (.inl (.inr rfl)) _).set (.inl (.inr rfl)) _
         have HR9 := Lib.hid ((HN5.keep HKM).weak (Y := fun b => b = wy.heap.size) (fun _ _ h => .inr h))
         clear HZ h0 hBx hb5 hBc hBy HN5 HKM
         go_wp2_with fail
         go_roundw
         case rel => exact ⟨c + 1, ⟨b11, A11, m11, c11, b11', A11', m11', c11'⟩, by omega, by go_num, Loc.fill4 T7y, by rw [HV2.out]; exact HR9.out, HW.out⟩
         case measure => simp only [intOf]; omega
        ·have HV2 : Hid (best (c + 1) (fun w => sm x (fun x => ce L1 x y * F w x)) = bv) := by show _ = _; rw [HBE.out, if_neg (fun h => h0 (HZ.out.2 h))]
         have d1 : decide (0 < q) = false := decide_eq_false h0
         have HR9 := Lib.hid (HS9.out.keep (Keep.of_below (hBx.trans (hb5.mono yx))))
         clear HZ h0
         go_wp2_with fail
         go_roundw
         case rel => exact ⟨c + 1, ⟨b8, A8, m8, c8, b8', A8', m8', c8'⟩, by omega, by go_num, T7y, by rw [HV2.out]; exact HR9.out, HBF.out⟩
         case measure => simp only [intOf]; omega
    ·obtain rfl : c = Kn := by omega
     have Ty' : Loc wc (w.heap.size + 1 + 1) _ _ := Ty.to
     have HS1 := Lib.hid (HSZ.out (y + 1) (by omega))
     obtain ⟨e5, f5, -⟩ := Ty'.all (w' := wc)
     obtain ⟨e7, f7, -⟩ := T7.all (w' := wc)
     have s5 := HSY.out.keep (Keep.of_below hBc)
     obtain ⟨bv, hbv⟩ : ∃ q, best c (fun w => sm r (fun x => ce L1 x y * F w x)) = q := ⟨_, rfl⟩
     rw [hbv] at s7 HGE
     clear hbv
     go_wp2_with fail
     refine (radd_rat _ (fun _ => False) _ _ (sm y G) bv (RatL.to (s5.mono (by omega))) (RatL.to (s7.mono (by omega)))).mono ?_
     rintro e w4 ⟨v4, rfl, i9, hb4⟩
     rw [← HGE.out] at i9
     have y4 := hb4.size; (try simp only [zs] at y4)
     obtain ⟨b9, A9, m9, c9, b9', A9', m9', c9', rfl, i9, -, -⟩ := i9.op
     have Ty4 : Loc w4 (w.heap.size + 1 + 1) _ _ := Ty'.to
     have NL4 : Loc w4 w.heap.size _ _ := NLy.to
     have NM4 : Loc w4 (w.heap.size + 1) _ _ := NMy.to
     clear e5 f5 e7 f7 s5
     obtain ⟨e5, f5, l5⟩ := Ty4.all (w' := w4)
     go_wp2_with fail
     go_roundw
     case rel => exact ⟨y + 1, ⟨b9, A9, m9, c9, b9', A9', m9', c9'⟩, by omega, by go_num, Loc.fill4 Ty4, RatV.len (RatV.out i9) HS1.out, NL4.to, NM4.to, bel⟩
     case measure => simp only [intOf]; omega
  ·obtain rfl : y = n := by omega
   obtain ⟨e5, f5, -⟩ := Ty.all (w' := wy)
   obtain ⟨e6, f6, -⟩ := NMy.all (w' := wy)
   have hKM : Keep (fun b => b = w.heap.size + 1) wy ((((wy.setCell ⟨w.heap.size + 1, 0, none⟩ (.bool b6)).setCell ⟨w.heap.size + 1, 1, none⟩ (.slice A6 m6 c6)).setCell ⟨w.heap.size + 1, 2, none⟩ (.bool b6')).setCell ⟨w.heap.size + 1, 3, none⟩ (.slice A6' m6' c6')) := kp
   have sy2 := ((sy.weak (Y := fun b => b = w.heap.size + 1) (fun b _ hb => by omega)).keep hKM).weak (Y := fun _ => False) (fun _ _ h => h.elim)
   go_wp2_with fail
   refine bodyPost_ret (by simp [results, Tryz.results61, go_sem, e6, f6] <;> rfl) rfl ⟨_, rfl, sy2, bel⟩
end Go.Proofs.YtdambnieminnfaaGreat

