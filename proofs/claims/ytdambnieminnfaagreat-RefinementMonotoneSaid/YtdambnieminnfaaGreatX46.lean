/- Contracts of the functions that the statements reach, part 46. -/
import Derived.Test.YtdambnieminnfaaGreatRows
import Derived.Test.YtdambnieminnfaaGreatX1
import Derived.Test.YtdambnieminnfaaGreatX27
import Derived.Test.YtdambnieminnfaaGreatX45
set_option linter.unusedSimpArgs false
set_option linter.unusedVariables false

/- Posterior vulnerabilities in integers, plainly. -/
namespace Go.Proofs.YtdambnieminnfaaGreat

/-- The low ten bits. -/
def mk10 (x : Int) : Int := Go.bits .and .i64 x 1023
theorem mk10_le (x : Int) : 0 ≤ mk10 x ∧ mk10 x ≤ 1023 := by
 have h : (BitVec.ofInt 64 x &&& BitVec.ofInt 64 1023).toNat ≤ 1023 := by
  rw [BitVec.toNat_and]
  exact Nat.le_trans Nat.and_le_right (by decide)
 have e : mk10 x = IntKind.i64.wrap ((BitVec.ofInt 64 x &&& BitVec.ofInt 64 1023).toNat : Int) := rfl
 rw [e, IntKind.wrap_i64]
 omega
def ibest : Nat → (Nat → Int) → Int
 | 0, _ => 0
 | K + 1, f => if ibest K f < f K then f K else ibest K f
theorem ibest_best (f : Nat → Int) : ∀ K, ((ibest K f : Int) : Rat) = best K (fun w => ((f w : Int) : Rat))
 | 0 => rfl
 | K + 1 => by
   unfold ibest best
   rw [← ibest_best f K]
   by_cases h : ibest K f < f K
   ·rw [if_pos h, if_pos (Rat.intCast_lt_intCast.2 h)]
   ·rw [if_neg h, if_neg (fun e => h (Rat.intCast_lt_intCast.1 e))]
theorem ibest_bound {f : Nat → Int} {B : Int} (hB : 0 ≤ B) : ∀ K, (∀ w, w < K → f w ≤ B) → 0 ≤ ibest K f ∧ ibest K f ≤ B
 | 0, _ => by unfold ibest; omega
 | K + 1, h => by
   have := ibest_bound hB K (fun w hw => h w (by omega))
   have := h K (by omega)
   unfold ibest
   split <;> omega
/-- The gain of an action at a column, as far as the x-th secret. -/
def gsum (pr : Nat → Int) (G : Nat → Nat → Int) (L : List (List Int)) (y a x : Nat) : Int := isg x (fun x => pr x * en L x y * G a x)
def gval (pr : Nat → Int) (K : Nat) (G : Nat → Nat → Int) (L : List (List Int)) (n : Nat) : Int := isg n (fun y => ibest K (fun a => gsum pr G L y a L.length))
section
variable {pr : Nat → Int} {K : Nat} {G : Nat → Nat → Int} {L L1 L2 : List (List Int)}
theorem gterm {a b c : Int} (ha : 0 ≤ a ∧ a ≤ 1023) (hb : 0 ≤ b ∧ b ≤ 1024) (hc : 0 ≤ c ∧ c ≤ 1023) : (0 ≤ a * b ∧ a * b ≤ 1047552) ∧ 0 ≤ a * b * c ∧ a * b * c ≤ 1071645696 := by
 have h1 := Int.mul_nonneg ha.1 hb.1
 have h2 := Int.mul_le_mul ha.2 hb.2 hb.1 (by decide)
 have h3 := Int.mul_nonneg h1 hc.1
 have h4 : a * b * c ≤ 1047552 * 1023 := Int.mul_le_mul (by omega) hc.2 hc.1 (by decide)
 omega
theorem gsum_bound (hL : SM L) (hp : ∀ x, 0 ≤ pr x ∧ pr x ≤ 1023) (hG : ∀ a x, 0 ≤ G a x ∧ G a x ≤ 1023) {y a x : Nat} (hx : x ≤ L.length) (hy : y < wid L) : 0 ≤ gsum pr G L y a x ∧ gsum pr G L y a x ≤ 4286582784 := by
 have h4 := hL.2.2.1
 have := isg_bound (f := fun x => pr x * en L x y * G a x) (B := 1071645696) x (fun i hi => (gterm (hp i) (sm_en hL (by omega : i < L.length) hy) (hG a i)).2)
 unfold gsum
 omega
theorem gval_bound (hL : SM L) (hp : ∀ x, 0 ≤ pr x ∧ pr x ≤ 1023) (hG : ∀ a x, 0 ≤ G a x ∧ G a x ≤ 1023) {n : Nat} (hn : n ≤ wid L) : 0 ≤ gval pr K G L n ∧ gval pr K G L n ≤ 17146331136 := by
 have h4 := hL.2.2.2.1
 have := isg_bound (f := fun y => ibest K (fun a => gsum pr G L y a L.length)) (B := 4286582784) n (fun y hy => ibest_bound (by decide) K (fun a _ => (gsum_bound hL hp hG (Nat.le_refl _) (by omega : y < wid L)).2))
 unfold gval
 omega
theorem gval_worth : ((gval pr K G L (wid L) : Int) : Rat) = worthV (wid L) K L.length (ce L) (fun a x => ((pr x * G a x : Int) : Rat)) := by
 unfold gval worthV
 rw [isg_sm]
 refine sm_congr (fun y hy => ?_)
 rw [ibest_best]
 congr 1
 funext a
 unfold gsum
 rw [isg_sm]
 refine sm_congr (fun x hx => ?_)
 have e : ce L x y = ((en L x y : Int) : Rat) := rfl
 rw [e, ← Rat.intCast_mul]
 congr 1
 rw [Int.mul_comm (pr x) (en L x y), Int.mul_assoc]
theorem mono_of (h1 : SM L1) (h2 : SM L2) (hl : L1.length = L2.length) (hp : ∀ x, 0 ≤ pr x ∧ pr x ≤ 1023) (hG : ∀ a x, 0 ≤ G a x ∧ G a x ≤ 1023) {m : Nat} {N : Nat → Nat} {F : Nat → Nat → Rat} (h : WIT L1 L2 m N F) : tot L1 * gval pr K G L2 (wid L2) ≤ tot L2 * gval pr K G L1 (wid L1) := by
 have hw := wit_out h
 have hC2 := h2.2.1.chan
 rw [← hl] at hC2
 have := data_proc (K := K) (g := fun a x => ((pr x * G a x : Int) : Rat)) h1.2.1.chan hC2 hw (fun w _ x _ => Rat.intCast_nonneg.2 (Int.mul_nonneg (hp x).1 (hG w x).1))
 have e2 : ((gval pr K G L2 (wid L2) : Int) : Rat) = worthV (wid L2) K L1.length (ce L2) (fun a x => ((pr x * G a x : Int) : Rat)) := by rw [hl]; exact gval_worth
 have e1 : ((gval pr K G L1 (wid L1) : Int) : Rat) = worthV (wid L1) K L1.length (ce L1) (fun a x => ((pr x * G a x : Int) : Rat)) := gval_worth
 have h3 : ((tot L1 : Int) : Rat) * worthV (wid L2) K L1.length (ce L2) (fun a x => ((pr x * G a x : Int) : Rat)) ≤ ((tot L2 : Int) : Rat) * worthV (wid L1) K L1.length (ce L1) (fun a x => ((pr x * G a x : Int) : Rat)) := this
 rw [← e1, ← e2, ← Rat.intCast_mul, ← Rat.intCast_mul] at h3
 exact Rat.intCast_le_intCast.1 h3
/-- What Decide has told of small channels. -/
theorem mono_dec (h1 : SM L1) (h2 : SM L2) (hl : L1.length = L2.length) (hp : ∀ x, 0 ≤ pr x ∧ pr x ≤ 1023) (hG : ∀ a x, 0 ≤ G a x ∧ G a x ≤ 1023) {code : Int} {b : Bool} {m Kn : Nat} {F F' : Nat → Nat → Rat} (h : DecSays L1 L2 code b m F Kn F') :
 code = 0 ∧ (b = true → tot L1 * gval pr K G L2 (wid L2) ≤ tot L2 * gval pr K G L1 (wid L1)) := by
 obtain rfl := h1.code h2 hl h
 exact ⟨rfl, fun hb => mono_of h1 h2 hl hp hG (SM.dec h hb).2⟩
end
end Go.Proofs.YtdambnieminnfaaGreat

/- RefinementMonotone: the worth of a channel. -/
namespace Go.Proofs.YtdambnieminnfaaGreat
open Go.RowKit
attribute [local go_sem ↓] Go.wp_at_zero Go.wp_at_succ

set_option maxRecDepth 100000 in
set_option maxHeartbeats 16000000 in
theorem value_any (w : World) (v0 vp vg : Value) (g5 : Nat) (L GL : List (List Int)) (l : List Int) (h : IMat w v0 L) (hS : SM L) (hp : IntsV w vp l) (hG : IMat w vg GL) (hg5 : Loc w g5 42 #[vp, vg]) (hl : L.length ≤ l.length) (hK : GL.length ≤ 6) (hrow : ∀ r ∈ GL, L.length ≤ r.length) :
 Calls Tryz.prog 28 #[.agg #[v0], .pointer (some ⟨g5, 0, none⟩)] w fun e w' => e = .returned (.int .i64 (gval (fun x => mk10 (l.getD x 0)) GL.length (fun a x => mk10 (en GL a x)) L (wid L))) ∧ Below w.heap.size w w' := by
 have H := Lib.hid h
 have HS := Lib.hid hS
 have HP := Lib.hid hp
 have HG := Lib.hid hG
 have HROW := Lib.hid hrow
 have HL := Lib.hid hl
 obtain ⟨A1, c1, rfl, -, la1, la2⟩ := h.op
 obtain ⟨A2, c2, rfl, -, lb1, lb2⟩ := hp.op
 obtain ⟨A3, c3, rfl, -, lc1, lc2⟩ := hG.op
 obtain ⟨r, hr⟩ : ∃ r, L.length = r := ⟨_, rfl⟩
 obtain ⟨pl, hpl⟩ : ∃ r, l.length = r := ⟨_, rfl⟩
 obtain ⟨K, hk⟩ : ∃ r, GL.length = r := ⟨_, rfl⟩
 obtain ⟨n, hn⟩ : ∃ r, wid L = r := ⟨_, rfl⟩
 have HR := Lib.hid hr
 have HPL := Lib.hid hpl
 have HKK := Lib.hid hk
 have HN := Lib.hid hn
 have hr4 : r ≤ 4 := by rw [← hr]; exact hS.2.2.1
 have hr1 : 1 ≤ r := by rw [← hr]; exact hS.2.1.1
 have hn4 : n ≤ 4 := by rw [← hn]; exact hS.2.2.2.1
 obtain ⟨pr, hpr⟩ : ∃ f : Nat → Int, (fun x => mk10 (l.getD x 0)) = f := ⟨_, rfl⟩
 obtain ⟨Gf, hGf⟩ : ∃ f : Nat → Nat → Int, (fun a x => mk10 (en GL a x)) = f := ⟨_, rfl⟩
 have HPR := Lib.hid hpr
 have HGF := Lib.hid hGf
 have hpb : ∀ x, 0 ≤ pr x ∧ pr x ≤ 1023 := fun x => by rw [← hpr]; exact mk10_le _
 have hgb : ∀ a x, 0 ≤ Gf a x ∧ Gf a x ≤ 1023 := fun a x => by rw [← hGf]; exact mk10_le _
 have HPB := Lib.hid hpb
 have HGB := Lib.hid hgb
 rw [hr] at H la1 hl
 rw [hpl] at HP lb1 hl hg5
 rw [hk] at HG lc1 hK hg5
 rw [hr, hpr, hGf, hk, hn]
 obtain ⟨l0, he0⟩ : ∃ l, L[0]? = some l := ⟨_, List.getElem?_eq_getElem (by omega)⟩
 obtain ⟨a1, D1, d1, rfl, hab1, hcell1, -, -, -⟩ := H.out.at he0
 rw [(hS.2.1.row he0).1, hn, addr_zero] at hcell1
 have B1 := made1 w #[.slice (some a1) r c1] 24
 obtain ⟨w1, hw1⟩ : ∃ W, w.alloc (.cells #[.slice (some a1) r c1] 24) = W := ⟨_, rfl⟩
 have hb01 : Below w.heap.size w w1 := by rw [← hw1]; exact below1 w _
 have B11 : Loc w1 w.heap.size 24 #[.slice (some a1) r c1] := by rw [← hw1]; exact B1
 have P1 := hg5.below hb01
 have HB1 := Lib.hid hb01
 have i0 : (0 : Int) < (r : Int) := by omega
 have hc1 : w1.cell? a1 = _ := cell_keep (X := fun _ => False) hcell1 hab1 id (.of_below hb01)
 have HBP : Hid (∀ W, Below w1.heap.size w1 W → Loc W w.heap.size 24 #[.slice (some a1) r c1] ∧ Loc W g5 42 #[.slice A2 pl c2, .slice A3 K c3] ∧ Below w.heap.size w W) := fun W hW => ⟨B11.below hW, P1.below hW, HB1.out.trans (hW.mono HB1.out.size)⟩
 obtain ⟨e1, f1, -⟩ := B11.all (w' := w1)
 clear h hS hp hG hrow hr hpl hk hn hpr hGf he0 hcell1 hg5 B1 hpb hgb hb01 P1 B11
 go_enter Tryz.func28, Tryz.ntmps28
 go_wp2_with fail
 clear e1 f1 hc1
 go_loopw [4, 16] (fun t i wr => ∃ (y : Nat), y ≤ n ∧ t = .int .i64 (gval pr K Gf L y) ∧ i = .int .i64 y ∧ Below w1.heap.size w1 wr) (fun _ i _ => n - (intOf i).toNat)
 case atStart => exact ⟨0, by omega, rfl, rfl, Below.refl _ _⟩
 case round =>
  obtain ⟨y, hy, rfl, rfl, hBy⟩ := hrel
  obtain ⟨wy, rfl⟩ : ∃ wx : World, wx = wr := ⟨_, rfl⟩
  have HBY := Lib.hid hBy
  have yy := hBy.size
  clear hBy
  by_cases hlt : y < n
  ·have hyw : y < wid L := by rw [HN.out]; exact hlt
   obtain ⟨e2, f2, -⟩ := Loc.all (HBP.out wy HBY.out).2.1 (w' := wy)
   have k0 : (0 : Int) ≤ (y : Int) := by omega
   have k1 : (y : Int) < (n : Int) := by omega
   go_wp2_with fail
   clear e2 f2
   go_loopw [6, 22] (fun t i wr => ∃ (a : Nat), a ≤ K ∧ t = .int .i64 (ibest a (fun a => gsum pr Gf L y a r)) ∧ i = .int .i64 a ∧ Below w1.heap.size w1 wr) (fun _ i _ => K - (intOf i).toNat)
   case atStart => exact ⟨0, by omega, rfl, rfl, HBY.out⟩
   case round =>
    clear HBY
    obtain ⟨a, ha, rfl, rfl, hBa⟩ := hrel
    obtain ⟨wa, rfl⟩ : ∃ wx : World, wx = wr := ⟨_, rfl⟩
    have HBA := Lib.hid hBa
    have ya := hBa.size
    clear hBa
    by_cases hlta : a < K
    ·obtain ⟨gr, hgr⟩ : ∃ l, GL[a]? = some l := ⟨_, List.getElem?_eq_getElem (by have := HKK.out; omega)⟩
     obtain ⟨a3, D3, d3, rfl, hab3, hcell3, hints3, l31, l32⟩ := HG.out.at hgr
     have hgl : r ≤ gr.length := by have := HROW.out gr (List.mem_of_getElem? hgr); have := HR.out; omega
     have HGR := Lib.hid hgr
     have hka : Keep (fun _ => False) w wa := .of_below (HBP.out wa HBA.out).2.2
     have hc3 : wa.cell? (a3.add a) = _ := cell_keep (X := fun _ => False) hcell3 (by rw [addr_block]; exact hab3) id hka
     obtain ⟨e2, f2, -⟩ := Loc.all (HBP.out wa HBA.out).2.1 (w' := wa)
     obtain ⟨e1, f1, -⟩ := Loc.all (HBP.out wa HBA.out).1 (w' := wa)
     obtain ⟨q, hq⟩ : ∃ q, gr.length = q := ⟨_, rfl⟩
     have HQ := Lib.hid hq
     rw [hq] at hc3 hints3 hgl l31
     have HI3 := Lib.hid hints3
     have k2 : (0 : Int) ≤ (a : Int) := by omega
     have k3 : (a : Int) < (K : Int) := by omega
     clear hgr hcell3 hints3 hq hka
     go_wp2_with fail
     clear e1 f1 e2 f2 hc3
     go_loopw [9, 29] (fun t i wr => ∃ (x : Nat), x ≤ r ∧ t = .int .i64 (gsum pr Gf L y a x) ∧ i = .int .i64 x ∧ Below w1.heap.size w1 wr) (fun _ i _ => r - (intOf i).toNat)
     case atStart => exact ⟨0, by omega, rfl, rfl, HBA.out⟩
     case round =>
      clear HBA
      obtain ⟨x, hx, rfl, rfl, hBx⟩ := hrel
      obtain ⟨wx, rfl⟩ : ∃ wx : World, wx = wr := ⟨_, rfl⟩
      have HBX := Lib.hid hBx
      have yx := hBx.size
      clear hBx
      by_cases hltx : x < r
      ·have hxL : x < L.length := by rw [HR.out]; exact hltx
       obtain ⟨l1, hl1, hl1y, -, -⟩ := HS.out.2.1.en hxL hyw
       obtain ⟨a1', D4, d4, ea, hab4, hcell4, hints4, -, -⟩ := H.out.at hl1
       injection ea with ea
       subst ea
       rw [(HS.out.2.1.row hl1).1, HN.out] at hcell4
       obtain ⟨b4, rfl, hbb4, hc4, -, -⟩ := hints4.at hl1y
       obtain ⟨z2, hz2⟩ : ∃ z, l[x]? = some z := ⟨_, List.getElem?_eq_getElem (by have := HPL.out; omega)⟩
       obtain ⟨a2, rfl, hab2, hc2, -, -⟩ := HP.out.at hz2
       obtain ⟨z3, hz3⟩ : ∃ z, gr[x]? = some z := ⟨_, List.getElem?_eq_getElem (by have := HQ.out; omega)⟩
       obtain ⟨b3, rfl, hbb3, hc5, -, -⟩ := HI3.out.at hz3
       have hkx : Keep (fun _ => False) w wx := .of_below (HBP.out wx HBX.out).2.2
       have e1 : Go.bits .and .i64 z2 1023 = pr x := by rw [← HPR.out]; dsimp only; rw [List.getD_eq_getElem?_getD, hz2]; rfl
       have e2 : Go.bits .and .i64 z3 1023 = Gf a x := by rw [← HGF.out]; dsimp only; unfold en; rw [List.getD_eq_getElem?_getD, List.getD_eq_getElem?_getD, HGR.out, Option.getD_some, hz3]; rfl
       have HLS : Hid (((wx.cell? ⟨g5, 0, none⟩ = some (.slice (some a2) pl c2) ∧ wx.cell? (a2.add x) = some (.int .i64 z2)) ∧ wx.cell? ⟨w.heap.size, 0, none⟩ = some (.slice (some a1) r c1) ∧ wx.cell? (a1.add x) = some (.slice (some b4) n d4)) ∧ wx.cell? (b4.add y) = some (.int .i64 (en L x y)) ∧ wx.cell? (b3.add x) = some (.int .i64 z3)) :=
        ⟨⟨⟨Loc.cell (HBP.out wx HBX.out).2.1 0, cell_keep hc2 (by rw [addr_block]; exact hab2) id hkx⟩, Loc.cell (HBP.out wx HBX.out).1 0, cell_keep hcell4 (by rw [addr_block]; exact hab4) id hkx⟩, cell_keep hc4 (by rw [addr_block]; exact hbb4) id hkx, cell_keep hc5 (by rw [addr_block]; exact hbb3) id hkx⟩
       have bt := gterm (HPB.out x) (sm_en HS.out hxL hyw) (HGB.out a x)
       have bs := gsum_bound HS.out HPB.out HGB.out (a := a) (y := y) (Nat.le_of_lt hxL) hyw
       have HSU : Hid (gsum pr Gf L y a (x + 1) = gsum pr Gf L y a x + pr x * en L x y * Gf a x) := rfl
       obtain ⟨C, hC⟩ : ∃ C, en L x y = C := ⟨_, rfl⟩
       obtain ⟨S, hSS⟩ : ∃ C, gsum pr Gf L y a x = C := ⟨_, rfl⟩
       obtain ⟨p1, hp1⟩ : ∃ C, pr x = C := ⟨_, rfl⟩
       obtain ⟨p3, hp3⟩ : ∃ C, Gf a x = C := ⟨_, rfl⟩
       rw [hC] at HLS
       rw [hC, hp1, hp3] at bt
       rw [hC, hp1, hp3, hSS] at HSU
       rw [hSS] at bs
       rw [hp1] at e1
       rw [hp3] at e2
       rw [hSS]
       obtain ⟨t1, ht1⟩ : ∃ t, p1 * C = t := ⟨_, rfl⟩
       obtain ⟨t2, ht2⟩ : ∃ t, t1 * p3 = t := ⟨_, rfl⟩
       rw [ht1] at bt HSU
       rw [ht2] at bt HSU
       have w1' : IntKind.i64.wrap (p1 * C) = t1 := by rw [ht1, IntKind.wrap_i64]; omega
       have w2' : IntKind.i64.wrap (t1 * p3) = t2 := by rw [ht2, IntKind.wrap_i64]; omega
       obtain ⟨T, hT⟩ : ∃ t, S + t2 = t := ⟨_, rfl⟩
       have w3' : IntKind.i64.wrap (S + t2) = T := by rw [hT, IntKind.wrap_i64]; omega
       have HTT : Hid (T = gsum pr Gf L y a (x + 1)) := by show _ = _; rw [HSU.out, hT]
       have k4 : (0 : Int) ≤ (x : Int) := by omega
       have k5 : (x : Int) < (r : Int) := by omega
       have k6 : (x : Int) < (pl : Int) := by omega
       have k7 : (x : Int) < (q : Int) := by omega
       clear hl1 hl1y hcell4 hints4 hc4 hz2 hc2 hz3 hc5 hkx hC hSS hp1 hp3 ht1 ht2 hT HSU bt bs hxL
       go_wp2_with fail
       refine wp_region_noPanic ?_
       refine wp_region_held_drew (S := (fun W => ((W.cell? ⟨g5, 0, none⟩ = some (.slice (some a2) pl c2) ∧ W.cell? (a2.add x) = some (.int .i64 z2)) ∧ W.cell? ⟨w.heap.size, 0, none⟩ = some (.slice (some a1) r c1) ∧ W.cell? (a1.add x) = some (.slice (some b4) n d4)) ∧ W.cell? (b4.add y) = some (.int .i64 C) ∧ W.cell? (b3.add x) = some (.int .i64 z3))) (by kernel_rfl) ?_ (fun hHeld => ?_)
       ·exact HLS.out
       refine takeT 0 hHeld ?_
       (try simp only [Act.put, ly])
       refine takeT 1 hHeld ?_
       (try simp only [Act.put, ly])
       refine takeT 2 hHeld ?_
       (try simp only [Act.put, ly])
       refine takeT 3 hHeld ?_
       (try simp only [Act.put, ly])
       refine takeT 4 hHeld ?_
       (try simp only [Act.put, ly])
       refine takeT 5 hHeld ?_
       (try simp only [Act.put, ly])
       refine takeT 6 hHeld ?_
       (try simp only [Act.put, ly])
       refine takeT 7 hHeld ?_
       (try simp only [Act.put, ly])
       refine takeT 8 hHeld ?_
       (try simp only [Act.put, ly])
       refine takeT 9 hHeld ?_
       (try simp only [Act.put, ly])
       refine takeT 10 hHeld ?_
       (try simp only [Act.put, ly])
       refine takeT 11 hHeld ?_
       (try simp only [Act.put, ly])
       refine takeT 12 hHeld ?_
       (try simp only [Act.put, ly])
       refine takeT 13 hHeld ?_
       (try simp only [Act.put, ly])
       refine takeT 14 hHeld ?_
       (try simp only [Act.put, ly])
       refine takeT 15 hHeld ?_
       (try simp only [Act.put, ly])
       refine takeT 16 hHeld ?_
       (try simp only [Act.put, ly])
       refine takeT 17 hHeld ?_
       (try simp only [Act.put, ly])
       refine takeT 18 hHeld ?_
       (try simp only [Act.put, ly])
       refine takeT 19 hHeld ?_
       (try simp only [Act.put, ly])
       refine takeT 20 hHeld ?_
       (try simp only [Act.put, ly])
       refine takeT 21 hHeld ?_
       (try simp only [Act.put, ly])
       refine takeT 22 hHeld ?_
       (try simp only [Act.put, ly])
       refine takeT 23 hHeld ?_
       (try simp only [Act.put, ly])
       refine wpAnyH_done (by kernel_rfl) ?_ _
       refine NoPanic.normal ?_
       clear w1' w2' w3' e1 e2
       go_wp2_with fail
       go_roundw
       case rel => exact ⟨x + 1, by omega, by rw [← HTT.out], by go_num, HBX.out.drew⟩
       case measure => simp only [intOf]; omega
      ·obtain rfl : x = r := by omega
       have hIB : ibest (a + 1) (fun a => gsum pr Gf L y a x) = if ibest a (fun a => gsum pr Gf L y a x) < gsum pr Gf L y a x then gsum pr Gf L y a x else ibest a (fun a => gsum pr Gf L y a x) := rfl
       obtain ⟨S, hSS⟩ : ∃ C, gsum pr Gf L y a x = C := ⟨_, rfl⟩
       obtain ⟨B, hBB⟩ : ∃ C, ibest a (fun a => gsum pr Gf L y a x) = C := ⟨_, rfl⟩
       rw [hSS, hBB] at hIB
       rw [hSS, hBB]
       have HIB := Lib.hid hIB
       clear hSS hBB hIB
       have HV : Hid (max B S = ibest (a + 1) (fun a => gsum pr Gf L y a x)) := by
        show _ = _
        rw [HIB.out]
        split <;> omega
       clear HIB
       go_wp2_with fail
       go_roundw
       case rel => exact ⟨a + 1, by omega, by rw [HV.out], by go_num, HBX.out⟩
       case measure => simp only [intOf]; omega
    ·obtain rfl : a = K := by omega
     have HSU : Hid (gval pr a Gf L (y + 1) = gval pr a Gf L y + ibest a (fun a => gsum pr Gf L y a L.length)) := rfl
     have bs := gval_bound (K := a) HS.out HPB.out HGB.out (n := y) (Nat.le_of_lt hyw)
     have bi := ibest_bound (f := fun a => gsum pr Gf L y a L.length) (B := 4286582784) (by decide) a (fun a _ => (gsum_bound HS.out HPB.out HGB.out (Nat.le_refl _) hyw).2)
     rw [HR.out] at HSU bi
     obtain ⟨S, hSS⟩ : ∃ C, gval pr a Gf L y = C := ⟨_, rfl⟩
     obtain ⟨B, hBB⟩ : ∃ C, ibest a (fun a => gsum pr Gf L y a r) = C := ⟨_, rfl⟩
     rw [hSS, hBB] at HSU
     rw [hSS] at bs
     rw [hBB] at bi
     rw [hSS, hBB]
     have w1' : IntKind.i64.wrap (S + B) = S + B := by rw [IntKind.wrap_i64]; omega
     clear hSS hBB bs bi
     go_wp2_with fail
     go_roundw
     case rel => exact ⟨y + 1, by omega, by rw [HSU.out], by go_num, HBA.out⟩
     case measure => simp only [intOf]; omega
  ·obtain rfl : y = n := by omega
   have HBF := Lib.hid (HBP.out wy HBY.out).2.2
   go_wp2_with fail
   go_ret
   exact ⟨rfl, HBF.out⟩
end Go.Proofs.YtdambnieminnfaaGreat

/- Arguments opened: lists of bytes, a payoff. -/
namespace Go.Proofs.YtdambnieminnfaaGreat
open Go.ChangeShapes Go.WideShapes Go.ChangeAt Go.RowKit Go.Joins
theorem cellsU81 : Tryz.prog.cellsOf 5 = 1 := by kernel_rfl

/-- A list of bytes that is read. -/
def U8V (w : World) (v : Value) (l : List Int) : Prop :=
 ∃ A cap, v = .slice A l.length cap ∧ l.length ≤ cap ∧ cap ≤ maxLen ∧ (l.length ≠ 0 → ∃ a, A = some a ∧ a.block < w.heap.size ∧ ∀ i z, l[i]? = some z → w.cell? (a.add i) = some (.int .u8 z)) ∧ ∀ z ∈ l, 0 ≤ z ∧ z ≤ 255
section
variable {w w' : World} {v : Value} {l : List Int}
theorem U8V.keep (h : U8V w v l) (hk : Keep (fun _ => False) w w') : U8V w' v l := by
 obtain ⟨A, cap, hv, h1, h2, h3, h4⟩ := h
 refine ⟨A, cap, hv, h1, h2, fun hn => ?_, h4⟩
 obtain ⟨a, ha, hb, hc⟩ := h3 hn
 exact ⟨a, ha, Nat.lt_of_lt_of_le hb hk.size, fun i z hz => cell_keep (hc i z hz) (by rw [add_block]; exact hb) id hk⟩
theorem U8V.op (h : U8V w v l) : ∃ (A : Option Addr) (cap : Nat), v = .slice A l.length cap ∧ U8V w (.slice A l.length cap) l ∧ l.length ≤ cap ∧ cap ≤ maxLen := by
 have h0 := h
 obtain ⟨A, cap, rfl, h1, h2, -⟩ := h
 exact ⟨A, cap, rfl, h0, h1, h2⟩
theorem U8V.at {A : Option Addr} {n cap : Nat} (h : U8V w (.slice A n cap) l) {i : Nat} {z : Int} (hz : l[i]? = some z) : ∃ a : Addr, A = some a ∧ a.block < w.heap.size ∧ w.cell? (a.add i) = some (.int .u8 z) ∧ 0 ≤ z ∧ z ≤ 255 := by
 obtain ⟨A', cap', hv, h1, h2, h3, h4⟩ := h
 injection hv with e1 e2 e3
 subst e1
 obtain ⟨a, ha, hb, hc⟩ := h3 (by have := (List.getElem?_eq_some_iff.1 hz).1; omega)
 exact ⟨a, ha, hb, hc i z hz, h4 z (List.mem_of_getElem? hz)⟩
end
set_option maxRecDepth 100000 in
theorem open_U8 {H : Type} {enc : TypeId × Value → H} {W : World} {base : Nat} {r : Reach} {b0 : Nat} {v : Value} {d : DataW H} {p : List MemPlace}
 (hv : Value.okWide Tryz.prog W r b0 48 v) (h : DataW.Trod enc Tryz.prog W base (fun _ => true) true 48 v d p) : ∃ l, U8V W v l := by
 obtain ⟨a', len', cap', rfl⟩ := okWide_slice Tryz.underlying48 hv
 obtain ⟨fuel, hf⟩ := h
 rcases open_ints Tryz.underlying48 Tryz.underlying5 cellsU81 hf with ⟨hcs, _⟩ | ⟨a, len, cap, zs, hcs, _, hl, hm, hz, _, hcell, hwz⟩
 ·simp [Value.cells] at hcs
  obtain ⟨rfl, rfl, rfl⟩ := hcs
  exact ⟨[], none, 0, rfl, Nat.le_refl _, Nat.zero_le _, fun h => absurd rfl h, fun z hz => by simp at hz⟩
 ·simp [Value.cells] at hcs
  obtain ⟨rfl, rfl, rfl⟩ := hcs
  have hz' : zs.length = cap' := by simpa using hz
  have hlen : (zs.take len').length = len' := by simp; omega
  refine ⟨zs.take len', _, _, by rw [hlen], by rw [hlen]; exact hl, hm, fun hn => ⟨a, rfl, ?_, fun j u hu => ?_⟩, fun z hz => ?_⟩
  ·rw [hlen] at hn
   have h0 := hcell 0 (by omega)
   rw [addr_zero] at h0
   exact World.block_lt_of_cell? W a h0
  ·have hj : j < len' := by have := (List.getElem?_eq_some_iff.1 hu).1; simp at this; omega
   have hjz : j < zs.length := by omega
   rw [hcell j hjz]
   rw [List.getElem?_take, if_pos hj, List.getElem?_eq_getElem hjz] at hu
   injection hu with hu
   rw [← hu]
   simp [hjz]
  ·have := bounds_u8 (hwz z (List.mem_of_mem_take hz))
   omega

theorem cellsAt : Tryz.prog.cellsOf 49 = 2 := by kernel_rfl
set_option maxRecDepth 100000 in
theorem open_At {H : Type} {enc : TypeId × Value → H} {W : World} {base : Nat} {r : Reach} {b0 : Nat} {v : Value} {d : DataW H} {p : List MemPlace}
 (hv : Value.okWide Tryz.prog W r b0 49 v) (h : DataW.Trod enc Tryz.prog W base (fun _ => true) true 49 v d p) : ∃ a b, v = .agg #[.int .u8 a, .int .u8 b] ∧ (Lit.int .u8 a).wf = true ∧ (Lit.int .u8 b).wf = true := by
 obtain ⟨cs, rfl, hsz⟩ := okWide_array Tryz.underlying49 hv
 obtain ⟨l⟩ := cs
 match l, hsz.trans cellsAt with
 | [c0, c1], _ =>
   obtain ⟨fuel, hf⟩ := h
   obtain ⟨xs, n, _, _, _, hlen, hg⟩ := DataW.trod_array Tryz.underlying49 hf
   match xs, hlen with
   | [y0, y1], _ =>
     have g0 := hg 0 (by decide)
     have g1 := hg 1 (by decide)
     rw [cellsU81] at g0 g1
     have h0 : DataW.trod enc Tryz.prog W base (fun _ => true) true n 5 [c0] = some y0 := g0
     have h1 : DataW.trod enc Tryz.prog W base (fun _ => true) true n 5 [c1] = some y1 := g1
     obtain ⟨a, e0, _, ha⟩ := DataW.trod_int Tryz.underlying5 h0
     obtain ⟨b, e1, _, hb⟩ := DataW.trod_int Tryz.underlying5 h1
     simp at e0 e1
     subst e0 e1
     exact ⟨a, b, rfl, ha, hb⟩
theorem cellsPay : Tryz.prog.cellsOf 42 = 2 := by kernel_rfl
set_option maxRecDepth 100000 in
theorem open_Payoff {H : Type} {enc : TypeId × Value → H} {W : World} {base : Nat} {r : Reach} {b0 : Nat} {v : Value} {d : DataW H} {p : List MemPlace}
 (hv : Value.okWide Tryz.prog W r b0 42 v) (h : DataW.Trod enc Tryz.prog W base (fun _ => true) true 42 v d p) : ∃ v0 v1 l L, v = .agg #[v0, v1] ∧ IntsV W v0 l ∧ IMat W v1 L := by
 obtain ⟨cs, rfl, hsz⟩ := okWide_struct Tryz.underlying42 hv
 obtain ⟨l⟩ := cs
 match l, hsz.trans cellsPay with
 | [c0, c1], _ =>
   obtain ⟨fuel, hf⟩ := h
   obtain ⟨xs, n, _, _, _, hlen, hg⟩ := DataW.trod_struct Tryz.underlying42 hf
   match xs, hlen with
   | [y0, y1], _ =>
     have g0 : DataW.trod enc Tryz.prog W base (fun _ => true) true n 38 (([c0, c1].drop 0).take (Tryz.prog.cellsOf 38)) = [y0, y1][0]? := hg 0 _ rfl
     have g1 : DataW.trod enc Tryz.prog W base (fun _ => true) true n 22 (([c0, c1].drop 1).take (Tryz.prog.cellsOf 22)) = [y0, y1][1]? := hg 1 _ rfl
     rw [cellsInts] at g0
     rw [cellsIMat] at g1
     have h0 : DataW.trod enc Tryz.prog W base (fun _ => true) true n 38 [c0] = some y0 := g0
     have h1 : DataW.trod enc Tryz.prog W base (fun _ => true) true n 22 [c1] = some y1 := g1
     obtain ⟨l, h2⟩ := open_Ints h0
     obtain ⟨L, h3⟩ := open_IMat h1
     exact ⟨c0, c1, l, L, rfl, h2, h3⟩
end Go.Proofs.YtdambnieminnfaaGreat

/- Deterministic channels, plainly. -/
namespace Go.Proofs.YtdambnieminnfaaGreat

/-- A row with one number. -/
def oneAt (c : Nat) (t : Int) : List Int := (List.replicate 5 0).set c t
/-- A deterministic channel of n rows and five columns. -/
def det (n : Nat) (a : Nat → Nat) (t : Int) : List (List Int) := (List.range n).map fun x => oneAt (a x) t
theorem oneAt_len (c : Nat) (t : Int) : (oneAt c t).length = 5 := by simp [oneAt]
theorem oneAt_sum {c : Nat} (hc : c < 5) (t : Int) : isum (oneAt c t) = t := by
 unfold oneAt
 match c, hc with
 | 0, _ => simp [isum, List.replicate]
 | 1, _ => simp [isum, List.replicate]
 | 2, _ => simp [isum, List.replicate]
 | 3, _ => simp [isum, List.replicate]
 | 4, _ => simp [isum, List.replicate]
theorem oneAt_mem {c : Nat} {t z : Int} (h : z ∈ oneAt c t) : z = 0 ∨ z = t := by
 unfold oneAt at h
 rcases List.mem_or_eq_of_mem_set h with h | h
 ·exact .inl (List.eq_of_mem_replicate h)
 ·exact .inr h
theorem oneAt_getD {c : Nat} (hc : c < 5) {y : Nat} (hy : y < 5) (t : Int) : (oneAt c t).getD y 0 = if y = c then t else 0 := by
 unfold oneAt
 rw [List.getD_eq_getElem?_getD, List.getElem?_set]
 by_cases h : c = y
 ·subst h; simp [hc]
 ·rw [if_neg h, if_neg (fun e => h e.symm), List.getElem?_replicate, if_pos hy]; rfl
section
variable {n : Nat} {a b : Nat → Nat} {t u : Int}
theorem det_len : (det n a t).length = n := by simp [det]
theorem det_get {x : Nat} (hx : x < n) : (det n a t)[x]? = some (oneAt (a x) t) := by
 unfold det
 rw [List.getElem?_map, List.getElem?_range hx]; rfl
theorem det_getD {x : Nat} (hx : x < n) : (det n a t).getD x [] = oneAt (a x) t := by
 rw [List.getD_eq_getElem?_getD, det_get hx]; rfl
theorem det_rsum {c : Nat} (hc : c < 5) (h1 : 1 ≤ t) (h2 : t ≤ 256) : rsumA 0 (oneAt c t) = t := by
 rw [rsumA_of _ _ (fun z hz => by rcases oneAt_mem hz with h | h <;> omega) (by rw [oneAt_sum hc]; omega), oneAt_sum hc, Int.zero_add]
theorem det_wid (hn : 1 ≤ n) : wid (det n a t) = 5 := by
 have e : wid (det n a t) = ((det n a t).getD 0 []).length := rfl
 rw [e, det_getD hn, oneAt_len]
theorem det_tot (hn : 1 ≤ n) (ha : ∀ x, x < n → a x < 5) (h1 : 1 ≤ t) (h2 : t ≤ 256) : tot (det n a t) = t := by
 have e : tot (det n a t) = rsumA 0 ((det n a t).getD 0 []) := rfl
 rw [e, det_getD hn, det_rsum (ha 0 hn) h1 h2]
theorem det_vc (hn : 1 ≤ n) (hn5 : n ≤ 5) (ha : ∀ x, x < n → a x < 5) (h1 : 1 ≤ t) (h2 : t ≤ 256) : VC (det n a t) := by
 have e1 : ((det n a t).getD 0 []).length = 5 := det_wid hn
 have e2 : rsumA 0 ((det n a t).getD 0 []) = t := det_tot hn ha h1 h2
 refine ⟨by rw [det_len]; omega, by rw [det_len]; omega, by rw [e1]; decide, by rw [e1]; decide, by rw [e2]; omega, fun l hl => ?_⟩
 obtain ⟨x, hx, rfl⟩ := List.mem_map.1 hl
 rw [e1, e2, oneAt_len, det_rsum (ha x (List.mem_range.1 hx)) h1 h2]
 simp
theorem det_few (hn5 : n ≤ 5) : Few40 (det n a t) := by
 refine ⟨by rw [det_len]; omega, fun l hl => ?_⟩
 obtain ⟨x, hx, rfl⟩ := List.mem_map.1 hl
 rw [oneAt_len]
 exact Nat.le_refl _
theorem det_ce (ha : ∀ x, x < n → a x < 5) {x y : Nat} (hx : x < n) (hy : y < 5) : ce (det n a t) x y = if y = a x then (t : Rat) else 0 := by
 have e : ce (det n a t) x y = ((((det n a t).getD x []).getD y 0 : Int) : Rat) := rfl
 rw [e, det_getD hx, oneAt_getD (ha x hx) hy]
 split
 ·rfl
 ·rfl
theorem sm_at (f : Nat → Rat) (c : Nat) : ∀ n, sm n (fun y => (if y = c then f y else 0)) = if c < n then f c else 0
 | 0 => by rw [if_neg (Nat.not_lt_zero c)]; rfl
 | n + 1 => by
   rw [sm_succ, sm_at f c n]
   by_cases h : c < n
   ·rw [if_pos h, if_neg (by omega : ¬ n = c), if_pos (by omega : c < n + 1)]; grind
   ·by_cases e : n = c
    ·subst e
     rw [if_neg (Nat.lt_irrefl n), if_pos rfl, if_pos (by omega)]; grind
    ·rw [if_neg h, if_neg e, if_neg (by omega)]; grind
/-- Rows that the first channel does not separate are not separated by the second one. -/
def Want (n : Nat) (a b : Nat → Nat) : Prop := ∀ x, x < n → ∀ y, y < n → a x = a y → b x = b y
theorem want_of (hn : 1 ≤ n) (ha : ∀ x, x < n → a x < 5) (hb : ∀ x, x < n → b x < 5) (h1 : 1 ≤ t) (h2 : t ≤ 256) (k1 : 1 ≤ u) (k2 : u ≤ 256) {m : Nat} {N : Nat → Nat} {F : Nat → Nat → Rat} (h : WIT (det n a t) (det n b u) m N F) : Want n a b := by
 have hw := wit_out h
 rw [det_len, det_wid hn, det_wid hn, det_tot hn ha h1 h2, det_tot hn hb k1 k2] at hw
 have ht : (0 : Rat) < (t : Rat) := Rat.intCast_pos.2 (by omega)
 have hu : (0 : Rat) < (u : Rat) := Rat.intCast_pos.2 (by omega)
 have key : ∀ x, x < n → ∀ z, z < 5 → (u : Rat) * ((t : Rat) * F (a x) z) = (t : Rat) * (if z = b x then (u : Rat) else 0) := fun x hx z hz => by
  have := hw.eq x hx z hz
  rw [det_ce hb hx hz, sm_congr (g := fun y => if y = a x then (t : Rat) * F y z else 0) (fun y hy => by rw [det_ce ha hx hy]; split <;> grind), sm_at (fun y => (t : Rat) * F y z), if_pos (ha x hx)] at this
  exact this
 intro x hx y hy e
 have e1 := key x hx (b x) (hb x hx)
 have e2 := key y hy (b x) (hb x hx)
 rw [if_pos rfl] at e1
 rw [← e, e1] at e2
 by_cases h : b x = b y
 ·exact h
 ·rw [if_neg h] at e2
  have : (0 : Rat) < (t : Rat) * (u : Rat) := Rat.mul_pos ht hu
  grind
theorem of_want (hn : 1 ≤ n) (hn5 : n ≤ 5) (ha : ∀ x, x < n → a x < 5) (hb : ∀ x, x < n → b x < 5) (h1 : 1 ≤ t) (h2 : t ≤ 256) (k1 : 1 ≤ u) (k2 : u ≤ 256) (h : Want n a b) : ∃ (m : Nat) (N : Nat → Nat) (F : Nat → Nat → Rat), WIT (det n a t) (det n b u) m N F := by
 have hpsi : ∃ f : Nat → Nat, (∀ x, x < n → f (a x) = b x) ∧ ∀ y, f y < 5 := by
  refine ⟨fun y => open Classical in if h : ∃ x, x < n ∧ a x = y then b h.choose else 0, fun x hx => ?_, fun y => ?_⟩
  ·have hex : ∃ x', x' < n ∧ a x' = a x := ⟨x, hx, rfl⟩
   dsimp only
   rw [dif_pos hex]
   exact h _ hex.choose_spec.1 x hx hex.choose_spec.2
  ·dsimp only
   by_cases hex : ∃ x, x < n ∧ a x = y
   ·rw [dif_pos hex]; exact hb _ hex.choose_spec.1
   ·rw [dif_neg hex]; decide
 obtain ⟨f, hf, hf5⟩ := hpsi
 refine ⟨_, _, fun y z => if z = f y then 1 else 0, wit_in (det_vc hn hn5 ha h1 h2) (det_vc hn hn5 hb k1 k2) (by rw [det_len, det_len]) ?_⟩
 rw [det_len, det_wid hn, det_wid hn, det_tot hn ha h1 h2, det_tot hn hb k1 k2]
 refine ⟨fun y hy z hz => by split <;> grind, fun y hy => ?_, fun x hx z hz => ?_⟩
 ·rw [sm_at (fun _ => (1 : Rat)), if_pos (hf5 y)]
 ·rw [det_ce hb hx hz, sm_congr (g := fun y => if y = a x then (t : Rat) * (if z = f y then 1 else 0) else 0) (fun y hy => by rw [det_ce ha hx hy]; split <;> grind), sm_at (fun y => (t : Rat) * (if z = f y then 1 else 0)), if_pos (ha x hx), hf x hx]
  split <;> grind
/-- What Decide answers. -/
theorem det_dec (hn : 1 ≤ n) (hn5 : n ≤ 5) (ha : ∀ x, x < n → a x < 5) (hb : ∀ x, x < n → b x < 5) (h1 : 1 ≤ t) (h2 : t ≤ 256) (k1 : 1 ≤ u) (k2 : u ≤ 256) {code : Int} {q : Bool} {m Kn : Nat} {F G : Nat → Nat → Rat} (h : DecSays (det n a t) (det n b u) code q m F Kn G) : code = 0 ∧ (q = true ↔ Want n a b) := by
 obtain rfl := (det_few hn5).code (det_few hn5) h (det_vc hn hn5 ha h1 h2) (det_vc hn hn5 hb k1 k2) (by rw [det_len, det_len])
 refine ⟨rfl, fun hq => ?_, fun hw => ?_⟩
 ·rcases (h.2.2.2.2.1 rfl).1 with h | h
  ·exact want_of hn ha hb h1 h2 k1 k2 h.2.2
  ·rw [hq] at h; cases h.1
 ·obtain ⟨m', N', F', hwit⟩ := of_want hn hn5 ha hb h1 h2 k1 k2 hw
  exact dec_true h hwit
end
end Go.Proofs.YtdambnieminnfaaGreat

