/- Contracts of the functions that the statements reach, part 42. -/
import Derived.Test.YtdambnieminnfaaGreatRows
import Derived.Test.YtdambnieminnfaaGreatZ1
import Derived.Test.YtdambnieminnfaaGreatZ18
import Derived.Test.YtdambnieminnfaaGreatZ20
import Derived.Test.YtdambnieminnfaaGreatZ40
import Derived.Test.YtdambnieminnfaaGreatZ41
set_option linter.unusedSimpArgs false
set_option linter.unusedVariables false

/- The law's side of layer 40: small functions over lists of integers. -/
namespace Go.Proofs.YtdambnieminnfaaGreat
open Go.RowKit
attribute [local go_sem ↓] Go.wp_at_zero Go.wp_at_succ

/-- Two lists of integers are multiples of one another. -/
def alk (a b : List Int) : Prop := ∀ i, i < a.length → ∀ j, j < a.length → a.getD i 0 * b.getD j 0 = a.getD j 0 * b.getD i 0
theorem alk_par {m : Nat} {a b : List Int} (ha : a.length = m) : alk a b ↔ Par m (lv a) (lv b) := by
 unfold alk Par lv
 rw [ha]
 refine ⟨fun h i hi j hj => ?_, fun h i hi j hj => ?_⟩
 ·rw [← Rat.intCast_mul, ← Rat.intCast_mul, h i hi j hj]
 ·have := h i hi j hj
  rw [← Rat.intCast_mul, ← Rat.intCast_mul] at this
  exact Rat.intCast_inj.1 this
theorem getD_of {l : List Int} {i : Nat} {z : Int} (h : l[i]? = some z) : l.getD i 0 = z := by rw [List.getD_eq_getElem?_getD, h]; rfl
theorem small_mul {a b : Int} (ha : 0 ≤ a ∧ a ≤ 1048576) (hb : 0 ≤ b ∧ b ≤ 1048576) : 0 ≤ a * b ∧ a * b ≤ 1099511627776 := by
 have h1 := Int.mul_nonneg ha.1 hb.1
 have h2 := Int.mul_le_mul ha.2 hb.2 hb.1 (by decide)
 omega

set_option maxRecDepth 100000 in
set_option maxHeartbeats 8000000 in
theorem alike_any (w : World) (v1 v2 : Value) (a b : List Int) (h1 : IntsV w v1 a) (h2 : IntsV w v2 b) (hab : a.length = b.length) (ha : ∀ z ∈ a, 0 ≤ z ∧ z ≤ 1048576) (hb : ∀ z ∈ b, 0 ≤ z ∧ z ≤ 1048576) :
 Calls Tryz.prog 79 #[v1, v2] w fun e w' => Tells (alk a b) e ∧ Below w.heap.size w w' := by
 have H1 := Lib.hid h1
 have H2 := Lib.hid h2
 have HA := Lib.hid ha
 have HB := Lib.hid hb
 obtain ⟨A1, c1, rfl, -, l1, l2⟩ := h1.op
 obtain ⟨A2, c2, rfl, -, l3, l4⟩ := h2.op
 obtain ⟨m, hm⟩ : ∃ r, a.length = r := ⟨_, rfl⟩
 have hm2 : b.length = m := by omega
 have HM := Lib.hid hm
 have HM2 := Lib.hid hm2
 rw [hm] at H1 l1
 rw [hm2] at H2 l3
 rw [hm, hm2]
 unfold maxLen at l2 l4
 clear h1 h2 ha hb hab hm hm2
 go_enter Tryz.func79, Tryz.ntmps79
 go_wp2_with fail
 go_loopw [9] (fun i wr => ∃ (x : Nat), x ≤ m ∧ i = .int .i64 x ∧ Hid (∀ i, i < x → ∀ j, j < m → a.getD i 0 * b.getD j 0 = a.getD j 0 * b.getD i 0) ∧ Below w.heap.size w wr) (fun i _ => m - (intOf i).toNat)
 case atStart => exact ⟨0, by omega, rfl, Lib.hid (fun i hi => absurd hi (Nat.not_lt_zero i)), bel⟩
 case round =>
  obtain ⟨x, hx, rfl, hall, hBx⟩ := hrel
  obtain ⟨wx, rfl⟩ : ∃ wo : World, wo = wr := ⟨_, rfl⟩
  have yx := hBx.size
  have HBX := Lib.hid hBx
  clear hBx
  by_cases hlt : x < m
  ·have k0 : (0 : Int) ≤ (x : Int) := by omega
   have k1 : (x : Int) < (m : Int) := by omega
   go_wp2_with fail
   go_loopw [14] (fun i wr => ∃ (y : Nat), y ≤ m ∧ i = .int .i64 y ∧ Hid (∀ j, j < y → a.getD x 0 * b.getD j 0 = a.getD j 0 * b.getD x 0) ∧ Below w.heap.size w wr) (fun i _ => m - (intOf i).toNat)
   case atStart => exact ⟨0, by omega, rfl, Lib.hid (fun i hi => absurd hi (Nat.not_lt_zero i)), HBX.out⟩
   case round =>
    clear HBX
    obtain ⟨y, hy, rfl, hrow, hBy⟩ := hrel
    obtain ⟨wy, rfl⟩ : ∃ wo : World, wo = wr := ⟨_, rfl⟩
    have yy := hBy.size
    have HBY := Lib.hid hBy
    clear hBy
    by_cases hlty : y < m
    ·obtain ⟨p, hp⟩ : ∃ z, a[x]? = some z := ⟨_, List.getElem?_eq_getElem (by have := HM.out; omega)⟩
     obtain ⟨q, hq⟩ : ∃ z, b[y]? = some z := ⟨_, List.getElem?_eq_getElem (by have := HM2.out; omega)⟩
     obtain ⟨r, hr⟩ : ∃ z, a[y]? = some z := ⟨_, List.getElem?_eq_getElem (by have := HM.out; omega)⟩
     obtain ⟨s, hs⟩ : ∃ z, b[x]? = some z := ⟨_, List.getElem?_eq_getElem (by have := HM2.out; omega)⟩
     have hk : Keep (fun _ => False) w wy := .of_below HBY.out
     obtain ⟨ad1, rfl, hb1, g1, -, -⟩ := H1.out.at hp
     obtain ⟨ad1', ea, -, g2, -, -⟩ := H1.out.at hr
     injection ea with ea
     subst ea
     obtain ⟨ad2, rfl, hb2, g3, -, -⟩ := H2.out.at hq
     obtain ⟨ad2', ea, -, g4, -, -⟩ := H2.out.at hs
     injection ea with ea
     subst ea
     have HLS : Hid ((wy.cell? (ad1.add x) = some (.int .i64 p) ∧ wy.cell? (ad2.add y) = some (.int .i64 q)) ∧ wy.cell? (ad1.add y) = some (.int .i64 r) ∧ wy.cell? (ad2.add x) = some (.int .i64 s)) :=
      ⟨⟨cell_keep g1 (by rw [addr_block]; exact hb1) id hk, cell_keep g3 (by rw [addr_block]; exact hb2) id hk⟩, cell_keep g2 (by rw [addr_block]; exact hb1) id hk, cell_keep g4 (by rw [addr_block]; exact hb2) id hk⟩
     have b1 := small_mul (HA.out p (List.mem_of_getElem? hp)) (HB.out q (List.mem_of_getElem? hq))
     have b2 := small_mul (HA.out r (List.mem_of_getElem? hr)) (HB.out s (List.mem_of_getElem? hs))
     have t1 : IntKind.i64.wrap (p * q) = p * q := by rw [IntKind.wrap_i64]; omega
     have t2 : IntKind.i64.wrap (r * s) = r * s := by rw [IntKind.wrap_i64]; omega
     have HP := Lib.hid (getD_of hp)
     have HQ := Lib.hid (getD_of hq)
     have HR := Lib.hid (getD_of hr)
     have HSS := Lib.hid (getD_of hs)
     have k2 : (0 : Int) ≤ (y : Int) := by omega
     have k3 : (y : Int) < (m : Int) := by omega
     clear hp hq hr hs g1 g2 g3 g4 hk b1 b2
     by_cases he : p * q = r * s
     ·have d1 : (p * q != r * s) = false := by rw [he]; exact bne_self_eq_false _
      have HE := Lib.hid he
      clear he
      go_wp2_with fail
      refine wp_region_noPanic ?_
      refine wp_region_held_drew (S := (fun W => (W.cell? (ad1.add x) = some (.int .i64 p) ∧ W.cell? (ad2.add y) = some (.int .i64 q)) ∧ W.cell? (ad1.add y) = some (.int .i64 r) ∧ W.cell? (ad2.add x) = some (.int .i64 s))) (by kernel_rfl) ?_ (fun hHeld => ?_)
      ·exact HLS.out
      refine takeT 0 hHeld ?_
      (try simp only [Act.put, ly])
      refine takeT 1 hHeld ?_
      (try simp only [Act.put, ly])
      refine takeT 2 hHeld ?_
      (try simp only [Act.put, ly])
      refine takeT 3 hHeld ?_
      (try simp only [Act.put, ly])
      refine takeT 4 hHeld ?_
      (try simp only [Act.put, ly])
      refine takeT 5 hHeld ?_
      (try simp only [Act.put, ly])
      refine takeT 6 hHeld ?_
      (try simp only [Act.put, ly])
      refine takeT 7 hHeld ?_
      (try simp only [Act.put, ly])
      refine takeT 8 hHeld ?_
      (try simp only [Act.put, ly])
      refine takeT 9 hHeld ?_
      (try simp only [Act.put, ly])
      refine takeT 10 hHeld ?_
      (try simp only [Act.put, ly])
      refine takeT 11 hHeld ?_
      (try simp only [Act.put, ly])
      refine takeT 12 hHeld ?_
      (try simp only [Act.put, ly])
      refine takeT 13 hHeld ?_
      (try simp only [Act.put, ly])
      refine takeT 14 hHeld ?_
      (try simp only [Act.put, ly])
      refine takeT 15 hHeld ?_
      (try simp only [Act.put, ly])
      refine takeT 16 hHeld ?_
      (try simp only [Act.put, ly])
      refine takeT 17 hHeld ?_
      (try simp only [Act.put, ly])
      refine takeT 18 hHeld ?_
      (try simp only [Act.put, ly])
      (try rw [d1])
      refine wpAnyH_done (by kernel_rfl) ?_ _
      refine NoPanic.normal ?_
      clear d1 t1 t2
      go_wp2_with fail
      go_roundw
      case rel =>
       refine ⟨y + 1, by omega, by go_num, Lib.hid (fun j hj => ?_), HBY.out.drew⟩
       by_cases e : j = y
       ·subst e
        rw [HP.out, HQ.out, HR.out, HSS.out]; exact HE.out
       ·exact hrow.out j (by omega)
      case measure => simp only [intOf]; omega
     ·have d1 : (p * q != r * s) = true := bne_iff_ne.2 he
      have HN : Hid (¬ alk a b) := fun h => he (by
       have := h x (by have := HM.out; omega) y (by have := HM.out; omega)
       rw [HP.out, HQ.out, HR.out, HSS.out] at this
       exact this)
      clear he
      go_wp2_with fail
      refine wp_region_noPanic ?_
      refine wp_region_held_drew (S := (fun W => (W.cell? (ad1.add x) = some (.int .i64 p) ∧ W.cell? (ad2.add y) = some (.int .i64 q)) ∧ W.cell? (ad1.add y) = some (.int .i64 r) ∧ W.cell? (ad2.add x) = some (.int .i64 s))) (by kernel_rfl) ?_ (fun hHeld => ?_)
      ·exact HLS.out
      refine takeT 0 hHeld ?_
      (try simp only [Act.put, ly])
      refine takeT 1 hHeld ?_
      (try simp only [Act.put, ly])
      refine takeT 2 hHeld ?_
      (try simp only [Act.put, ly])
      refine takeT 3 hHeld ?_
      (try simp only [Act.put, ly])
      refine takeT 4 hHeld ?_
      (try simp only [Act.put, ly])
      refine takeT 5 hHeld ?_
      (try simp only [Act.put, ly])
      refine takeT 6 hHeld ?_
      (try simp only [Act.put, ly])
      refine takeT 7 hHeld ?_
      (try simp only [Act.put, ly])
      refine takeT 8 hHeld ?_
      (try simp only [Act.put, ly])
      refine takeT 9 hHeld ?_
      (try simp only [Act.put, ly])
      refine takeT 10 hHeld ?_
      (try simp only [Act.put, ly])
      refine takeT 11 hHeld ?_
      (try simp only [Act.put, ly])
      refine takeT 12 hHeld ?_
      (try simp only [Act.put, ly])
      refine takeT 13 hHeld ?_
      (try simp only [Act.put, ly])
      refine takeT 14 hHeld ?_
      (try simp only [Act.put, ly])
      refine takeT 15 hHeld ?_
      (try simp only [Act.put, ly])
      refine takeT 16 hHeld ?_
      (try simp only [Act.put, ly])
      refine takeT 17 hHeld ?_
      (try simp only [Act.put, ly])
      refine takeT 18 hHeld ?_
      (try simp only [Act.put, ly])
      (try rw [d1])
      refine wpAnyH_done (by kernel_rfl) ?_ _
      refine NoPanic.normal ?_
      clear d1 t1 t2
      go_wp2_with fail
      go_ret
      exact ⟨Tells.no HN.out, HBY.out.drew⟩
    ·obtain rfl : y = m := by omega
     go_wp2_with fail
     go_roundw
     case rel =>
      refine ⟨x + 1, by omega, by go_num, Lib.hid (fun i hi => ?_), HBY.out⟩
      by_cases e : i = x
      ·subst e; exact hrow.out
      ·exact hall.out i (by omega)
     case measure => simp only [intOf]; omega
  ·obtain rfl : x = m := by omega
   have HY : Hid (alk a b) := fun i hi j hj => hall.out i (by have := HM.out; omega) j (by have := HM.out; omega)
   go_wp2_with fail
   go_ret
   exact ⟨Tells.yes HY.out, HBX.out⟩

theorem gI_zero (a : Int) (h : 0 ≤ a) : gI a 0 = a := by
 unfold gI
 rw [Int.gcd_zero_right]
 omega
theorem gI_step {a b : Int} (ha : 0 ≤ a) (hb : 0 ≤ b) : gI b (Int.tmod a b) = gI a b := by
 obtain ⟨m, rfl⟩ := Int.eq_ofNat_of_zero_le ha
 obtain ⟨n, rfl⟩ := Int.eq_ofNat_of_zero_le hb
 unfold gI
 rw [Int.tmod_eq_emod_of_nonneg ha, ← Int.natCast_emod, Int.gcd_natCast_natCast, Int.gcd_natCast_natCast, Nat.gcd_comm m n, Nat.gcd_comm n (m % n), ← Nat.gcd_rec]
set_option maxRecDepth 100000 in
set_option maxHeartbeats 4000000 in
theorem divisor40_any (w : World) (a b : Int) (ha : 0 ≤ a ∧ a ≤ 9223372036854775807) (hb : 0 ≤ b ∧ b ≤ 9223372036854775807) :
 Calls Tryz.prog 80 #[.int .i64 a, .int .i64 b] w fun e w' => e = .returned (.int .i64 (gI a b)) ∧ Below w.heap.size w w' := by
 obtain ⟨G, hG⟩ : ∃ G, gI a b = G := ⟨_, rfl⟩
 rw [hG]
 have HG := Lib.hid hG
 clear hG
 go_enter Tryz.func80, Tryz.ntmps80
 go_wp2_with fail
 go_loopw [0, 1] (fun p q wr => ∃ (a b : Int), p = .int .i64 a ∧ q = .int .i64 b ∧ 0 ≤ a ∧ a ≤ 9223372036854775807 ∧ 0 ≤ b ∧ b ≤ 9223372036854775807 ∧ Hid (gI a b = G) ∧ Below w.heap.size w wr) (fun _ q _ => (intOf q).toNat)
 case atStart => exact ⟨a, b, rfl, rfl, ha.1, ha.2, hb.1, hb.2, HG, bel⟩
 case round =>
  clear HG
  obtain ⟨a, b, rfl, rfl, a0, a1, b0, b1, HG, hB⟩ := hrel
  obtain ⟨wx, rfl⟩ : ∃ wo : World, wo = wr := ⟨_, rfl⟩
  have HB := Lib.hid hB
  clear hB
  by_cases h0 : b = 0
  ·subst h0
   have d1 : ((0 : Int) != 0) = false := rfl
   have HA : Hid (a = G) := by
    have := HG.out
    rw [gI_zero a a0] at this
    exact this
   clear HG
   go_wp2_with fail
   go_ret
   exact ⟨by rw [HA.out]; rfl, HB.out⟩
  ·have d1 : (b != 0) = true := bne_iff_ne.2 h0
   have HS := Lib.hid (gI_step a0 b0)
   have hr0 : 0 ≤ a.tmod b := by rw [Int.tmod_eq_emod_of_nonneg a0]; exact Int.emod_nonneg a h0
   have hr1 : a.tmod b < b := by rw [Int.tmod_eq_emod_of_nonneg a0]; exact Int.emod_lt_of_pos a (by omega)
   have dz : (b == 0) = false := beq_eq_false_iff_ne.2 h0
   have t1 : IntKind.i64.wrap (a.tmod b) = a.tmod b := by rw [IntKind.wrap_i64]; omega
   go_upto_region 2 with fail
   refine wp_region_noPanic ?_
   refine wp_region_held_drew (S := (fun _ => True)) (by kernel_rfl) ?_ (fun hHeld => ?_)
   ·trivial
   refine takeT 0 hHeld ?_
   (try simp only [Act.put, ly])
   refine takeT 1 hHeld ?_
   (try simp only [Act.put, ly])
   refine takeT 2 hHeld ?_
   (try simp only [Act.put, ly])
   refine takeT 3 hHeld ?_
   (try simp only [Act.put, ly])
   refine takeT 4 hHeld ?_
   (try simp only [Act.put, ly])
   refine takeT 5 hHeld ?_
   (try simp only [Act.put, ly])
   (try rw [t1])
   refine wpAnyH_done (by kernel_rfl) ?_ _
   refine NoPanic.normal ?_
   go_wp2_with fail
   go_roundw
   case rel => exact ⟨b, a.tmod b, rfl, rfl, b0, b1, hr0, by omega, by show _ = _; rw [HS.out]; exact HG.out, HB.out.drew⟩
   case measure => simp only [intOf]; omega
end Go.Proofs.YtdambnieminnfaaGreat

/- Lists of integers in the order of their numbers, plainly. -/
namespace Go.Proofs.YtdambnieminnfaaGreat

def cmpI (x y : Int) : Int := if x < y then -1 else if y < x then 1 else 0
def lexC : List Int → List Int → Int
 | [], [] => 0
 | [], _ :: _ => -1
 | _ :: _, [] => 1
 | a :: l, b :: k => if a < b then -1 else if b < a then 1 else lexC l k
theorem lexC_anti : ∀ a b : List Int, lexC b a = -lexC a b
 | [], [] => rfl
 | [], _ :: _ => rfl
 | _ :: _, [] => rfl
 | a :: l, b :: k => by
   unfold lexC
   by_cases h1 : a < b
   ·rw [if_neg (by omega), if_pos h1, if_pos h1]; rfl
   ·by_cases h2 : b < a
    ·rw [if_pos h2, if_neg h1, if_pos h2]
    ·rw [if_neg h2, if_neg h1, if_neg h1, if_neg h2]; exact lexC_anti l k
theorem lexC_eq : ∀ a b : List Int, lexC a b = 0 → a = b
 | [], [], _ => rfl
 | [], _ :: _, h => by simp [lexC] at h
 | _ :: _, [], h => by simp [lexC] at h
 | a :: l, b :: k, h => by
   unfold lexC at h
   by_cases h1 : a < b
   ·rw [if_pos h1] at h; omega
   ·by_cases h2 : b < a
    ·rw [if_neg h1, if_pos h2] at h; omega
    ·rw [if_neg h1, if_neg h2] at h
     rw [lexC_eq l k h, show a = b by omega]
theorem lexC_trans : ∀ a b c : List Int, lexC a b ≤ 0 → lexC b c ≤ 0 → lexC a c ≤ 0
 | [], [], c, _, h => h
 | [], _ :: _, [], _, _ => by unfold lexC; omega
 | [], _ :: _, _ :: _, _, _ => by unfold lexC; omega
 | _ :: _, [], _, h, _ => by unfold lexC at h; omega
 | _ :: _, _ :: _, [], _, h => by unfold lexC at h; omega
 | a :: l, b :: k, c :: j, h1, h2 => by
   unfold lexC at h1 h2 ⊢
   by_cases e1 : a < b
   ·by_cases e2 : b < c
    ·rw [if_pos (by omega)]; omega
    ·by_cases e3 : c < b
     ·rw [if_neg e2, if_pos e3] at h2; omega
     ·rw [if_pos (by omega)]; omega
   ·by_cases e1' : b < a
    ·rw [if_neg e1, if_pos e1'] at h1; omega
    ·rw [if_neg e1, if_neg e1'] at h1
     by_cases e2 : b < c
     ·rw [if_pos (by omega)]; omega
     ·by_cases e3 : c < b
      ·rw [if_neg e2, if_pos e3] at h2; omega
      ·rw [if_neg e2, if_neg e3] at h2
       rw [if_neg (by omega), if_neg (by omega)]
       exact lexC_trans l k j h1 h2
theorem lexC_cons {a b : Int} {l k : List Int} : lexC (a :: l) (b :: k) = if cmpI a b ≠ 0 then cmpI a b else lexC l k := by
 have e : lexC (a :: l) (b :: k) = if a < b then -1 else if b < a then 1 else lexC l k := rfl
 rw [e]
 unfold cmpI
 by_cases h1 : a < b
 ·rw [if_pos h1, if_pos h1, if_pos (by decide)]
 ·by_cases h2 : b < a
  ·rw [if_neg h1, if_neg h1, if_pos h2, if_pos h2, if_pos (by decide)]
  ·rw [if_neg h1, if_neg h1, if_neg h2, if_neg h2, if_neg (by decide)]
/-- The order by which the lists are sorted. -/
def geL (a b : List Int) : Prop := lexC b a ≤ 0
theorem geL_anti (a b : List Int) (h1 : geL a b) (h2 : geL b a) : a = b := by
 unfold geL at h1 h2
 rw [lexC_anti] at h1
 exact lexC_eq a b (by omega)
theorem geL_trans (a b c : List Int) (h1 : geL a b) (h2 : geL b c) : geL a c := lexC_trans c b a h2 h1
theorem geL_total (a b : List Int) (h : ¬ lexC b a < 0 ) : geL b a := by
 unfold geL
 rw [lexC_anti]; omega
theorem drop_get {a : List Int} {i : Nat} {z : Int} (h : a[i]? = some z) : a.drop i = z :: a.drop (i + 1) := by
 have := (List.getElem?_eq_some_iff.1 h)
 rw [List.drop_eq_getElem_cons this.1, this.2]
end Go.Proofs.YtdambnieminnfaaGreat

/- The law's side of layer 40: slices.Max, Compare, Equal, EqualFunc at lists of integers. -/
namespace Go.Proofs.YtdambnieminnfaaGreat
open Go.RowKit
attribute [local go_sem ↓] Go.wp_at_zero Go.wp_at_succ

set_option maxRecDepth 100000 in
set_option maxHeartbeats 4000000 in
theorem maxI_any (w : World) (v : Value) (l : List Int) (h : IntsV w v l) (hl : 1 ≤ l.length) (hn : ∀ z ∈ l, 0 ≤ z) :
 Calls Tryz.prog 77 #[v] w fun e w' => ∃ M : Int, e = .returned (.int .i64 M) ∧ Hid (M = 0 ↔ ∀ z ∈ l, z = 0) ∧ Below w.heap.size w w' := by
 have H := Lib.hid h
 have HN := Lib.hid hn
 obtain ⟨A1, c1, rfl, -, l1, l2⟩ := h.op
 obtain ⟨m, hm⟩ : ∃ r, l.length = r := ⟨_, rfl⟩
 have HM := Lib.hid hm
 rw [hm] at H l1 hl ⊢
 unfold maxLen at l2
 obtain ⟨z0, hz0⟩ : ∃ z, l[0]? = some z := ⟨_, List.getElem?_eq_getElem (by omega)⟩
 obtain ⟨ad, rfl, hab, g0, -, -⟩ := H.out.at hz0
 rw [addr_zero] at g0
 have hz00 := hn z0 (List.mem_of_getElem? hz0)
 have HZ0 := Lib.hid (getD_of hz0)
 have i0 : 0 < m := by omega
 have i1 : (0 : Int) < (m : Int) := by omega
 have i2 : decide ((m : Int) < 1) = false := decide_eq_false (by omega)
 clear h hn hm hz0
 go_enter Tryz.func77, Tryz.ntmps77
 go_wp2_with fail
 clear g0 i2
 go_loopw [3, 4] (fun M i wr => ∃ (c : Nat) (z : Int), 1 ≤ c ∧ c ≤ m ∧ M = .int .i64 z ∧ i = .int .i64 c ∧ 0 ≤ z ∧ Hid (z = 0 ↔ ∀ j, j < c → l.getD j 0 = 0) ∧ Below w.heap.size w wr) (fun _ i _ => m - (intOf i).toNat)
 case atStart => exact ⟨1, z0, by omega, by omega, rfl, rfl, hz00, Lib.hid ⟨fun h j hj => by (obtain rfl : j = 0 := by omega); rw [HZ0.out]; exact h, fun h => by rw [← HZ0.out]; exact h 0 (by omega)⟩, bel⟩
 case round =>
  obtain ⟨c, z, hc1, hc, rfl, rfl, hz, hall, hB⟩ := hrel
  obtain ⟨wo, rfl⟩ : ∃ wo : World, wo = wr := ⟨_, rfl⟩
  have HB := Lib.hid hB
  have HALL := Lib.hid hall.out
  clear hB hall
  by_cases hlt : c < m
  ·obtain ⟨z1, hz1⟩ : ∃ z, l[c]? = some z := ⟨_, List.getElem?_eq_getElem (by have := HM.out; omega)⟩
   obtain ⟨ad', ea, -, g1, -, -⟩ := H.out.at hz1
   injection ea with ea
   subst ea
   have g2 : wo.cell? (ad.add c) = _ := cell_keep (X := fun _ => False) g1 (by rw [addr_block]; exact hab) id (.of_below HB.out)
   have hz10 := HN.out z1 (List.mem_of_getElem? hz1)
   have HZ1 := Lib.hid (getD_of hz1)
   have k0 : (0 : Int) ≤ (c : Int) := by omega
   have k1 : (c : Int) < (m : Int) := by omega
   clear hz1 g1
   go_wp2_with fail
   go_roundw
   case rel =>
    refine ⟨c + 1, max z z1, by omega, by omega, rfl, by go_num, by omega, Lib.hid ⟨fun h j hj => ?_, fun h => ?_⟩, HB.out⟩
    ·by_cases e : j = c
     ·subst e; rw [HZ1.out]; omega
     ·exact HALL.out.1 (by omega) j (by omega)
    ·have e1 := HALL.out.2 (fun j hj => h j (by omega))
     have e2 := h c (by omega)
     rw [HZ1.out] at e2
     omega
   case measure => simp only [intOf]; omega
  ·obtain rfl : c = m := by omega
   go_wp2_with fail
   go_ret
   refine ⟨z, rfl, ⟨fun h y hy => ?_, fun h => HALL.out.2 (fun j hj => ?_)⟩, HB.out⟩
   ·obtain ⟨i, hi, rfl⟩ := List.getElem_of_mem hy
    have := HALL.out.1 h i (by have := HM.out; omega)
    rw [List.getD_eq_getElem?_getD, List.getElem?_eq_getElem hi] at this
    exact this
   ·have hj' : j < l.length := by have := HM.out; omega
    rw [List.getD_eq_getElem?_getD, List.getElem?_eq_getElem hj']
    exact h _ (List.getElem_mem hj')
set_option maxHeartbeats 2000000 in
theorem cmpInt_any (w : World) (x y : Int) : Calls Tryz.prog 122 #[.int .i64 x, .int .i64 y] w fun e w' => e = .returned (.int .i64 (cmpI x y)) ∧ Below w.heap.size w w' := by
 have nan : ∀ (W : World) (z : Int), Calls Tryz.prog 159 #[.int .i64 z] W fun e w' => e = .returned (.bool false) ∧ Below W.heap.size W w' := fun W z => by
  have d : (z != z) = false := bne_self_eq_false _
  go_enter Tryz.func159, Tryz.ntmps159
  go_wp2_with fail
  go_ret
  exact ⟨rfl, bel⟩
 have NAN := Lib.hid nan
 clear nan
 obtain ⟨R, hR⟩ : ∃ R, cmpI x y = R := ⟨_, rfl⟩
 rw [hR]
 have HR : Hid ((if x < y then (-1 : Int) else if y < x then 1 else 0) = R) := hR
 clear hR
 go_enter Tryz.func122, Tryz.ntmps122
 go_wp2_with fail
 refine (NAN.out _ x).mono ?_
 rintro e w1 ⟨rfl, hb1⟩
 have y1 := hb1.size; (try simp only [zs] at y1)
 go_wp2_with fail
 refine (NAN.out _ y).mono ?_
 rintro e w2 ⟨rfl, hb2⟩
 have y2 := hb2.size; (try simp only [zs] at y2)
 have HB : Hid (Below w.heap.size w w2) := bel
 by_cases h1 : x < y
 ·have d1 : decide (x < y) = true := decide_eq_true h1
  have HL : Hid (R = -1) := by
   have := HR.out
   rw [if_pos h1] at this
   exact this.symm
  clear HR
  go_wp2_with fail
  go_ret
  exact ⟨by rw [HL.out]; rfl, HB.out⟩
 ·have d1 : decide (x < y) = false := decide_eq_false h1
  by_cases h2 : y < x
  ·have d2 : decide (y < x) = true := decide_eq_true h2
   have HL : Hid (R = 1) := by
    have := HR.out
    rw [if_neg h1, if_pos h2] at this
    exact this.symm
   clear HR
   go_wp2_with fail
   go_ret
   exact ⟨by rw [HL.out]; rfl, HB.out⟩
  ·have d2 : decide (y < x) = false := decide_eq_false h2
   have HL : Hid (R = 0) := by
    have := HR.out
    rw [if_neg h1, if_neg h2] at this
    exact this.symm
   clear HR
   go_wp2_with fail
   go_ret
   exact ⟨by rw [HL.out]; rfl, HB.out⟩
set_option maxRecDepth 100000 in
set_option maxHeartbeats 4000000 in
theorem compareI_any (w : World) (v1 v2 : Value) (a b : List Int) (h1 : IntsV w v1 a) (h2 : IntsV w v2 b) :
 Calls Tryz.prog 83 #[v1, v2] w fun e w' => e = .returned (.int .i64 (lexC a b)) ∧ Below w.heap.size w w' := by
 have H1 := Lib.hid h1
 have H2 := Lib.hid h2
 obtain ⟨A1, c1, rfl, -, l1, l2⟩ := h1.op
 obtain ⟨A2, c2, rfl, -, l3, l4⟩ := h2.op
 obtain ⟨m, hm⟩ : ∃ r, a.length = r := ⟨_, rfl⟩
 obtain ⟨n, hn⟩ : ∃ r, b.length = r := ⟨_, rfl⟩
 have HM := Lib.hid hm
 have HN := Lib.hid hn
 rw [hm] at H1 l1 ⊢
 rw [hn] at H2 l3 ⊢
 unfold maxLen at l2 l4
 obtain ⟨R, hR⟩ : ∃ R, lexC a b = R := ⟨_, rfl⟩
 rw [hR]
 have HR := Lib.hid hR
 clear h1 h2 hm hn hR
 go_enter Tryz.func83, Tryz.ntmps83
 go_wp2_with fail
 go_loopw [11] (fun i wr => ∃ (c : Nat), c ≤ m ∧ c ≤ n ∧ i = .int .i64 c ∧ Hid (lexC (a.drop c) (b.drop c) = R) ∧ Below w.heap.size w wr) (fun i _ => m - (intOf i).toNat)
 case atStart => exact ⟨0, by omega, by omega, rfl, by simpa using HR, bel⟩
 case round =>
  clear HR
  obtain ⟨c, hc, hcn, rfl, hlex, hB⟩ := hrel
  obtain ⟨wo, rfl⟩ : ∃ wo : World, wo = wr := ⟨_, rfl⟩
  have HB := Lib.hid hB
  have yo := hB.size
  clear hB
  by_cases hlt : c < m
  ·obtain ⟨x, hx⟩ : ∃ z, a[c]? = some z := ⟨_, List.getElem?_eq_getElem (by have := HM.out; omega)⟩
   obtain ⟨ad1, rfl, hb1, g1, -, -⟩ := H1.out.at hx
   have g1' : wo.cell? (ad1.add c) = _ := cell_keep (X := fun _ => False) g1 (by rw [addr_block]; exact hb1) id (.of_below HB.out)
   have HDA := Lib.hid (drop_get hx)
   have k0 : (0 : Int) ≤ (c : Int) := by omega
   have k1 : (c : Int) < (m : Int) := by omega
   clear hx g1
   by_cases hltn : c < n
   ·obtain ⟨y, hy⟩ : ∃ z, b[c]? = some z := ⟨_, List.getElem?_eq_getElem (by have := HN.out; omega)⟩
    obtain ⟨ad2, rfl, hb2, g2, -, -⟩ := H2.out.at hy
    have g2' : wo.cell? (ad2.add c) = _ := cell_keep (X := fun _ => False) g2 (by rw [addr_block]; exact hb2) id (.of_below HB.out)
    have HDB := Lib.hid (drop_get hy)
    have k2 : (c : Int) < (n : Int) := by omega
    have k3 : decide (n ≤ c) = false := decide_eq_false (by omega)
    have HL : Hid (R = if cmpI x y ≠ 0 then cmpI x y else lexC (a.drop (c + 1)) (b.drop (c + 1))) := by
     have := hlex.out
     rw [HDA.out, HDB.out, lexC_cons] at this
     exact this.symm
    clear hy g2 hlex HDA HDB
    go_wp2_with fail
    refine (cmpInt_any _ x y).mono ?_
    rintro e w2 ⟨rfl, hc2⟩
    have y2 := hc2.size; (try simp only [zs] at y2)
    have HB2 : Hid (Below w.heap.size w w2) := HB.out.trans (hc2.mono (by omega))
    obtain ⟨q, hq⟩ : ∃ q, cmpI x y = q := ⟨_, rfl⟩
    rw [hq] at HL ⊢
    clear hq
    by_cases h0 : q = 0
    ·subst h0
     have HL2 : Hid (lexC (a.drop (c + 1)) (b.drop (c + 1)) = R) := by
      have := HL.out
      rw [if_neg (by decide)] at this
      exact this.symm
     clear HL
     go_wp2_with fail
     go_roundw
     case rel => exact ⟨c + 1, by omega, by omega, by go_num, HL2, HB2.out⟩
     case measure => simp only [intOf]; omega
    ·have d1 : (q != 0) = true := bne_iff_ne.2 h0
     have HL2 : Hid (q = R) := by
      have := HL.out
      rw [if_pos h0] at this
      exact this.symm
     clear HL
     go_wp2_with fail
     go_ret
     exact ⟨by rw [HL2.out]; rfl, HB2.out⟩
   ·have k3 : decide (n ≤ c) = true := decide_eq_true (by omega)
    have HL : Hid (R = 1) := by
     have := hlex.out
     have hb : b.drop c = [] := List.drop_eq_nil_of_le (by have := HN.out; omega)
     rw [HDA.out, hb] at this
     exact this.symm
    clear hlex HDA
    go_wp2_with fail
    go_ret
    exact ⟨by rw [HL.out]; rfl, HB.out⟩
  ·obtain rfl : c = m := by omega
   have ha : a.drop c = [] := List.drop_eq_nil_of_le (by have := HM.out; omega)
   by_cases hcn2 : c < n
   ·have HL : Hid (R = -1) := by
     have := hlex.out
     obtain ⟨y, hy⟩ : ∃ z, b[c]? = some z := ⟨_, List.getElem?_eq_getElem (by have := HN.out; omega)⟩
     rw [ha, drop_get hy] at this
     exact this.symm
    have k3 : decide (c < n) = true := decide_eq_true (by omega)
    clear hlex ha
    go_wp2_with fail
    go_ret
    exact ⟨by rw [HL.out]; rfl, HB.out⟩
   ·have HL : Hid (R = 0) := by
     have := hlex.out
     have hb : b.drop c = [] := List.drop_eq_nil_of_le (by have := HN.out; omega)
     rw [ha, hb] at this
     exact this.symm
    have k3 : decide (c < n) = false := decide_eq_false (by omega)
    clear hlex ha
    go_wp2_with fail
    go_ret
    exact ⟨by rw [HL.out]; rfl, HB.out⟩
end Go.Proofs.YtdambnieminnfaaGreat

