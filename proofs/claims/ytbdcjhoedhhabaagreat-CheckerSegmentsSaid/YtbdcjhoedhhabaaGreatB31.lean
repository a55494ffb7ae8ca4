/- Contracts of the functions that the statements reach, part 31. -/
import Derived.Test.YtbdcjhoedhhabaaGreatRows
import Derived.Test.YtbdcjhoedhhabaaGreatB26
import Derived.Test.YtbdcjhoedhhabaaGreatB29
import Derived.Test.YtbdcjhoedhhabaaGreatB30
set_option linter.unusedSimpArgs false
set_option linter.unusedVariables false

/- bucket.Prove. -/
namespace Go.Proofs.YtbdcjhoedhhabaaGreat
open Go.RowKit
attribute [local go_sem ↓] Go.wp_at_zero Go.wp_at_succ

set_option maxRecDepth 100000 in
set_option maxHeartbeats 16000000 in
theorem bprove_any (w : World) (v u : Value) (l : List (Int × Int)) (L : List (List Int)) (k cost : Int) (h : Tims w v l) (hL : IMat w u L) (hk0 : -9223372036854775808 ≤ k) (hk1 : k ≤ 9223372036854775807) :
 Calls Tryz.prog 48 #[v, .int .i64 k, u, .int .i64 cost] w fun e w' => (∃ r : Int, e = .returned (.int .i64 r) ∧ Hid (PrCode (ldC l) l.length k L cost (bc l) r)) ∧ Below w.heap.size w w' := by
 have H := Lib.hid h
 have HL := Lib.hid hL
 obtain ⟨A, cap, rfl, h, l1, l2⟩ := h.op
 obtain ⟨B, cap2, rfl, hL, l3, l4⟩ := hL.op
 clear h hL
 obtain ⟨n, hn⟩ : ∃ n, l.length = n := ⟨_, rfl⟩
 have HN := Lib.hid hn
 have H2 : Hid (Tims w (.slice A n cap) l) := by have h9 := H.out; rw [hn] at h9; exact h9
 obtain ⟨m, hm⟩ : ∃ m, L.length = m := ⟨_, rfl⟩
 have HM := Lib.hid hm
 have H3 : Hid (IMat w (.slice B m cap2) L) := by have h9 := HL.out; rw [hm] at h9; exact h9
 obtain ⟨c0, hc0⟩ : ∃ c, ldC l = c := ⟨_, rfl⟩
 have HC0 := Lib.hid hc0
 rw [hc0, hn, hm]
 rw [hn] at l1
 rw [hm] at l3
 clear hn hm hc0 H HL
 go_enter Tryz.func48, Tryz.ntmps48
 go_wp2_with fail
 refine (bcheck_any _ _ l (H2.out.keep kp)).mono ?_
 rintro e w1 ⟨he, hb1⟩
 rw [HC0.out] at he
 subst he
 have y1 := hb1.size; (try simp only [zs] at y1)
 by_cases z0 : c0 = 0
 case neg =>
  have d1 : (c0 == 0) = false := beq_eq_false_iff_ne.2 z0
  have d2 : (c0 != 0) = true := bne_iff_ne.2 z0
  have HV := Lib.hid (PrCode.first (n := n) (k := k) (L := L) (cost := cost) (c := bc l) z0)
  clear z0
  go_wp2_with fail
  go_ret
  exact ⟨⟨_, rfl, HV⟩, bel⟩
 subst z0
 have hz := ldC_zero HC0.out
 have HBS : Hid (BSmall l) := ⟨hz.2.1, hz.2.2⟩
 have hn1 : 1 ≤ n := by have := HN.out; omega
 have hn2 : n ≤ 64 := by have := HN.out; omega
 clear hz
 have HA : Hid (∃ a, A = some a) := by
  obtain ⟨_, _, e, _, _, h5, _⟩ := H2.out
  injection e with e1 e2 e3
  obtain ⟨a, ha, -⟩ := h5 (by rw [HN.out]; omega)
  exact ⟨a, by rw [e1]; exact ha⟩
 obtain ⟨al, rfl⟩ := HA.out
 clear HA
 by_cases h0 : k < 1
 ·have HV := Lib.hid (PrCode.second (n := n) (k := k) (L := L) (cost := cost) (c := bc l) (TbCode.one (.inl h0) rfl) (show (3 : Int) ≠ 0 by decide))
  have d1 : decide (k < 1) = true := decide_eq_true h0
  clear h0
  go_wp2_with fail
  go_ret
  exact ⟨⟨_, rfl, HV⟩, bel⟩
 have d1 : decide (k < 1) = false := decide_eq_false h0
 by_cases h1 : 32 < k
 ·have HV := Lib.hid (PrCode.second (n := n) (k := k) (L := L) (cost := cost) (c := bc l) (TbCode.one (.inr h1) rfl) (show (3 : Int) ≠ 0 by decide))
  have d2 : decide (32 < k) = true := decide_eq_true h1
  clear h0 h1
  go_wp2_with fail
  go_ret
  exact ⟨⟨_, rfl, HV⟩, bel⟩
 have d2 : decide (32 < k) = false := decide_eq_false h1
 have HK : Hid (¬ (k < 1 ∨ 32 < k)) := by rintro (h | h); exact h0 h; exact h1 h
 have hk2 : 1 ≤ k := by omega
 have hk3 : k ≤ 32 := by omega
 have q1 : IntKind.i64.wrap (k + 1) = k + 1 := by rw [IntKind.wrap_i64]; omega
 obtain ⟨n1, hnn⟩ : ∃ n1, n + 1 = n1 := ⟨_, rfl⟩
 have HN1 : Hid (n1 = n + 1) := hnn.symm
 have q2 : IntKind.i64.wrap ((n : Int) + 1) = (n1 : Int) := by rw [IntKind.wrap_i64]; omega
 have hn1b : n1 ≤ 65 := by omega
 clear h0 h1 hnn
 by_cases h2 : (m : Int) = k + 1
 case neg =>
  have HV := Lib.hid (PrCode.second (n := n) (k := k) (L := L) (cost := cost) (c := bc l) (TbCode.two HK.out (fun h => h2 (by rw [← HM.out]; exact h.1)) rfl) (show (2 : Int) ≠ 0 by decide))
  have d3 : ((m : Int) == k + 1) = false := beq_eq_false_iff_ne.2 h2
  have d4 : ((m : Int) != k + 1) = true := bne_iff_ne.2 h2
  clear h2
  go_wp2_with fail
  go_ret
  exact ⟨⟨_, rfl, HV⟩, bel⟩
 have d3 : ((m : Int) == k + 1) = true := beq_iff_eq.2 h2
 have d4 : ((m : Int) != k + 1) = false := by simp only [bne, d3]; rfl
 have HQ := Lib.hid h2
 have hm33 : m ≤ 33 := by omega
 clear h2
 go_wp2_with fail
 go_loopw [37] (fun i wr => ∃ (c : Nat), c ≤ m ∧ i = .int .i64 c ∧ Hid (∀ (i : Nat) (r : List Int), i < c → L[i]? = some r → r.length = n1) ∧ Below w.heap.size w wr) (fun i _ => m - (intOf i).toNat)
 case atStart => exact ⟨0, by omega, rfl, Lib.hid (fun i l hi => absurd hi (by omega)), bel⟩
 case round =>
  obtain ⟨c, hc, rfl, hall, hB⟩ := hrel
  obtain ⟨wo, rfl⟩ : ∃ wo : World, wo = wr := ⟨_, rfl⟩
  have y5 := hB.size; (try simp only [zs] at y5)
  by_cases hlt : c < m
  ·obtain ⟨r, he⟩ : ∃ l, L[c]? = some l := ⟨_, List.getElem?_eq_getElem (by rw [HM.out]; exact hlt)⟩
   obtain ⟨a, D, d, rfl, hab, hcell, -, l5, l6⟩ := (H3.out.keep (.of_below hB)).at he
   have HE := Lib.hid he
   obtain ⟨rn, hrn⟩ : ∃ q, r.length = q := ⟨_, rfl⟩
   have HRN := Lib.hid hrn
   rw [hrn] at hcell l5
   have k0 : (0 : Int) ≤ (c : Int) := by omega
   have k1 : (c : Int) < (m : Int) := by omega
   clear he hrn
   by_cases z1 : rn = n1
   case neg =>
    have HV := Lib.hid (PrCode.second (n := n) (k := k) (L := L) (cost := cost) (c := bc l) (TbCode.two HK.out (fun h => z1 (by have h8 := h.2 r (List.mem_of_getElem? HE.out); have := HN1.out; rw [HRN.out] at h8; omega)) rfl) (show (2 : Int) ≠ 0 by decide))
    have d5 : ((rn : Int) == (n1 : Int)) = false := beq_eq_false_iff_ne.2 (by omega)
    have d6 : ((rn : Int) != (n1 : Int)) = true := bne_iff_ne.2 (by omega)
    clear z1
    go_wp2_with fail
    go_ret
    exact ⟨⟨_, rfl, HV⟩, bel⟩
   have d5 : ((rn : Int) == (n1 : Int)) = true := beq_iff_eq.2 (by omega)
   have d6 : ((rn : Int) != (n1 : Int)) = false := by simp only [bne, d5]; rfl
   have HNX : Hid (∀ (i : Nat) (r : List Int), i < c + 1 → L[i]? = some r → r.length = n1) := fun i r' hi hr' => by
    by_cases hh : i < c
    ·exact hall.out i r' hh hr'
    ·obtain rfl : i = c := by omega
     rw [HE.out] at hr'
     injection hr' with hr'
     subst hr'
     rw [HRN.out]; exact z1
   clear z1
   go_wp2_with fail
   go_roundw
   case rel => exact ⟨c + 1, by omega, by go_num, HNX, bel⟩
   case measure => simp only [intOf]; omega
  ·obtain rfl : c = m := by omega
   have HF : Hid (TbForm L k n) := ⟨by rw [HM.out]; exact HQ.out, fun r hr => by
    obtain ⟨i, hi, rfl⟩ := List.getElem_of_mem hr
    have := hall.out i _ (by rw [← HM.out]; exact hi) (List.getElem?_eq_getElem hi)
    have := HN1.out
    omega⟩
   clear hall
   go_wp2_with fail
   go_loopw [49] (fun i wr => ∃ (p : Nat), p ≤ c ∧ i = .int .i64 p ∧ Hid (∀ (i : Nat) (r : List Int), i < p → L[i]? = some r → ∀ x ∈ r, 0 ≤ x ∧ x ≤ 1152921504606846976) ∧ Below w.heap.size w wr) (fun i _ => c - (intOf i).toNat)
   case atStart => exact ⟨0, by omega, rfl, Lib.hid (fun i l hi => absurd hi (by omega)), bel⟩
   case round =>
    obtain ⟨p, hp, rfl, hall, hB1⟩ := hrel
    obtain ⟨wx, rfl⟩ : ∃ wx : World, wx = wr := ⟨_, rfl⟩
    have y6 := hB1.size; (try simp only [zs] at y6)
    by_cases hlt2 : p < c
    ·obtain ⟨r, he⟩ : ∃ l, L[p]? = some l := ⟨_, List.getElem?_eq_getElem (by rw [HM.out]; exact hlt2)⟩
     obtain ⟨a, D, d, rfl, hab, hcell, hnum, l5, l6⟩ := (H3.out.keep (.of_below hB1)).at he
     have HE := Lib.hid he
     obtain ⟨rn, hrn⟩ : ∃ q, r.length = q := ⟨_, rfl⟩
     have HRN := Lib.hid hrn
     rw [hrn] at hcell l5 hnum
     have HNUM := Lib.hid hnum
     have hrb : rn ≤ 65 := by have h8 := HF.out.2 r (List.mem_of_getElem? he); have := HN1.out; omega
     have k0 : (0 : Int) ≤ (p : Int) := by omega
     have k1 : (p : Int) < (c : Int) := by omega
     clear he hrn hnum
     go_wp2_with fail
     go_loopw [55] (fun i wr => ∃ (j : Nat), j ≤ rn ∧ i = .int .i64 j ∧ Hid (∀ (j' : Nat) (x : Int), j' < j → r[j']? = some x → 0 ≤ x ∧ x ≤ 1152921504606846976) ∧ Below w.heap.size w wr ∧ Below wx.heap.size wx wr) (fun i _ => rn - (intOf i).toNat)
     case atStart => exact ⟨0, by omega, rfl, Lib.hid (fun i x hi => absurd hi (by omega)), bel, bel⟩
     case round =>
      obtain ⟨j, hj, rfl, hall2, hB2, hB3⟩ := hrel
      obtain ⟨wp, rfl⟩ : ∃ wp : World, wp = wr := ⟨_, rfl⟩
      have y7 := hB2.size; (try simp only [zs] at y7)
      have y8 := hB3.size; (try simp only [zs] at y8)
      by_cases hlt3 : j < rn
      ·obtain ⟨x, hx⟩ : ∃ x, r[j]? = some x := ⟨_, List.getElem?_eq_getElem (by rw [HRN.out]; exact hlt3)⟩
       obtain ⟨b, rfl, hbb, hcx, zb1, zb2⟩ := (HNUM.out.keep (.of_below hB3)).at hx
       have HX := Lib.hid hx
       have k2 : (0 : Int) ≤ (j : Int) := by omega
       have k3 : (j : Int) < (rn : Int) := by omega
       have HBAD : Hid (¬ (0 ≤ x ∧ x ≤ 1152921504606846976) → PrCode 0 n k L cost (bc l) 3) := fun hq => PrCode.second (TbCode.three HK.out HF.out (fun hok => hq (hok r (List.mem_of_getElem? HE.out) x (List.mem_of_getElem? HX.out))) rfl) (by decide)
       have HNEXT : Hid ((0 ≤ x ∧ x ≤ 1152921504606846976) → ∀ (j' : Nat) (x : Int), j' < j + 1 → r[j']? = some x → 0 ≤ x ∧ x ≤ 1152921504606846976) := fun hq j' x' hj' hx' => by
        by_cases hh : j' < j
        ·exact hall2.out j' x' hh hx'
        ·obtain rfl : j' = j := by omega
         rw [HX.out] at hx'
         injection hx' with hx'
         subst hx'
         exact hq
       clear hx
       by_cases z2 : x < 0
       ·have HV := Lib.hid (HBAD.out (fun h => by omega))
        have d7 : decide (x < 0) = true := decide_eq_true z2
        clear z2
        go_wp2_with fail
        go_ret
        exact ⟨⟨_, rfl, HV⟩, bel⟩
       have d7 : decide (x < 0) = false := decide_eq_false z2
       by_cases z3 : 1152921504606846976 < x
       ·have HV := Lib.hid (HBAD.out (fun h => by omega))
        have d8 : decide (1152921504606846976 < x) = true := decide_eq_true z3
        clear z2 z3
        go_wp2_with fail
        go_ret
        exact ⟨⟨_, rfl, HV⟩, bel⟩
       have d8 : decide (1152921504606846976 < x) = false := decide_eq_false z3
       have HNX := Lib.hid (HNEXT.out ⟨by omega, by omega⟩)
       clear z2 z3
       go_wp2_with fail
       go_roundw
       case rel => exact ⟨j + 1, by omega, by go_num, HNX, bel, bel⟩
       case measure => simp only [intOf]; omega
      ·obtain rfl : j = rn := by omega
       have HNX : Hid (∀ (i : Nat) (r : List Int), i < p + 1 → L[i]? = some r → ∀ x ∈ r, 0 ≤ x ∧ x ≤ 1152921504606846976) := fun i r' hi hr' x hx => by
        by_cases hh : i < p
        ·exact hall.out i r' hh hr' x hx
        ·obtain rfl : i = p := by omega
         rw [HE.out] at hr'
         injection hr' with hr'
         subst hr'
         obtain ⟨q, hq, rfl⟩ := List.getElem_of_mem hx
         exact hall2.out q _ (by rw [← HRN.out]; exact hq) (List.getElem?_eq_getElem hq)
       go_wp2_with fail
       go_roundw
       case rel => exact ⟨p + 1, by omega, by go_num, HNX, bel⟩
       case measure => simp only [intOf]; omega
    ·obtain rfl : p = c := by omega
     have HT : Hid (TbRange L) := fun r hr => by
      obtain ⟨i, hi, rfl⟩ := List.getElem_of_mem hr
      exact hall.out i _ (by rw [← HM.out]; exact hi) (List.getElem?_eq_getElem hi)
     have HS : Hid (TbCode L k n 0) := TbCode.four HK.out HF.out HT.out rfl
     clear hall
     obtain ⟨kn, hkn⟩ : ∃ kn : Nat, k = (kn : Int) := ⟨k.toNat, by omega⟩
     have HKN := Lib.hid hkn
     have hkm : p = kn + 1 := by have := HQ.out; omega
     have HKM := Lib.hid hkm
     obtain ⟨b, b0, d0, eB, hbb, hb0, g1, g2, g3, g4⟩ := H3.out.entry HF.out.2 (j := kn) (i := n) (by rw [HM.out]; omega) (Nat.le_refl _)
     subst eB
     have HW : Hid (∀ W, Below w.heap.size w W → W.cell? (b.add kn) = some (.slice (some b0) n1 d0) ∧ W.cell? (b0.add n) = some (.int .i64 (ent L kn n))) := fun W hW => by
      rw [HN1.out]
      exact ⟨cell_keep (X := fun _ => False) g1 (by rw [add_block]; exact hbb) id (.of_below hW), cell_keep (X := fun _ => False) g2 (by rw [add_block]; exact hb0) id (.of_below hW)⟩
     rw [← HN1.out] at g3
     clear g1 g2 hkn hkm
     go_wp2_with fail
     refine (bholds_any _ al n cap l _ L k (H2.out.keep kp) HN.out HBS.out (H3.out.keep kp) HF.out HT.out hk2 hk3).mono ?_
     rintro e w5 ⟨⟨b9, rfl, hb9⟩, hb5⟩
     have y9 := hb5.size; (try simp only [zs] at y9)
     cases b9
     ·have HV : Hid (PrCode 0 n k L cost (bc l) 13) := PrCode.third HS.out (HoCode.no (fun h => by
       have := hb9.out.2 ⟨h.1, h.2.2⟩
       cases this))
      clear hb9
      go_wp2_with fail
      go_ret
      exact ⟨⟨_, rfl, HV⟩, bel⟩
     have HOK := Lib.hid (hb9.out.1 rfl)
     clear hb9
     have hx := HW.out w5 bel
     obtain ⟨x, hxe⟩ : ∃ q, ent L kn n = q := ⟨_, rfl⟩
     rw [hxe] at hx
     have HXE : Hid (ent L (L.length - 1) n = x) := by show _ = _; rw [← hxe, HM.out, HKM.out, Nat.add_sub_cancel]
     obtain ⟨f1, f2⟩ := hx
     have p1 : (kn : Int) < (p : Int) := by have := HKM.out; omega
     have p2 : (n : Int) < (n1 : Int) := by have := HN1.out; omega
     have p3 : (0 : Int) ≤ (kn : Int) := by omega
     have p4 : (0 : Int) ≤ (n : Int) := by omega
     have HVX : Hid (∀ r, HoCode (SegOk L L.length n cost (bc l)) r → PrCode 0 n k L cost (bc l) r) := fun r hr => PrCode.third HS.out hr
     clear hxe d1 d2 d3 d4 q1
     by_cases z4 : x < cost
     ·have HV := Lib.hid (HVX.out 13 (HoCode.no (fun h => by have := h.2.1; rw [HXE.out] at this; omega)))
      have d9 : decide (x < cost) = true := decide_eq_true z4
      clear z4
      have hkn := HKN.out
      clear HKN
      subst hkn
      go_wp2_with fail
      go_ret
      exact ⟨⟨_, rfl, HV⟩, bel⟩
     ·have HV := Lib.hid (HVX.out 0 (HoCode.yes ⟨HOK.out.1, by rw [HXE.out]; omega, HOK.out.2⟩))
      have d9 : decide (x < cost) = false := decide_eq_false z4
      clear z4
      have hkn := HKN.out
      clear HKN
      subst hkn
      go_wp2_with fail
      go_ret
      exact ⟨⟨_, rfl, HV⟩, bel⟩

/- merge.intervals. -/

/-- The costs from h on, as far as p. -/
def rowH (L : List (List Int)) (h p n1 : Nat) : List Int := (List.range n1).map fun j => if h ≤ j ∧ j < p then mc L h j else 0
/-- All costs. -/
def ivM (L : List (List Int)) (n1 : Nat) : List (List Int) := (List.range n1).map fun h => rowH L h n1 n1
theorem rowH_len (L : List (List Int)) (h p n1 : Nat) : (rowH L h p n1).length = n1 := by simp [rowH]
theorem rowH_get (L : List (List Int)) (h p : Nat) {n1 j : Nat} (hj : j < n1) : (rowH L h p n1)[j]? = some (if h ≤ j ∧ j < p then mc L h j else 0) := by
 unfold rowH
 rw [List.getElem?_map, List.getElem?_range hj]
 rfl
theorem rowH_start (L : List (List Int)) (h n1 : Nat) : rowH L h h n1 = List.replicate n1 0 := by
 apply List.ext_getElem?
 intro i
 by_cases hi : i < n1
 ·rw [rowH_get L h h hi, List.getElem?_replicate, if_pos hi, if_neg (by omega)]
 ·rw [List.getElem?_eq_none (by rw [rowH_len]; omega), List.getElem?_eq_none (by simp; omega)]
theorem rowH_set (L : List (List Int)) {h p n1 : Nat} (hp : p < n1) (hh : h ≤ p) : (rowH L h p n1).set p (mc L h p) = rowH L h (p + 1) n1 := by
 apply List.ext_getElem?
 intro i
 by_cases hi : i < n1
 ·by_cases e : i = p
  ·subst e
   rw [List.getElem?_set_self (by rw [rowH_len]; exact hi), rowH_get L _ _ hi, if_pos (by omega)]
  ·rw [List.getElem?_set_ne (fun h => e h.symm), rowH_get L _ _ hi, rowH_get L _ _ hi]
   by_cases h' : h ≤ i ∧ i < p
   ·rw [if_pos h', if_pos (by omega)]
   ·rw [if_neg h', if_neg (by omega)]
 ·rw [List.getElem?_eq_none (by rw [List.length_set, rowH_len]; omega), List.getElem?_eq_none (by rw [rowH_len]; omega)]
theorem ivM_len (L : List (List Int)) (n1 : Nat) : (ivM L n1).length = n1 := by simp [ivM]
theorem ivM_get (L : List (List Int)) {n1 h : Nat} (hh : h < n1) : (ivM L n1)[h]? = some (rowH L h n1 n1) := by
 unfold ivM
 rw [List.getElem?_map, List.getElem?_range hh]
 rfl
theorem ivM_ent (L : List (List Int)) {n1 h i : Nat} (hh : h ≤ i) (hi : i < n1) : ent (ivM L n1) h i = mc L h i := by
 unfold ent
 rw [ivM_get L (by omega : h < n1)]
 simp only [Option.getD_some]
 rw [rowH_get L h n1 hi, if_pos ⟨hh, hi⟩]
 rfl
theorem mc_range {L : List (List Int)} (hok : LsOk L) (h i : Nat) (hi : i ≤ 32) : 0 ≤ mc L h i ∧ mc L h i ≤ 33554432 := by
 have := mbest_range hok h (i - h) (i - h)
 unfold mc
 omega
theorem rowH_range {L : List (List Int)} (hok : LsOk L) (h p : Nat) {n1 : Nat} (hn : n1 ≤ 33) : ∀ z ∈ rowH L h p n1, 0 ≤ z ∧ z ≤ 33554432 := by
 intro z hz
 unfold rowH at hz
 obtain ⟨j, hj, rfl⟩ := List.mem_map.1 hz
 have hj := List.mem_range.1 hj
 by_cases hc : h ≤ j ∧ j < p
 ·rw [if_pos hc]; exact mc_range hok h j (by omega)
 ·rw [if_neg hc]; omega
theorem ivM_range {L : List (List Int)} (hok : LsOk L) {n1 : Nat} (hn : n1 ≤ 33) (h i : Nat) : 0 ≤ ent (ivM L n1) h i ∧ ent (ivM L n1) h i ≤ 33554432 := by
 unfold ent
 by_cases hh : h < n1
 ·rw [ivM_get L hh]
  simp only [Option.getD_some]
  by_cases hi : i < n1
  ·rw [rowH_get L h n1 hi]
   exact rowH_range hok h n1 hn _ (List.mem_of_getElem? (rowH_get L h n1 hi))
  ·rw [List.getElem?_eq_none (by rw [rowH_len]; omega)]
   simp
 ·rw [List.getElem?_eq_none (l := ivM L n1) (by rw [ivM_len]; omega)]
  simp

/-- The block of the rows: those made, then nil. -/
def ivC (gs : List Nat) (n1 : Nat) : Array Value := (gs.map (fun g => Value.slice (some ⟨g, 0, none⟩) n1 n1) ++ List.replicate (n1 - gs.length) (Value.slice none 0 0)).toArray
theorem ivC_at {gs : List Nat} {n1 i g : Nat} (h : gs[i]? = some g) : (ivC gs n1)[i]? = some (.slice (some ⟨g, 0, none⟩) n1 n1) := by
 have hi := (List.getElem?_eq_some_iff.1 h).1
 unfold ivC
 rw [List.getElem?_toArray, List.getElem?_append_left (by simpa using hi), List.getElem?_map, h]
 rfl
theorem ivC_next {gs : List Nat} {n1 : Nat} (h : gs.length < n1) : (ivC gs n1)[gs.length]? = some (.slice none 0 0) := by
 unfold ivC
 rw [List.getElem?_toArray, List.getElem?_append_right (by simp), List.length_map, Nat.sub_self, List.getElem?_replicate, if_pos (by omega)]
theorem ivC_set {gs : List Nat} {n1 : Nat} (h : gs.length < n1) (g : Nat) : (ivC gs n1).setIfInBounds gs.length (.slice (some ⟨g, 0, none⟩) n1 n1) = ivC (gs ++ [g]) n1 := by
 unfold ivC
 rw [List.setIfInBounds_toArray]
 congr 1
 have e : n1 - gs.length = (n1 - (gs ++ [g]).length) + 1 := by simp; omega
 rw [e, List.replicate_succ]
 have e2 : (gs.map (fun g => Value.slice (some ⟨g, 0, none⟩) n1 n1)).length = gs.length := by simp
 rw [List.set_append_right _ _ (by rw [e2]; exact Nat.le_refl _), e2, Nat.sub_self, List.set_cons_zero, List.map_append, List.append_assoc]
 rfl
/-- make([][]int, n). -/
theorem rowS_nils {w : World} {base g n : Nat} (h : w.ownsRow base 27 1 (.slice (some ⟨g, 0, none⟩) n n) n (List.replicate n (.slice none 0 0))) : Loc w g 27 (ivC [] n) := by
 have hl := h.1
 rcases h.2 with ⟨h', _⟩ | ⟨g', cap', cur, h', _, hg, _, _, hsz, htake⟩
 ·simp at h'
 ·simp only [Value.slice.injEq, Option.some.injEq, Addr.mk.injEq, and_true, true_and] at h'
  obtain ⟨rfl, rfl⟩ := h'
  have : cur.toList = List.replicate n (.slice none 0 0) := by
   rw [← htake, List.take_of_length_le (by simp; omega)]
  have e : ivC [] n = (List.replicate n (Value.slice none 0 0)).toArray := by
   unfold ivC
   rw [List.map_nil, List.nil_append]
   rfl
  unfold Loc
  rw [hg, e, ← this]
/-- The rows are the matrix. -/
theorem ivC_imat {w : World} {G n1 : Nat} {L : List (List Int)} {gs : List Nat} (hG : Loc w G 27 (ivC gs n1)) (hl : gs.length = n1) (hok : LsOk L) (hn : n1 ≤ 33) (hr : ∀ (i g : Nat), gs[i]? = some g → RowI w g (rowH L i n1 n1)) : IMat w (.slice (some ⟨G, 0, none⟩) n1 n1) (ivM L n1) := by
 refine ⟨_, n1, by rw [ivM_len], by rw [ivM_len]; exact Nat.le_refl _, by unfold maxLen; omega, fun _ => ⟨_, rfl, hG.lt, fun i l he => ?_⟩⟩
 have hi : i < n1 := by have := (List.getElem?_eq_some_iff.1 he).1; rw [ivM_len] at this; exact this
 rw [ivM_get L hi] at he
 injection he with he
 subst he
 obtain ⟨g, hg⟩ : ∃ g, gs[i]? = some g := ⟨_, List.getElem?_eq_getElem (by omega)⟩
 refine ⟨some ⟨g, 0, none⟩, n1, ?_, ?_⟩
 ·rw [add0, Loc.cell hG, ivC_at hg, rowH_len]
 ·have h9 := IntsO.vals (w := w) (u := .slice (some ⟨g, 0, none⟩) n1 n1) (zs := rowH L i n1 n1) ⟨g, by rw [rowH_len], hr i g hg, fun z hz => by have := rowH_range hok i n1 hn z hz; omega⟩ (by rw [rowH_len]; unfold maxLen; omega)
  rw [rowH_len]
  exact h9

set_option maxRecDepth 100000 in
set_option maxHeartbeats 8000000 in
theorem mintervals_any (w : World) (v : Value) (L : List (List Int)) (hL : IMat w v L) (hf : LsForm L) (hok : LsOk L) (hm : L.length ≤ 32) :
 Calls Tryz.prog 141 #[v] w fun e w' => (∃ v', e = .returned v' ∧ Hid (IMat w' v' (ivM L (L.length + 1)))) ∧ Below w.heap.size w w' := by
 have H := Lib.hid hL
 have HF := Lib.hid hf
 have HOK := Lib.hid hok
 obtain ⟨A, cap, rfl, hL, l1, l2⟩ := hL.op
 obtain ⟨n, hml⟩ : ∃ m, L.length = m := ⟨_, rfl⟩
 have HM := Lib.hid hml
 have H2 : Hid (IMat w (.slice A n cap) L) := by have h9 := H.out; rw [hml] at h9; exact h9
 rw [hml] at l1 hm ⊢
 clear hf hok hL hml H
 obtain ⟨n1, hn1⟩ : ∃ n1, n + 1 = n1 := ⟨_, rfl⟩
 rw [hn1]
 have HN1 : Hid (n1 = n + 1) := hn1.symm
 have hn33 : n1 ≤ 33 := by omega
 have k1 : IntKind.i64.wrap ((n : Int) + 1) = (n1 : Int) := by rw [IntKind.wrap_i64]; omega
 clear hn1
 go_enter Tryz.func141, Tryz.ntmps141
 go_wp2_with (at_make; refine wpList_makeN _ rfl _ _ rfl Tryz.underlying82 info_ints rfl w.heap.size n1 rfl rfl (by first | rfl | exact k1) (by first | rfl | exact k1) (by omega) (by unfold maxLen; omega) (Nat.le_refl _) ?_)
 intro w1 hrow hg1
 have HB1 : Hid (Below w.heap.size w w1) := below_none (Below.refl _ _) hg1 (Nat.le_refl _)
 have hB1 := HB1.out
 have y1 := hB1.size; (try simp only [zs] at y1)
 have HG1 : Hid (Loc w1 w.heap.size 27 (ivC [] n1)) := rowS_nils hrow
 clear hrow hg1
 go_wp2_with fail
 go_loopw [14] (fun i wr => ∃ (h : Nat) (gs : List Nat), h ≤ n1 ∧ i = .int .i64 h ∧ Hid (gs.length = h) ∧ Hid (Loc wr w.heap.size 27 (ivC gs n1)) ∧ Hid (∀ (i g : Nat), gs[i]? = some g → RowI wr g (rowH L i n1 n1)) ∧ Below w.heap.size w wr) (fun i _ => n1 - (intOf i).toNat)
 case atStart => exact ⟨0, [], by omega, rfl, rfl, HG1, Lib.hid (fun i g h => by simp at h), HB1.out⟩
 case round =>
  clear HG1
  obtain ⟨h, gs, hh, rfl, hgl, hG, hrows, hB⟩ := hrel
  obtain ⟨wx, rfl⟩ : ∃ wx : World, wx = wr := ⟨_, rfl⟩
  have y5 := hB.size; (try simp only [zs] at y5)
  by_cases hlt : h < n1
  ·have k2 : (h : Int) < (n1 : Int) := by omega
   have k3 : (0 : Int) ≤ (h : Int) := by omega
   have hhn : h ≤ n := by have := HN1.out; omega
   have HGS : Hid (∀ (i g : Nat), gs[i]? = some g → g < wx.heap.size) := fun i g hg => RowI.lt (hrows.out i g hg)
   have hG0 : Hid (w.heap.size < wx.heap.size) := Loc.lt hG.out
   go_wp2_with (at_make; refine wpList_makeN _ rfl _ _ rfl Tryz.underlying27 info_int1 rfl wx.heap.size n1 rfl rfl (by first | rfl | exact k1) (by first | rfl | exact k1) (by omega) (by unfold maxLen; omega) (Nat.le_refl _) ?_)
   intro w7 hrow hg7
   have hB7 : Below wx.heap.size wx w7 := below_none (Below.refl _ _) hg7 (Nat.le_refl _)
   have HR7 := rowI_zeros hrow
   have HG7 : Loc w7 w.heap.size 27 (ivC gs n1) := Loc.below hG.out hB7
   have hB7w : Below w.heap.size w w7 := hB.trans (hB7.mono (by omega))
   have g0 : w7.cell? ⟨w.heap.size, h, none⟩ = some (.slice none 0 0) := by rw [Loc.cell HG7, ← hgl.out]; exact ivC_next (by rw [hgl.out]; exact hlt)
   have gf : ∀ i, w7.frozen? ⟨w.heap.size, i, none⟩ = false := Loc.frz HG7
   have gl : w.heap.size < w7.heap.size := Loc.lt HG7
   have HST : Hid (∀ W, w7.setCell ⟨w.heap.size, h, none⟩ (.slice (some ⟨wx.heap.size, 0, none⟩) n1 n1) = W → RowI W wx.heap.size (rowH L h h n1) ∧ Loc W w.heap.size 27 (ivC (gs ++ [wx.heap.size]) n1) ∧ (∀ (i g : Nat), gs[i]? = some g → RowI W g (rowH L i n1 n1)) ∧ Below w.heap.size w W) := fun W hW => by
    subst hW
    refine ⟨?_, ?_, fun i g hg => ?_, hB7w.setCell (Nat.le_refl _) _⟩
    ·rw [rowH_start]
     exact Loc.far HR7 (p := ⟨w.heap.size, h, none⟩) (loc_ne HR7 HG7 (by decide)) _
    ·rw [← ivC_set (by rw [hgl.out]; exact hlt), hgl.out]
     exact Loc.set HG7 h _
    ·have h8 : RowI w7 g (rowH L i n1 n1) := RowI.below (hrows.out i g hg) hB7
     exact Loc.far h8 (p := ⟨w.heap.size, h, none⟩) (loc_ne h8 HG7 (by decide)) _
   have HCE : Hid ((ivC (gs ++ [wx.heap.size]) n1)[h]? = some (.slice (some ⟨wx.heap.size, 0, none⟩) n1 n1)) := ivC_at (by rw [← hgl.out]; simp)
   clear hrow hg7 hB7 HR7 HG7 hB7w
   go_wp2_with fail
   have HS8 := Lib.hid (HST.out _ rfl)
   clear g0 gf gl
   go_loopw [6] (fun i wr => ∃ (p : Nat), h ≤ p ∧ p ≤ n1 ∧ i = .int .i64 p ∧ Hid (RowI wr wx.heap.size (rowH L h p n1)) ∧ Hid (Loc wr w.heap.size 27 (ivC (gs ++ [wx.heap.size]) n1)) ∧ Hid (∀ (i g : Nat), gs[i]? = some g → RowI wr g (rowH L i n1 n1)) ∧ Below w.heap.size w wr) (fun i _ => n1 - (intOf i).toNat)
   case atStart => exact ⟨h, Nat.le_refl _, by omega, rfl, Lib.hid HS8.out.1, Lib.hid HS8.out.2.1, Lib.hid HS8.out.2.2.1, HS8.out.2.2.2⟩
   case round =>
    clear HS8 HST
    obtain ⟨p, hp1, hp2, rfl, hROW, hG2, hrows2, hB2⟩ := hrel
    obtain ⟨wq, rfl⟩ : ∃ wq : World, wq = wr := ⟨_, rfl⟩
    have y6 := hB2.size; (try simp only [zs] at y6)
    by_cases hlt2 : p ≤ n
    ·have d1 : decide ((p : Int) ≤ (n : Int)) = true := decide_eq_true (by omega)
     have d1' : decide (p ≤ n) = true := decide_eq_true hlt2
     have hpn : p < n1 := by have := HN1.out; omega
     have k4 : (0 : Int) ≤ (p : Int) := by omega
     have k5 : (p : Int) < (n1 : Int) := by omega
     have HLS : Hid (∀ W, Below wq.heap.size wq W → W.cell? ⟨w.heap.size, h, none⟩ = some (.slice (some ⟨wx.heap.size, 0, none⟩) n1 n1)) := fun W hW => by rw [Loc.cell (Loc.below hG2.out hW), HCE.out]
     obtain ⟨X, hX⟩ : ∃ X, mc L h p = X := ⟨_, rfl⟩
     have HX := Lib.hid hX
     have HPUT : Hid ((rowH L h p n1).set p X = rowH L h (p + 1) n1) := by show _ = _; rw [← hX]; exact rowH_set L hpn hp1
     clear hX
     go_wp2_with fail
     refine wp_region_noPanic ?_
     refine wp_region_heldK (k := 10) (S := (fun W => W.cell? ⟨w.heap.size, h, none⟩ = some (.slice (some ⟨wx.heap.size, 0, none⟩) n1 n1))) (by kernel_rfl) ?_ (fun hHeld => ?_)
     ·exact HLS.out _ (Below.refl _ _).drew
     refine tkK 0 ?_
     (try simp only [Act.put, ly])
     refine tkK 1 ?_
     (try simp only [Act.put, ly])
     refine tkK 2 ?_
     (try simp only [Act.put, ly])
     refine tkK 3 ?_
     (try simp only [Act.put, ly])
     refine tkK 4 ?_
     (try simp only [Act.put, ly])
     refine tkK 5 ?_
     (try simp only [Act.put, ly])
     refine tkK 6 ?_
     (try simp only [Act.put, ly])
     refine tkK 7 ?_
     (try simp only [Act.put, ly])
     refine wpAnyK_ready (rs := [8]) (by kernel_rfl) (by simp) ?_
     refine AllReadyK.cons rfl (fun KK hKK => ?_) AllReadyK.nil
     go_simp
     refine (minterval_any _ _ L h p (H2.out.keep kp) HF.out HOK.out (by rw [HM.out]; exact hm) hp1 (by rw [HM.out]; exact hlt2)).mono ?_
     rintro e w3 ⟨he, hb3⟩
     rw [HX.out] at he
     subst he
     have hb4 : Below wq.heap.size wq w3 := ((Below.refl _ _).drew).trans hb3
     have y7 := hb4.size; (try simp only [zs] at y7)
     have HB4 := Lib.hid hb4
     (try go_wp2_with fail)
     refine hKK.out _ _ ?_ (fun hHeld => ?_)
     ·(try dsimp only)
      exact HLS.out _ hb4
     clear hKK KK
     (try simp only [Act.put, ly])
     refine tkK 9 ?_
     (try simp only [Act.put, ly])
     have R3 : RowI w3 wx.heap.size (rowH L h p n1) := RowI.below hROW.out HB4.out
     have HR3 := Lib.hid R3
     have g0 : w3.cell? ⟨wx.heap.size, p, none⟩ = some (.int .i64 0) := by have h9 := RowI.cell R3 (rowH_get L h p hpn); rw [if_neg (by omega)] at h9; exact h9
     have gf : ∀ i, w3.frozen? ⟨wx.heap.size, i, none⟩ = false := Loc.frz R3
     have gl : wx.heap.size < w3.heap.size := RowI.lt R3
     clear R3
     refine wpAnyK_ready (rs := [10]) (by kernel_rfl) (by simp) ?_
     refine AllReadyK.last (by kernel_rfl) rfl (fun KK hKK => ?_) AllReadyK.nil
     go_simp
     refine hKK.out _ _ ?_
     clear hKK KK
     (try simp only [Act.put, ly])
     refine wpAnyK_done (by kernel_rfl) ?_ _
     refine NoPanic.normal ?_
     clear g0 gf gl
     have HEND : Hid (∀ W, w3.setCell ⟨wx.heap.size, p, none⟩ (.int .i64 X) = W → RowI W wx.heap.size (rowH L h (p + 1) n1) ∧ Loc W w.heap.size 27 (ivC (gs ++ [wx.heap.size]) n1) ∧ (∀ (i g : Nat), gs[i]? = some g → RowI W g (rowH L i n1 n1)) ∧ Below w.heap.size w W) := fun W hW => by
      subst hW
      have h1 := hG0.out
      refine ⟨?_, ?_, fun i g hg => ?_, (hB2.trans (HB4.out.mono (by omega))).setCell (by show w.heap.size ≤ wx.heap.size; omega) _⟩
      ·rw [← HPUT.out]
       exact RowI.set HR3.out p X
      ·have h8 := Loc.below hG2.out HB4.out
       exact Loc.far h8 (p := ⟨wx.heap.size, p, none⟩) (Ne.symm (loc_ne HR3.out h8 (by decide))) _
      ·have h8 := RowI.below (hrows2.out i g hg) HB4.out
       exact Loc.far h8 (p := ⟨wx.heap.size, p, none⟩) (Nat.ne_of_lt (HGS.out i g hg)) _
     have HS9 := Lib.hid (HEND.out _ rfl)
     clear HEND
     go_wp2_with fail
     go_roundw
     case rel => exact ⟨p + 1, by omega, by omega, by go_num, Lib.hid HS9.out.1, Lib.hid HS9.out.2.1, Lib.hid HS9.out.2.2.1, HS9.out.2.2.2⟩
     case measure => simp only [intOf]; omega
    ·have d1 : decide ((p : Int) ≤ (n : Int)) = false := decide_eq_false (by omega)
     have d1' : decide (p ≤ n) = false := decide_eq_false hlt2
     obtain rfl : p = n1 := by have := HN1.out; omega
     have HNX : Hid (∀ (i g : Nat), (gs ++ [wx.heap.size])[i]? = some g → RowI wq g (rowH L i p p)) := fun i g hg => by
      by_cases hi : i < gs.length
      ·rw [List.getElem?_append_left hi] at hg
       exact hrows2.out i g hg
      ·have h9 := (List.getElem?_eq_some_iff.1 hg).1
       simp only [List.length_append, List.length_singleton] at h9
       obtain rfl : i = gs.length := by omega
       rw [List.getElem?_append_right (Nat.le_refl _), Nat.sub_self] at hg
       injection hg with hg
       subst hg
       rw [hgl.out]
       exact hROW.out
     have HLEN : Hid ((gs ++ [wx.heap.size]).length = h + 1) := by show _ = _; rw [List.length_append, hgl.out]; rfl
     go_wp2_with fail
     go_roundw
     case rel => exact ⟨h + 1, _, by omega, by go_num, HLEN, hG2, HNX, bel⟩
     case measure => simp only [intOf]; omega
  ·obtain rfl : h = n1 := by omega
   have HE : Hid (IMat wx (.slice (some ⟨w.heap.size, 0, none⟩) h h) (ivM L h)) := ivC_imat hG.out hgl.out HOK.out hn33 hrows.out
   go_wp2_with fail
   go_ret
   exact ⟨⟨_, rfl, HE⟩, hB⟩
end Go.Proofs.YtbdcjhoedhhabaaGreat

