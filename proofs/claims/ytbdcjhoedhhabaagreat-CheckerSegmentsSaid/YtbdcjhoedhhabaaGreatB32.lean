/- Contracts of the functions that the statements reach, part 32. -/
import Derived.Test.YtbdcjhoedhhabaaGreatRows
import Derived.Test.YtbdcjhoedhhabaaGreatB21
import Derived.Test.YtbdcjhoedhhabaaGreatB22
import Derived.Test.YtbdcjhoedhhabaaGreatB28
import Derived.Test.YtbdcjhoedhhabaaGreatB29
import Derived.Test.YtbdcjhoedhhabaaGreatB31
set_option linter.unusedSimpArgs false
set_option linter.unusedVariables false

/- checker.Merges. -/
namespace Go.Proofs.YtbdcjhoedhhabaaGreat
open Go.RowKit
attribute [local go_sem ↓] Go.wp_at_zero Go.wp_at_succ

set_option maxRecDepth 100000 in
set_option maxHeartbeats 8000000 in
theorem kmerges_any (w : World) (v u : Value) (l : List (List Int)) (L : List (List Int)) (k cost : Int) (h : IMat w v l) (hL : IMat w u L) (hk0 : -9223372036854775808 ≤ k) (hk1 : k ≤ 9223372036854775807) :
 Calls Tryz.prog 49 #[v, .int .i64 k, u, .int .i64 cost] w fun e w' => (∃ r : Int, e = .returned (.int .i64 r) ∧ Hid (PrCode (lsC l) l.length k L cost (mc l) r)) ∧ Below w.heap.size w w' := by
 have H := Lib.hid h
 have HL := Lib.hid hL
 obtain ⟨A, cap, rfl, h, l1, l2⟩ := h.op
 obtain ⟨B, cap2, rfl, hL, l3, l4⟩ := hL.op
 clear h hL
 obtain ⟨m, hm⟩ : ∃ m, l.length = m := ⟨_, rfl⟩
 have HM := Lib.hid hm
 have H2 : Hid (IMat w (.slice A m cap) l) := by have h9 := H.out; rw [hm] at h9; exact h9
 obtain ⟨c0, hc0⟩ : ∃ c, lsC l = c := ⟨_, rfl⟩
 have HC0 := Lib.hid hc0
 rw [hc0, hm]
 rw [hm] at l1
 clear hm H hc0
 have L1 := made1 w #[.slice A m cap] 90
 go_enter Tryz.func49, Tryz.ntmps49
 go_wp2_with fail
 refine (klosses_any _ _ l (H2.out.keep kp)).mono ?_
 rintro e w1 ⟨he, hb1⟩
 rw [HC0.out] at he
 subst he
 have y1 := hb1.size; (try simp only [zs] at y1)
 obtain ⟨e1, f1, l1'⟩ := L1.all (w' := w1)
 by_cases z0 : c0 = 0
 case neg =>
  have d1 : (c0 == 0) = false := beq_eq_false_iff_ne.2 z0
  have d2 : (c0 != 0) = true := bne_iff_ne.2 z0
  have HV := Lib.hid (PrCode.first (n := m) (k := k) (L := L) (cost := cost) (c := mc l) z0)
  clear z0
  go_wp2_with fail
  go_ret
  exact ⟨⟨_, rfl, HV⟩, bel⟩
 subst z0
 have hz := lsC_zero HC0.out
 have HLF : Hid (LsForm l) := hz.2.2.1
 have HLO : Hid (LsOk l) := hz.2.2.2
 have hm1 : 1 ≤ m := by have := HM.out; omega
 have hm2 : m ≤ 32 := by have := HM.out; omega
 clear hz
 go_wp2_with fail
 refine (table_any _ _ L k m (HL.out.keep kp) hk0 hk1 (by omega)).mono ?_
 rintro e w2 ⟨⟨s, rfl, hs⟩, hb2⟩
 have y2 := hb2.size; (try simp only [zs] at y2)
 clear e1 f1 l1'
 obtain ⟨e1, f1, l1'⟩ := L1.all (w' := w2)
 by_cases z1 : s = 0
 case neg =>
  have d1 : (s == 0) = false := beq_eq_false_iff_ne.2 z1
  have d2 : (s != 0) = true := bne_iff_ne.2 z1
  have HV := Lib.hid (PrCode.second (cost := cost) (c := mc l) hs.out z1)
  clear z1
  go_wp2_with fail
  go_ret
  exact ⟨⟨_, rfl, HV⟩, bel⟩
 subst z1
 have ht := hs.out.zero
 have HT := Lib.hid ht
 have ht1 := ht.1
 have ht2 := ht.2.1
 clear ht
 go_wp2_with fail
 refine (kholds_any _ _ L k cost m 135 #[.pointer (some ⟨w.heap.size, 0, none⟩)] (mc l) (HL.out.keep kp) HT.out.2.2.1 HT.out.2.2.2 ht1 ht2 (by omega) (enters Tryz.func135 (by kernel_rfl) (by kernel_rfl)) (fun W h i hW hh hi => kmerge1_any W _ w.heap.size l h i (H2.out.keep kp) (Loc.c 0 (L1.to (w' := W))) (by first | exact (L1.to (w' := W)).lt | omega) HLF.out HLO.out (by rw [HM.out]; exact hm2) hh (by rw [HM.out]; exact hi)) (fun h i _ hi => by have := mbest_range HLO.out h (i - h) (i - h); unfold mc; omega)).mono ?_
 rintro e w3 ⟨⟨r, rfl, hr⟩, hb3⟩
 have y3 := hb3.size; (try simp only [zs] at y3)
 have HV := Lib.hid (PrCode.third hs.out hr.out)
 clear hr hs
 go_wp2_with fail
 go_ret
 exact ⟨⟨_, rfl, HV⟩, bel⟩

/- merge.Check. -/

set_option maxRecDepth 100000 in
set_option maxHeartbeats 8000000 in
theorem mcheck_any (w : World) (v : Value) (L : List (List Int)) (h : IMat w v L) :
 Calls Tryz.prog 136 #[v] w fun e w' => e = .returned (.int .i64 (lsC L)) ∧ Below w.heap.size w w' := by
 have H := Lib.hid h
 obtain ⟨A, cap, rfl, h, l1, l2⟩ := h.op
 have lm : L.length ≤ 9223372036854775807 := by unfold maxLen at l2; omega
 clear h
 obtain ⟨m, hm⟩ : ∃ m, L.length = m := ⟨_, rfl⟩
 rw [hm] at l1 lm
 have HM := Lib.hid hm
 have H2 : Hid (IMat w (.slice A m cap) L) := by have h9 := H.out; rw [hm] at h9; exact h9
 rw [hm]
 obtain ⟨R, hR⟩ : ∃ R, lsC L = R := ⟨_, rfl⟩
 rw [hR]
 have HR := Lib.hid hR
 clear hm hR H
 have L1 := made1 w #[.slice A m cap] 90
 by_cases h0 : m = 0
 ·subst h0
  have HE : Hid (R = 1) := by rw [← HR.out]; exact lsC_one HM.out
  go_enter Tryz.func136, Tryz.ntmps136
  go_wp2_with fail
  go_ret
  exact ⟨by first | rfl | (rw [HE.out]; rfl) | rw [HE.out], bel⟩
 have q1 : ((m : Int) == 0) = false := beq_eq_false_iff_ne.2 (by omega)
 have N0 : Hid (L.length ≠ 0) := by show _ ≠ _; rw [HM.out]; exact h0
 by_cases h1 : 32 < m
 ·have HE : Hid (R = 4) := by rw [← HR.out]; exact lsC_four N0.out (by rw [HM.out]; exact h1)
  have q2 : decide ((32 : Int) < (m : Int)) = true := decide_eq_true (by omega)
  go_enter Tryz.func136, Tryz.ntmps136
  go_wp2_with fail
  go_ret
  exact ⟨by first | rfl | (rw [HE.out]; rfl) | rw [HE.out], bel⟩
 have q2 : decide ((32 : Int) < (m : Int)) = false := decide_eq_false (by omega)
 have N1 : Hid (¬ 32 < L.length) := by show ¬ _; rw [HM.out]; exact h1
 have hm32 : m ≤ 32 := by omega
 clear h0 h1
 go_enter Tryz.func136, Tryz.ntmps136
 go_wp2_with fail
 refine (containsLo_any _ 265 #[.pointer (some ⟨w.heap.size, 0, none⟩)] (fun l => l.length ≠ m) _ L (H2.out.keep kp) (enters Tryz.func265 (by kernel_rfl) (by kernel_rfl)) (fun W B c l hW hl _ => mcheck1_any W B A l.length c w.heap.size m cap (Loc.c 0 (L1.to (w' := W))))).mono ?_
 rintro e w1 ⟨⟨b, rfl, hb⟩, hb1⟩
 have y1 := hb1.size; (try simp only [zs] at y1)
 obtain ⟨e1, f1, l1'⟩ := L1.all (w' := w1)
 cases b
 case true =>
  have HE : Hid (R = 2) := by
   rw [← HR.out]
   exact lsC_two N0.out N1.out (fun hf => by
    obtain ⟨l, hl, hn⟩ := hb.out.1 rfl
    exact hn (by rw [hf l hl, HM.out]))
  clear hb
  go_wp2_with fail
  go_ret
  exact ⟨by first | rfl | (rw [HE.out]; rfl) | rw [HE.out], bel⟩
 have HF : Hid (LsForm L) := fun l hl => Classical.byContradiction fun hn => by
  have := hb.out.2 ⟨l, hl, by rw [← HM.out]; exact hn⟩
  cases this
 clear hb
 go_wp2_with fail
 go_loopw [18] (fun i wr => ∃ (c : Nat), c ≤ m ∧ i = .int .i64 c ∧ Hid (∀ (i : Nat) (l : List Int), i < c → L[i]? = some l → ∀ (j : Nat) (x : Int), l[j]? = some x → (0 ≤ x ∧ x ≤ 1048576) ∧ (i = j → x = 0)) ∧ Below w.heap.size w wr) (fun i _ => m - (intOf i).toNat)
 case atStart => exact ⟨0, by omega, rfl, Lib.hid (fun i l hi => absurd hi (by omega)), bel⟩
 case round =>
  obtain ⟨c, hc, rfl, hall, hB⟩ := hrel
  obtain ⟨wo, rfl⟩ : ∃ wo : World, wo = wr := ⟨_, rfl⟩
  have y5 := hB.size; (try simp only [zs] at y5)
  clear e1 f1 l1'
  by_cases hlt : c < m
  ·obtain ⟨l, he⟩ : ∃ l, L[c]? = some l := ⟨_, List.getElem?_eq_getElem (by rw [HM.out]; exact hlt)⟩
   obtain ⟨a, D, d, rfl, hab, hcell, hnum, l3, l4⟩ := (H2.out.keep (.of_below hB)).at he
   have HE := Lib.hid he
   have HNUM := Lib.hid hnum
   have k0 : (0 : Int) ≤ (c : Int) := by omega
   have k1 : (c : Int) < (m : Int) := by omega
   obtain ⟨n, hn⟩ : ∃ n, l.length = n := ⟨_, rfl⟩
   have HN := Lib.hid hn
   rw [hn] at hcell hnum l3 HNUM
   have hnm : n ≤ 32 := by rw [← hn, HF.out l (List.mem_of_getElem? he), HM.out]; exact hm32
   clear he hnum hn
   have hnm2 : n = m := by rw [← HN.out, HF.out l (List.mem_of_getElem? HE.out), HM.out]
   have HN2 : Hid (l.length = m) := by show _ = _; rw [HN.out]; exact hnm2
   subst hnm2
   obtain ⟨x, hx⟩ : ∃ x, l[c]? = some x := ⟨_, List.getElem?_eq_getElem (by rw [HN.out]; exact hlt)⟩
   obtain ⟨b, rfl, hbb, hcx, zb1, zb2⟩ := HNUM.out.at hx
   have HX := Lib.hid hx
   clear hx
   have HBAD : Hid (¬ (∀ (j : Nat) (x : Int), l[j]? = some x → (0 ≤ x ∧ x ≤ 1048576) ∧ (c = j → x = 0)) → R = 3) := fun hq => by
    rw [← HR.out]
    exact lsC_three N0.out N1.out HF.out (fun hok => hq (fun j x hx => hok c l HE.out j x hx))
   by_cases z3 : x = 0
   case neg =>
    have HE3 : Hid (R = 3) := HBAD.out (fun h => z3 ((h c x HX.out).2 rfl))
    have d4 : (x == 0) = false := beq_eq_false_iff_ne.2 z3
    have d5 : (x != 0) = true := bne_iff_ne.2 z3
    clear z3
    go_wp2_with fail
    go_ret
    exact ⟨by first | rfl | (rw [HE3.out]; rfl) | rw [HE3.out], bel⟩
   have d4 : (x == 0) = true := beq_iff_eq.2 z3
   have d5 : (x != 0) = false := by simp only [bne, d4]; rfl
   have HZ := Lib.hid z3
   clear z3
   go_wp2_with fail
   refine (containsZ_any _ 266 #[] (fun x => x < 0 ∨ 1048576 < x) _ l HNUM.out (enters Tryz.func266 (by kernel_rfl) (by kernel_rfl)) (fun W z hW hz => mcheck2_any W z)).mono ?_
   rintro e w2 ⟨⟨b2, rfl, hb⟩, hb2⟩
   have y2 := hb2.size; (try simp only [zs] at y2)
   cases b2
   ·have HNX : Hid (∀ (i : Nat) (l' : List Int), i < c + 1 → L[i]? = some l' → ∀ (j : Nat) (x : Int), l'[j]? = some x → (0 ≤ x ∧ x ≤ 1048576) ∧ (i = j → x = 0)) := fun i l' hi hl' j' x' hx => by
     by_cases hh : i < c
     ·exact hall.out i l' hh hl' j' x' hx
     ·obtain rfl : i = c := by omega
      rw [HE.out] at hl'
      injection hl' with hl'
      subst hl'
      refine ⟨Classical.byContradiction fun hn => ?_, fun hij => ?_⟩
      ·have := hb.out.2 ⟨x', List.mem_of_getElem? hx, by omega⟩
       cases this
      ·subst hij
       rw [HX.out] at hx
       injection hx with hx
       rw [← hx]; exact HZ.out
    clear hb
    go_wp2_with fail
    go_roundw
    case rel => exact ⟨c + 1, by omega, by go_num, HNX, bel⟩
    case measure => simp only [intOf]; omega
   ·have HE3 : Hid (R = 3) := HBAD.out (fun h => by
     obtain ⟨y, hy, hq⟩ := hb.out.1 rfl
     obtain ⟨j, hj⟩ := List.getElem?_of_mem hy
     have := (h j y hj).1
     omega)
    clear hb
    go_wp2_with fail
    go_ret
    exact ⟨by first | rfl | (rw [HE3.out]; rfl) | rw [HE3.out], bel⟩
  ·obtain rfl : c = m := by omega
   have HV : Hid (R = 0) := by
    rw [← HR.out]
    exact lsC_ok N0.out N1.out HF.out (fun i l hl j x hx => hall.out i l (by rw [← HM.out]; exact (List.getElem?_eq_some_iff.1 hl).1) hl j x hx)
   go_wp2_with fail
   go_ret
   exact ⟨by first | rfl | (rw [HV.out]; rfl) | rw [HV.out], hB⟩
end Go.Proofs.YtbdcjhoedhhabaaGreat

/- Answers that tell, settled (as in Nl5, which serves layer 8). -/
namespace Go.Proofs.YtbdcjhoedhhabaaGreat
open Go.RowKit
theorem Tells.eq {P : Prop} {e : Ending} {b : Bool} (h : Tells P e) (hb : b = true ↔ P) : e = .returned (.bool b) := by
 obtain ⟨c, rfl, hc⟩ := h
 have : c = b := by
  have h1 := hc.out.trans hb.symm
  cases c <;> cases b <;> simp_all
 rw [this]
theorem tell (P : Prop) : ∃ b : Bool, Hid (b = true ↔ P) := by
 rcases Classical.em P with h | h
 ·exact ⟨true, fun _ => h, fun _ => rfl⟩
 ·exact ⟨false, fun h' => (by cases h'), fun h' => absurd h' h⟩
end Go.Proofs.YtbdcjhoedhhabaaGreat

/- merge.ProveOrdered. Printed by gen21.py. -/
namespace Go.Proofs.YtbdcjhoedhhabaaGreat
open Go.RowKit
attribute [local go_sem ↓] Go.wp_at_zero Go.wp_at_succ

set_option maxRecDepth 100000 in
set_option maxHeartbeats 16000000 in
theorem mprove_any (w : World) (v u : Value) (l : List (List Int)) (L : List (List Int)) (k cost : Int) (h : IMat w v l) (hL : IMat w u L) (hk0 : -9223372036854775808 ≤ k) (hk1 : k ≤ 9223372036854775807) :
 Calls Tryz.prog 50 #[v, .int .i64 k, u, .int .i64 cost] w fun e w' => (∃ r : Int, e = .returned (.int .i64 r) ∧ Hid (PrCode (lsC l) l.length k L cost (mc l) r)) ∧ Below w.heap.size w w' := by
 have H := Lib.hid h
 have HL := Lib.hid hL
 obtain ⟨A, cap, rfl, h, l1, l2⟩ := h.op
 obtain ⟨B, cap2, rfl, hL, l3, l4⟩ := hL.op
 clear h hL
 obtain ⟨n, hn⟩ : ∃ n, l.length = n := ⟨_, rfl⟩
 have HN := Lib.hid hn
 have H2 : Hid (IMat w (.slice A n cap) l) := by have h9 := H.out; rw [hn] at h9; exact h9
 obtain ⟨m, hm⟩ : ∃ m, L.length = m := ⟨_, rfl⟩
 have HM := Lib.hid hm
 have H3 : Hid (IMat w (.slice B m cap2) L) := by have h9 := HL.out; rw [hm] at h9; exact h9
 obtain ⟨c0, hc0⟩ : ∃ c, lsC l = c := ⟨_, rfl⟩
 have HC0 := Lib.hid hc0
 rw [hc0, hn, hm]
 rw [hn] at l1
 rw [hm] at l3
 clear hn hm hc0 H HL
 go_enter Tryz.func50, Tryz.ntmps50
 go_wp2_with fail
 refine (mcheck_any _ _ l (H2.out.keep kp)).mono ?_
 rintro e w1 ⟨he, hb1⟩
 rw [HC0.out] at he
 subst he
 have y1 := hb1.size; (try simp only [zs] at y1)
 by_cases z0 : c0 = 0
 case neg =>
  have d1 : (c0 == 0) = false := beq_eq_false_iff_ne.2 z0
  have d2 : (c0 != 0) = true := bne_iff_ne.2 z0
  have HV := Lib.hid (PrCode.first (n := n) (k := k) (L := L) (cost := cost) (c := mc l) z0)
  clear z0
  go_wp2_with fail
  go_ret
  exact ⟨⟨_, rfl, HV⟩, bel⟩
 subst z0
 have hz := lsC_zero HC0.out
 have HLF : Hid (LsForm l) := hz.2.2.1
 have HLO : Hid (LsOk l) := hz.2.2.2
 have hn1 : 1 ≤ n := by have := HN.out; omega
 have hn2 : n ≤ 32 := by have := HN.out; omega
 clear hz
 have LB := made1 w1 #[.int .i64 (n : Int)] 3
 go_wp2_with fail
 refine (mgroups_any _ k).mono ?_
 rintro e w2 ⟨he, hb2⟩
 have y2 := hb2.size; (try simp only [zs] at y2)
 by_cases hk : k < 1 ∨ 32 < k
 ·have he := he.eq (b := false) ⟨fun h => (by cases h), fun h => absurd hk h⟩
  subst he
  have HV := Lib.hid (PrCode.second (n := n) (k := k) (L := L) (cost := cost) (c := mc l) (TbCode.one hk rfl) (show (3 : Int) ≠ 0 by decide))
  clear hk
  go_wp2_with fail
  go_ret
  exact ⟨⟨_, rfl, HV⟩, bel⟩
 have he := he.eq (b := true) ⟨fun _ => hk, fun _ => rfl⟩
 subst he
 have HK := Lib.hid hk
 have hk2 : 1 ≤ k := by omega
 have hk3 : k ≤ 32 := by omega
 have q1 : IntKind.i64.wrap (k + 1) = k + 1 := by rw [IntKind.wrap_i64]; omega
 clear hk
 by_cases h2 : (m : Int) = k + 1
 case neg =>
  have HV := Lib.hid (PrCode.second (n := n) (k := k) (L := L) (cost := cost) (c := mc l) (TbCode.two HK.out (fun h => h2 (by rw [← HM.out]; exact h.1)) rfl) (show (2 : Int) ≠ 0 by decide))
  have d3 : ((m : Int) == k + 1) = false := beq_eq_false_iff_ne.2 h2
  have d4 : ((m : Int) != k + 1) = true := bne_iff_ne.2 h2
  clear h2
  go_wp2_with fail
  go_ret
  exact ⟨⟨_, rfl, HV⟩, bel⟩
 have d3 : ((m : Int) == k + 1) = true := beq_iff_eq.2 h2
 have d4 : ((m : Int) != k + 1) = false := by simp only [bne, d3]; rfl
 have HQ := Lib.hid h2
 have hm33 : m ≤ 33 := by omega
 clear h2
 go_wp2_with fail
 refine (containsSe_any _ 138 #[.pointer (some ⟨w1.heap.size, 0, none⟩)] (fun l => (l.length : Int) ≠ (n : Int) + 1) _ L (H3.out.keep kp) (enters Tryz.func138 (by kernel_rfl) (by kernel_rfl)) (fun W A c l hW hl _ => mprove1_any W A l.length c w1.heap.size n (Loc.c 0 (LB.to (w' := W))) (by obtain ⟨_, _, e, _, e1, e2⟩ := hl.op; injection e; subst_vars; unfold maxLen at e2; omega) (by omega) (by omega))).mono ?_
 rintro e w3 ⟨⟨b, rfl, hb⟩, hb3⟩
 have y3 := hb3.size; (try simp only [zs] at y3)
 cases b
 case true =>
  have HV : Hid (PrCode 0 n k L cost (mc l) 2) := PrCode.second (TbCode.two HK.out (fun h => by
   obtain ⟨r, hr, hq⟩ := hb.out.1 rfl
   exact hq (h.2 r hr)) rfl) (by decide)
  clear hb
  go_wp2_with fail
  go_ret
  exact ⟨⟨_, rfl, HV⟩, bel⟩
 have HF : Hid (TbForm L k n) := ⟨by rw [HM.out]; exact HQ.out, fun r hr => Classical.byContradiction fun hq => by
  have := hb.out.2 ⟨r, hr, hq⟩
  cases this⟩
 clear hb
 go_wp2_with fail
 go_loopw [37] (fun i wr => ∃ (c : Nat), c ≤ m ∧ i = .int .i64 c ∧ Hid (∀ (i : Nat) (l : List Int), i < c → L[i]? = some l → ∀ x ∈ l, 0 ≤ x ∧ x ≤ 1152921504606846976) ∧ Hid (Loc wr w1.heap.size 3 #[.int .i64 (n : Int)]) ∧ Below w.heap.size w wr) (fun i _ => m - (intOf i).toNat)
 case atStart => exact ⟨0, by omega, rfl, Lib.hid (fun i l hi => absurd hi (by omega)), Lib.hid LB.to, bel⟩
 case round =>
  clear LB
  obtain ⟨c, hc, rfl, hall, hLB, hB⟩ := hrel
  obtain ⟨wo, rfl⟩ : ∃ wo : World, wo = wr := ⟨_, rfl⟩
  have y5 := hB.size; (try simp only [zs] at y5)
  by_cases hlt : c < m
  ·obtain ⟨r, he⟩ : ∃ l, L[c]? = some l := ⟨_, List.getElem?_eq_getElem (by rw [HM.out]; exact hlt)⟩
   obtain ⟨a, D, d, rfl, hab, hcell, hnum, l5, l6⟩ := (H3.out.keep (.of_below hB)).at he
   have HE := Lib.hid he
   have HNUM := Lib.hid hnum
   have k0 : (0 : Int) ≤ (c : Int) := by omega
   have k1 : (c : Int) < (m : Int) := by omega
   clear he hnum
   go_wp2_with fail
   refine (containsZ_any _ 139 #[] (fun x => x < 0 ∨ 1152921504606846976 < x) _ r HNUM.out (enters Tryz.func139 (by kernel_rfl) (by kernel_rfl)) (fun W z hW hz => mprove2_any W z)).mono ?_
   rintro e w4 ⟨⟨b, rfl, hb⟩, hb4⟩
   have y4 := hb4.size; (try simp only [zs] at y4)
   cases b
   ·have HGD : Hid (∀ x ∈ r, 0 ≤ x ∧ x ≤ 1152921504606846976) := fun x hx => Classical.byContradiction fun hq => by
     have := hb.out.2 ⟨x, hx, by omega⟩
     cases this
    have HNX : Hid (∀ (i : Nat) (l : List Int), i < c + 1 → L[i]? = some l → ∀ x ∈ l, 0 ≤ x ∧ x ≤ 1152921504606846976) := fun i r' hi hr' => by
     by_cases hh : i < c
     ·exact hall.out i r' hh hr'
     ·obtain rfl : i = c := by omega
      rw [HE.out] at hr'
      injection hr' with hr'
      subst hr'
      exact HGD.out
    have HLB4 : Hid (Loc w4 w1.heap.size 3 #[.int .i64 (n : Int)]) := Loc.below hLB.out hb4
    clear hb
    go_wp2_with fail
    go_roundw
    case rel => exact ⟨c + 1, by omega, by go_num, HNX, HLB4, bel⟩
    case measure => simp only [intOf]; omega
   ·have HV : Hid (PrCode 0 n k L cost (mc l) 3) := PrCode.second (TbCode.three HK.out HF.out (fun hok => by
     obtain ⟨x, hx, hq⟩ := hb.out.1 rfl
     have := hok r (List.mem_of_getElem? HE.out) x hx
     omega) rfl) (by decide)
    clear hb
    go_wp2_with fail
    go_ret
    exact ⟨⟨_, rfl, HV⟩, bel⟩
  ·obtain rfl : c = m := by omega
   have HT : Hid (TbRange L) := fun r hr => by
    obtain ⟨i, hi, rfl⟩ := List.getElem_of_mem hr
    exact hall.out i _ (by rw [← HM.out]; exact hi) (List.getElem?_eq_getElem hi)
   have HS : Hid (TbCode L k n 0) := TbCode.four HK.out HF.out HT.out rfl
   clear hall
   obtain ⟨kn, hkn⟩ : ∃ kn : Nat, k = (kn : Int) := ⟨k.toNat, by omega⟩
   have hkm : c = kn + 1 := by have := HQ.out; omega
   obtain ⟨n1, hnn⟩ : ∃ n1, n + 1 = n1 := ⟨_, rfl⟩
   have HN1 : Hid (n1 = n + 1) := hnn.symm
   clear hnn
   obtain ⟨b, b0, d0, eB, hbb, hb0, g1, g2, g3, g4⟩ := H3.out.entry HF.out.2 (j := kn) (i := n) (by rw [HM.out]; omega) (Nat.le_refl _)
   subst eB
   obtain ⟨b', b1, d1, eB, -, hb1', g5, g6, g7, g8⟩ := H3.out.entry HF.out.2 (j := 0) (i := 0) (by rw [HM.out]; omega) (Nat.zero_le _)
   injection eB with eB
   subst eB
   rw [add_zero'] at g5 g6
   obtain ⟨x, hxe⟩ : ∃ q, ent L kn n = q := ⟨_, rfl⟩
   obtain ⟨x0, hxe0⟩ : ∃ q, ent L 0 0 = q := ⟨_, rfl⟩
   rw [hxe] at g2
   rw [hxe0] at g6
   rw [← HN1.out] at g1 g3 g5 g7
   have HW : Hid (∀ W, Below wo.heap.size wo W → (W.cell? b = some (.slice (some b1) n1 d1) ∧ W.cell? b1 = some (.int .i64 x0)) ∧ (W.cell? (b.add kn) = some (.slice (some b0) n1 d0) ∧ W.cell? (b0.add n) = some (.int .i64 x)) ∧ W.cell? ⟨w1.heap.size, 0, none⟩ = some (.int .i64 (n : Int))) := fun W hW => by
    have hK : Keep (fun _ => False) w W := .of_below (hB.trans (hW.mono (by omega)))
    exact ⟨⟨cell_keep g5 hbb id hK, cell_keep g6 hb1' id hK⟩, ⟨cell_keep g1 (by rw [add_block]; exact hbb) id hK, cell_keep g2 (by rw [add_block]; exact hb0) id hK⟩, Loc.cell (Loc.below hLB.out hW) 0⟩
   clear g1 g2 g5 g6
   have HXE : Hid (ent L (L.length - 1) n = x) := by show _ = _; rw [← hxe, HM.out, hkm, Nat.add_sub_cancel]
   have HXE0 := Lib.hid hxe0
   have p1 : (kn : Int) < (c : Int) := by omega
   have p2 : (n : Int) < (n1 : Int) := by have := HN1.out; omega
   have p3 : (0 : Int) ≤ (kn : Int) := by omega
   have p4 : (0 : Int) ≤ (n : Int) := by omega
   have p5 : (0 : Int) < (c : Int) := by omega
   have p6 : (0 : Int) < (n1 : Int) := by omega
   have p5' : 0 < c := by omega
   have p6' : 0 < n1 := by omega
   have HVX : Hid (∀ r, HoCode (SegOk L L.length n cost (mc l)) r → PrCode 0 n k L cost (mc l) r) := fun r hr => PrCode.third HS.out hr
   clear hxe hxe0 hkm d3 d4 q1
   by_cases z0 : x0 = 0
   case neg =>
    have HV := Lib.hid (HVX.out 13 (HoCode.no (fun h => z0 (by rw [← HXE0.out]; exact h.1))))
    have e1 : (x0 == 0) = false := beq_eq_false_iff_ne.2 z0
    have e2 : (x0 != 0) = true := bne_iff_ne.2 z0
    clear z0
    subst hkn
    go_wp2_with fail
    refine wp_region_noPanic ?_
    refine wp_region_held_drew (S := (fun W => (W.cell? b = some (.slice (some b1) n1 d1) ∧ W.cell? b1 = some (.int .i64 x0)) ∧ (W.cell? (b.add kn) = some (.slice (some b0) n1 d0) ∧ W.cell? (b0.add n) = some (.int .i64 x)) ∧ W.cell? ⟨w1.heap.size, 0, none⟩ = some (.int .i64 (n : Int)))) (by kernel_rfl) ?_ (fun hHeld => ?_)
    ·exact HW.out _ bel
    refine takeT 0 hHeld ?_
    (try simp only [Act.put, ly])
    refine takeT 1 hHeld ?_
    (try simp only [Act.put, ly])
    refine takeT 2 hHeld ?_
    (try simp only [Act.put, ly])
    refine takeT 3 hHeld ?_
    (try simp only [Act.put, ly])
    refine takeT 4 hHeld ?_
    (try simp only [Act.put, ly])
    refine takeT 5 hHeld ?_
    (try simp only [Act.put, ly])
    refine takeT 6 hHeld ?_
    (try simp only [Act.put, ly])
    refine offT 7 hHeld ?_
    refine offT 8 hHeld ?_
    refine offT 9 hHeld ?_
    refine offT 10 hHeld ?_
    refine offT 11 hHeld ?_
    refine offT 12 hHeld ?_
    refine offT 13 hHeld ?_
    refine offT 14 hHeld ?_
    refine offT 15 hHeld ?_
    (try simp only [Act.put, ly])
    refine takeT 16 hHeld ?_
    (try simp only [Act.put, ly])
    refine takeT 17 hHeld ?_
    (try simp only [Act.put, ly])
    refine offT 18 hHeld ?_
    refine offT 19 hHeld ?_
    refine offT 20 hHeld ?_
    refine offT 21 hHeld ?_
    refine offT 22 hHeld ?_
    (try simp only [Act.put, ly])
    refine takeT 23 hHeld ?_
    (try simp only [Act.put, ly])
    refine wpAnyH_done (by kernel_rfl) ?_ _
    refine NoPanic.normal ?_
    go_wp2_with fail
    go_ret
    exact ⟨⟨_, rfl, HV⟩, bel⟩
   have e1 : (x0 == 0) = true := beq_iff_eq.2 z0
   have e2 : (x0 != 0) = false := by simp only [bne, e1]; rfl
   have HZ0 := Lib.hid z0
   clear z0
   by_cases z4 : x < cost
   ·have HV := Lib.hid (HVX.out 13 (HoCode.no (fun h => by have := h.2.1; rw [HXE.out] at this; omega)))
    have d9 : decide (x < cost) = true := decide_eq_true z4
    clear z4
    subst hkn
    go_wp2_with fail
    refine wp_region_noPanic ?_
    refine wp_region_held_drew (S := (fun W => (W.cell? b = some (.slice (some b1) n1 d1) ∧ W.cell? b1 = some (.int .i64 x0)) ∧ (W.cell? (b.add kn) = some (.slice (some b0) n1 d0) ∧ W.cell? (b0.add n) = some (.int .i64 x)) ∧ W.cell? ⟨w1.heap.size, 0, none⟩ = some (.int .i64 (n : Int)))) (by kernel_rfl) ?_ (fun hHeld => ?_)
    ·exact HW.out _ bel
    refine takeT 0 hHeld ?_
    (try simp only [Act.put, ly])
    refine takeT 1 hHeld ?_
    (try simp only [Act.put, ly])
    refine takeT 2 hHeld ?_
    (try simp only [Act.put, ly])
    refine takeT 3 hHeld ?_
    (try simp only [Act.put, ly])
    refine takeT 4 hHeld ?_
    (try simp only [Act.put, ly])
    refine takeT 5 hHeld ?_
    (try simp only [Act.put, ly])
    refine takeT 6 hHeld ?_
    (try simp only [Act.put, ly])
    refine takeT 7 hHeld ?_
    (try simp only [Act.put, ly])
    refine takeT 8 hHeld ?_
    (try simp only [Act.put, ly])
    refine takeT 9 hHeld ?_
    (try simp only [Act.put, ly])
    refine takeT 10 hHeld ?_
    (try simp only [Act.put, ly])
    refine takeT 11 hHeld ?_
    (try simp only [Act.put, ly])
    refine takeT 12 hHeld ?_
    (try simp only [Act.put, ly])
    refine takeT 13 hHeld ?_
    (try simp only [Act.put, ly])
    refine takeT 14 hHeld ?_
    (try simp only [Act.put, ly])
    refine takeT 15 hHeld ?_
    (try simp only [Act.put, ly])
    refine takeT 16 hHeld ?_
    (try simp only [Act.put, ly])
    refine takeT 17 hHeld ?_
    (try simp only [Act.put, ly])
    refine offT 18 hHeld ?_
    refine offT 19 hHeld ?_
    refine offT 20 hHeld ?_
    refine offT 21 hHeld ?_
    refine offT 22 hHeld ?_
    (try simp only [Act.put, ly])
    refine takeT 23 hHeld ?_
    (try simp only [Act.put, ly])
    refine wpAnyH_done (by kernel_rfl) ?_ _
    refine NoPanic.normal ?_
    go_wp2_with fail
    go_ret
    exact ⟨⟨_, rfl, HV⟩, bel⟩
   have d9 : decide (x < cost) = false := decide_eq_false z4
   have HCO : Hid (cost ≤ x) := by show _ ≤ _; omega
   clear z4
   have HMO : Hid (LocalOk L L.length n (ent (ivM l n1)) ↔ LocalOk L L.length n (mc l)) := by
    have := HN1.out
    constructor
    ·intro h j i h' h1 h2 h3 h4 h5
     have h9 := h j i h' h1 h2 h3 h4 h5
     rw [ivM_ent l h4 (by omega)] at h9
     exact h9
    ·intro h j i h' h1 h2 h3 h4 h5
     rw [ivM_ent l h4 (by omega)]
     exact h j i h' h1 h2 h3 h4 h5
   subst hkn
   go_wp2_with fail
   refine wp_region_noPanic ?_
   refine wp_region_held_drew (S := (fun W => (W.cell? b = some (.slice (some b1) n1 d1) ∧ W.cell? b1 = some (.int .i64 x0)) ∧ (W.cell? (b.add kn) = some (.slice (some b0) n1 d0) ∧ W.cell? (b0.add n) = some (.int .i64 x)) ∧ W.cell? ⟨w1.heap.size, 0, none⟩ = some (.int .i64 (n : Int)))) (by kernel_rfl) ?_ (fun hHeld => ?_)
   ·exact HW.out _ bel
   refine takeT 0 hHeld ?_
   (try simp only [Act.put, ly])
   refine takeT 1 hHeld ?_
   (try simp only [Act.put, ly])
   refine takeT 2 hHeld ?_
   (try simp only [Act.put, ly])
   refine takeT 3 hHeld ?_
   (try simp only [Act.put, ly])
   refine takeT 4 hHeld ?_
   (try simp only [Act.put, ly])
   refine takeT 5 hHeld ?_
   (try simp only [Act.put, ly])
   refine takeT 6 hHeld ?_
   (try simp only [Act.put, ly])
   refine takeT 7 hHeld ?_
   (try simp only [Act.put, ly])
   refine takeT 8 hHeld ?_
   (try simp only [Act.put, ly])
   refine takeT 9 hHeld ?_
   (try simp only [Act.put, ly])
   refine takeT 10 hHeld ?_
   (try simp only [Act.put, ly])
   refine takeT 11 hHeld ?_
   (try simp only [Act.put, ly])
   refine takeT 12 hHeld ?_
   (try simp only [Act.put, ly])
   refine takeT 13 hHeld ?_
   (try simp only [Act.put, ly])
   refine takeT 14 hHeld ?_
   (try simp only [Act.put, ly])
   refine takeT 15 hHeld ?_
   (try simp only [Act.put, ly])
   refine takeT 16 hHeld ?_
   (try simp only [Act.put, ly])
   refine takeT 17 hHeld ?_
   (try simp only [Act.put, ly])
   refine takeT 18 hHeld ?_
   (try simp only [Act.put, ly])
   refine takeT 20 hHeld ?_
   (try simp only [Act.put, ly])
   refine wpAnyH_ready (rs := [19]) (by kernel_rfl) (by simp) ?_
   refine AllReadyH.cons rfl (fun K hK => ?_) AllReadyH.nil
   go_simp
   refine (mintervals_any _ _ l (H2.out.keep kp) HLF.out HLO.out (by rw [HN.out]; exact hn2)).mono ?_
   rintro e w6 ⟨⟨v6, rfl, hv6⟩, hb6⟩
   have y6 := hb6.size; (try simp only [zs] at y6)
   have HV6 : Hid (IMat w6 v6 (ivM l n1)) := by have h9 := hv6.out; rw [HN.out, ← HN1.out] at h9; exact h9
   clear hv6
   (try go_wp2_with fail)
   refine hK.out _ _ ?_ (fun hHeld => ?_)
   ·(try dsimp only)
    exact HW.out _ bel
   clear hK K
   (try simp only [Act.put, ly])
   refine wpAnyH_ready (rs := [21]) (by kernel_rfl) (by simp) ?_
   refine AllReadyH.cons rfl (fun K hK => ?_) AllReadyH.nil
   go_simp
   refine (mholds_any _ _ _ (ivM l n1) L n (HV6.out.keep kp) (H3.out.keep kp) (by rw [ivM_len]; exact HN1.out) (fun r hr => by obtain ⟨i, hi, rfl⟩ := List.getElem_of_mem hr; rw [ivM_len] at hi; have h8 := ivM_get l hi; have h7 := (List.getElem?_eq_some_iff.1 h8).2; rw [h7, rowH_len]; have := HN1.out; omega) HF.out.2 HT.out (by rw [HM.out]; exact hm33) (by rw [HM.out]; omega) (by omega) (fun h i => by have := ivM_range HLO.out (n1 := n1) (by have := HN1.out; omega) h i; omega)).mono ?_
   rintro e w7 ⟨⟨b9, rfl, hb9⟩, hb7⟩
   have y7 := hb7.size; (try simp only [zs] at y7)
   (try go_wp2_with fail)
   refine hK.out _ _ ?_ (fun hHeld => ?_)
   ·(try dsimp only)
    exact HW.out _ bel
   clear hK K
   (try simp only [Act.put, ly])
   cases b9
   ·have HV := Lib.hid (HVX.out 13 (HoCode.no (fun h => by
     have := hb9.out.2 (HMO.out.2 h.2.2)
     cases this)))
    clear hb9
    refine takeT 22 hHeld ?_
    (try simp only [Act.put, ly])
    refine takeT 23 hHeld ?_
    (try simp only [Act.put, ly])
    refine wpAnyH_done (by kernel_rfl) ?_ _
    refine NoPanic.normal ?_
    go_wp2_with fail
    go_ret
    exact ⟨⟨_, rfl, HV⟩, bel⟩
   ·have HV := Lib.hid (HVX.out 0 (HoCode.yes ⟨by rw [HXE0.out]; exact HZ0.out, by rw [HXE.out]; exact HCO.out, HMO.out.1 (hb9.out.1 rfl)⟩))
    clear hb9
    refine takeT 22 hHeld ?_
    (try simp only [Act.put, ly])
    refine takeT 23 hHeld ?_
    (try simp only [Act.put, ly])
    refine wpAnyH_done (by kernel_rfl) ?_ _
    refine NoPanic.normal ?_
    go_wp2_with fail
    go_ret
    exact ⟨⟨_, rfl, HV⟩, bel⟩

/- Layer 8's law: raw lists of fractions; numbers. -/

def RF.q (e : RF) : Rat := rv e.n1 e.xs e.n2 e.ys
/-- The values of a list of raw fractions. -/
def qs (l : List RF) : Nat → Rat := fun i => match l[i]? with
 | some e => e.q
 | none => 0
/-- At most two words in each part. -/
def RF.few (e : RF) : Prop := e.xs.length ≤ 2 ∧ e.ys.length ≤ 2
theorem qs_get {l : List RF} {i : Nat} {e : RF} (h : l[i]? = some e) : qs l i = e.q := by unfold qs; rw [h]

section
variable {w w' : World} {X : Nat → Prop} {v : Value} {l : List RF} {k : Nat}
theorem RatAt.keep {a : Addr} {e : RF} (h : RatAt w X a e) (ha : a.block < w.heap.size) (hx : ¬ X a.block) (hk : Keep X w w') : RatAt w' X a e := by
 obtain ⟨C, c, D, d, h0, h1, h2, h3, h4⟩ := h
 exact ⟨C, c, D, d, cell_keep h0 ha hx hk, cell_keep h1 (by rw [addr_block]; exact ha) (by rw [addr_block]; exact hx) hk, cell_keep h2 (by rw [addr_block]; exact ha) (by rw [addr_block]; exact hx) hk, cell_keep h3 (by rw [addr_block]; exact ha) (by rw [addr_block]; exact hx) hk, h4.keep hk⟩
theorem Rats.keep (h : Rats w (fun _ => False) v l) (hk : Keep (fun _ => False) w w') : Rats w' (fun _ => False) v l := by
 obtain ⟨A, cap, hv, h1, h2, h3⟩ := h
 refine ⟨A, cap, hv, h1, h2, fun hn => ?_⟩
 obtain ⟨a, ha, hb, hc⟩ := h3 hn
 exact ⟨a, ha, Nat.lt_of_lt_of_le hb hk.size, fun i e he => (hc i e he).keep (by rw [addr_block]; exact hb) id hk⟩
theorem Rats.op (h : Rats w X v l) : ∃ (A : Option Addr) (cap : Nat), v = .slice A l.length cap ∧ Rats w X (.slice A l.length cap) l ∧ l.length ≤ cap ∧ cap ≤ maxLen := by
 have h0 := h
 obtain ⟨A, cap, rfl, h1, h2, -⟩ := h
 exact ⟨A, cap, rfl, h0, h1, h2⟩
theorem Rats.at {A : Option Addr} {n cap : Nat} (h : Rats w X (.slice A n cap) l) {i : Nat} {e : RF} (he : l[i]? = some e) : ∃ a : Addr, A = some a ∧ a.block < w.heap.size ∧ RatAt w X (a.add (i * 4)) e := by
 obtain ⟨A', cap', hv, h1, h2, h3⟩ := h
 injection hv with e1 e2 e3
 subst e1
 obtain ⟨a, ha, hb, hc⟩ := h3 (by have := (List.getElem?_eq_some_iff.1 he).1; omega)
 exact ⟨a, ha, hb, hc i e he⟩
/-- A list of short numbers is a list of numbers. -/
theorem Rats.nums (h : Rats w (fun _ => False) v l) (hf : ∀ (i : Nat) (e : RF), l[i]? = some e → e.few) : Nums 2 w (fun _ => False) v l.length (qs l) := by
 obtain ⟨A, cap, rfl, h1, h2, h3⟩ := h
 have key : ∀ i, i < l.length → ∃ r : R4, (∀ a, A = some a → w.cell? (a.add (i * 4)) = some (.bool r.b) ∧ w.cell? ((a.add (i * 4)).add 1) = some (.slice r.A r.m r.c) ∧ w.cell? ((a.add (i * 4)).add 2) = some (.bool r.b') ∧ w.cell? ((a.add (i * 4)).add 3) = some (.slice r.A' r.m' r.c')) ∧ RatL 2 w (fun _ => False) r.v (qs l i) := fun i hi => by
  have he := List.getElem?_eq_getElem hi
  obtain ⟨a, ha, hb, hc⟩ := h3 (by omega)
  obtain ⟨C, c, D, d, c0, c1, c2, c3, hr⟩ := hc i _ he
  have hw := hf i _ he
  refine ⟨⟨l[i].n1, C, l[i].xs.length, c, l[i].n2, D, l[i].ys.length, d⟩, fun a' ha' => ?_, ?_⟩
  ·rw [ha] at ha'; injection ha' with ha'; subst ha'
   exact ⟨c0, c1, c2, c3⟩
  ·exact ⟨l[i].n1, l[i].xs, l[i].n2, l[i].ys, hr, hw.1, hw.2, (qs_get he).symm⟩
 obtain ⟨rs, hl, hp⟩ := list_of _ l.length key
 refine ⟨rs, A, cap, hl, rfl, h1, h2, fun hn => ?_, fun i r hr => (hp i r hr).2⟩
 obtain ⟨a, ha, hb, -⟩ := h3 hn
 exact ⟨a, ha, hb, id, fun i r hr => (hp i r hr).1 a ha⟩
end
end Go.Proofs.YtbdcjhoedhhabaaGreat

