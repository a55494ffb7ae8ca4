/- Contracts of the functions that the statements reach, part 29. -/
import Derived.Test.YtbdcjhoedhhabaaGreatRows
import Derived.Test.YtbdcjhoedhhabaaGreatB25
import Derived.Test.YtbdcjhoedhhabaaGreatB28
set_option linter.unusedSimpArgs false
set_option linter.unusedVariables false

/- merge.interval and the checker's closure of merges. -/
namespace Go.Proofs.YtbdcjhoedhhabaaGreat
open Go.RowKit
attribute [local go_sem ↓] Go.wp_at_zero Go.wp_at_succ

set_option maxRecDepth 100000 in
set_option maxHeartbeats 8000000 in
theorem minterval_any (w : World) (v : Value) (L : List (List Int)) (h i : Nat) (hL : IMat w v L) (hf : LsForm L) (hok : LsOk L) (hm : L.length ≤ 32) (hh : h ≤ i) (hi : i ≤ L.length) :
 Calls Tryz.prog 267 #[v, .int .i64 (h : Int), .int .i64 (i : Int)] w fun e w' => e = .returned (.int .i64 (mc L h i)) ∧ Below w.heap.size w w' := by
 have H := Lib.hid hL
 have HF := Lib.hid hf
 have HOK := Lib.hid hok
 obtain ⟨A, cap, rfl, hL, l1, l2⟩ := hL.op
 obtain ⟨m, hml⟩ : ∃ m, L.length = m := ⟨_, rfl⟩
 have HM := Lib.hid hml
 have H2 : Hid (IMat w (.slice A m cap) L) := by have h9 := H.out; rw [hml] at h9; exact h9
 rw [hml] at l1 hm hi ⊢
 clear hf hok hL hml H
 obtain ⟨len, hlen⟩ : ∃ n, i - h = n := ⟨_, rfl⟩
 obtain ⟨R, hR⟩ : ∃ R, mc L h i = R := ⟨_, rfl⟩
 rw [hR]
 have HR : Hid (mbest L h len len = R) := by rw [← hR, ← hlen]; rfl
 have HI : Hid (i = h + len) := by show _ = _; omega
 clear hlen hR
 go_enter Tryz.func267, Tryz.ntmps267
 go_wp2_with fail
 go_loopw [7, 8] (fun s j wr => ∃ (c p : Nat), c ≤ len ∧ Hid (p = h + c) ∧ j = .int .i64 (p : Int) ∧ s = .int .i64 (mbest L h len c) ∧ Below w.heap.size w wr) (fun _ j _ => i - (intOf j).toNat)
 case atStart => exact ⟨0, h, by omega, Lib.hid (by omega), rfl, rfl, bel⟩
 case round =>
  obtain ⟨c, p, hc, HPP, rfl, rfl, hB⟩ := hrel
  have hpi : p < i ↔ c < len := by have := HPP.out; have := HI.out; omega
  have hp0 : p = h ↔ c = 0 := by have := HPP.out; omega
  have hpb : p ≤ i := by have := HPP.out; have := HI.out; omega
  obtain ⟨wo, rfl⟩ : ∃ wo : World, wo = wr := ⟨_, rfl⟩
  have y5 := hB.size; (try simp only [zs] at y5)
  obtain ⟨S, hS⟩ : ∃ S, mbest L h len c = S := ⟨_, rfl⟩
  have HS := Lib.hid hS
  rw [hS]
  clear hS
  by_cases hlt : c < len
  ·have k2 : (p : Int) < (i : Int) := by have := hpi.2 hlt; omega
   have HSP : Hid (p + 1 = h + (c + 1)) := by show _ = _; have := HPP.out; omega
   clear hpi
   have k6 : IntKind.i64.wrap ((p : Int) + 1) = ((p + 1 : Nat) : Int) := by rw [IntKind.wrap_i64]; omega
   have HW : Hid (i - h = len) := by show _ = _; have := HI.out; omega
   obtain ⟨x, hxx⟩ : ∃ x, msum L p h len = x := ⟨_, rfl⟩
   have HX := Lib.hid hxx
   have HN : Hid (mbest L h len (c + 1) = if c = 0 ∨ x < S then x else S) := by
    show (if c = 0 ∨ msum L (h + c) h len < mbest L h len c then msum L (h + c) h len else mbest L h len c) = _
    rw [← HPP.out, hxx, HS.out]
   clear hxx
   go_wp2_with fail
   refine (mwhole_any _ _ L h i p (H2.out.keep (.of_below hB)) HF.out HOK.out (by rw [HM.out]; exact hm) hh (by rw [HM.out]; exact hi) (by rw [HM.out]; omega)).mono ?_
   rintro e w2 ⟨he, hb2⟩
   rw [HW.out, HX.out] at he
   subst he
   have y2 := hb2.size; (try simp only [zs] at y2)
   by_cases z0 : c = 0
   ·have d1 : ((p : Int) == (h : Int)) = true := beq_iff_eq.2 (by have := hp0.2 z0; omega)
    have HNX : Hid (mbest L h len (c + 1) = x) := by show _ = _; rw [HN.out, if_pos (.inl z0)]
    clear z0 hp0
    go_wp2_with fail
    go_roundw
    case rel => exact ⟨c + 1, p + 1, by omega, HSP, by first | rfl | go_num, by first | rfl | (rw [HNX.out]; rfl) | rw [HNX.out], bel⟩
    case measure => simp only [intOf]; omega
   ·have d1 : ((p : Int) == (h : Int)) = false := beq_eq_false_iff_ne.2 (by omega)
    by_cases z1 : x < S
    ·have d2 : decide (x < S) = true := decide_eq_true z1
     have HNX : Hid (mbest L h len (c + 1) = x) := by show _ = _; rw [HN.out, if_pos (.inr z1)]
     clear z0 z1 hp0
     go_wp2_with fail
     go_roundw
     case rel => exact ⟨c + 1, p + 1, by omega, HSP, by first | rfl | go_num, by first | rfl | (rw [HNX.out]; rfl) | rw [HNX.out], bel⟩
     case measure => simp only [intOf]; omega
    ·have d2 : decide (x < S) = false := decide_eq_false z1
     have HNX : Hid (mbest L h len (c + 1) = S) := by
      show _ = _
      rw [HN.out, if_neg]
      rintro (h | h)
      ·exact z0 h
      ·exact z1 h
     clear z0 z1 hp0
     go_wp2_with fail
     go_roundw
     case rel => exact ⟨c + 1, p + 1, by omega, HSP, by first | rfl | go_num, by first | rfl | (rw [HNX.out]; rfl) | rw [HNX.out], bel⟩
     case measure => simp only [intOf]; omega
  ·obtain rfl : c = len := by omega
   have HE : Hid (S = R) := by show _ = _; rw [← HS.out, ← HR.out]
   have k2 : ¬ (p : Int) < (i : Int) := by omega
   clear hpi hp0
   go_wp2_with fail
   go_ret
   exact ⟨by first | rfl | (rw [HE.out]; rfl) | rw [HE.out], bel⟩

set_option maxRecDepth 100000 in
set_option maxHeartbeats 8000000 in
theorem kmerge1_any (w : World) (v : Value) (g : Nat) (L : List (List Int)) (h i : Nat) (hL : IMat w v L) (hg : w.cell? ⟨g, 0, none⟩ = some v) (hgs : g < w.heap.size) (hf : LsForm L) (hok : LsOk L) (hm : L.length ≤ 32) (hh : h ≤ i) (hi : i ≤ L.length) :
 Calls Tryz.prog 135 (#[.int .i64 (h : Int), .int .i64 (i : Int)] ++ #[.pointer (some ⟨g, 0, none⟩)]) w fun e w' => e = .returned (.int .i64 (mc L h i)) ∧ Below w.heap.size w w' := by
 have H := Lib.hid hL
 have HF := Lib.hid hf
 have HOK := Lib.hid hok
 obtain ⟨A, cap, rfl, hL, l1, l2⟩ := hL.op
 obtain ⟨m, hml⟩ : ∃ m, L.length = m := ⟨_, rfl⟩
 have HM := Lib.hid hml
 have H2 : Hid (IMat w (.slice A m cap) L) := by have h9 := H.out; rw [hml] at h9; exact h9
 rw [hml] at l1 hm hi hg
 clear hf hok hL hml H
 have HG : Hid (∀ W, Below w.heap.size w W → W.cell? ⟨g, 0, none⟩ = some (.slice A m cap)) := fun W hW => cell_keep (X := fun _ => False) hg hgs id (.of_below hW)
 clear hg
 obtain ⟨len, hlen⟩ : ∃ n, i - h = n := ⟨_, rfl⟩
 obtain ⟨R, hR⟩ : ∃ R, mc L h i = R := ⟨_, rfl⟩
 rw [hR]
 have HR : Hid (mbest L h len len = R) := by rw [← hR, ← hlen]; rfl
 have hi2 : i = h + len := by omega
 clear hlen hR
 subst hi2
 go_enter Tryz.func135, Tryz.ntmps135
 go_wp2_with fail
 go_loopw [6, 7] (fun s j wr => ∃ (c : Nat), c ≤ len ∧ j = .int .i64 ((h + c : Nat) : Int) ∧ s = .int .i64 (mbest L h len c) ∧ Below w.heap.size w wr) (fun _ j _ => h + len - (intOf j).toNat)
 case atStart => exact ⟨0, by omega, rfl, rfl, bel⟩
 case round =>
  obtain ⟨c, hc, rfl, rfl, hB⟩ := hrel
  obtain ⟨wo, rfl⟩ : ∃ wo : World, wo = wr := ⟨_, rfl⟩
  have y5 := hB.size; (try simp only [zs] at y5)
  obtain ⟨S, hS⟩ : ∃ S, mbest L h len c = S := ⟨_, rfl⟩
  have HS := Lib.hid hS
  rw [hS]
  clear hS
  by_cases hlt : c < len
  ·have k2 : ((h + c : Nat) : Int) < ((h + len : Nat) : Int) := by omega
   have k6 : IntKind.i64.wrap (((h + c : Nat) : Int) + 1) = ((h + (c + 1) : Nat) : Int) := by rw [IntKind.wrap_i64]; omega
   go_wp2_with fail
   go_loopw [8, 9] (fun s j wr => ∃ (q : Nat), q ≤ len ∧ j = .int .i64 ((h + q : Nat) : Int) ∧ s = .int .i64 (msum L (h + c) h q) ∧ Below w.heap.size w wr) (fun _ j _ => h + len - (intOf j).toNat)
   case atStart => exact ⟨0, by omega, rfl, rfl, bel⟩
   case round =>
    obtain ⟨q, hq, rfl, rfl, hB2⟩ := hrel
    obtain ⟨wp, rfl⟩ : ∃ wp : World, wp = wr := ⟨_, rfl⟩
    have y6 := hB2.size; (try simp only [zs] at y6)
    obtain ⟨T, hT⟩ : ∃ T, msum L (h + c) h q = T := ⟨_, rfl⟩
    have hrg := msum_range HOK.out (h + c) h q
    rw [hT] at hrg
    have HTT := Lib.hid hT
    rw [hT]
    clear hT
    by_cases hlt2 : q < len
    ·have k3 : ((h + q : Nat) : Int) < ((h + len : Nat) : Int) := by omega
     have k4 : (0 : Int) ≤ ((h + q : Nat) : Int) := by omega
     have k5 : ((h + q : Nat) : Int) < (m : Int) := by omega
     have k7 : (0 : Int) ≤ ((h + c : Nat) : Int) := by omega
     have k8 : ((h + c : Nat) : Int) < (m : Int) := by omega
     have hgp := HG.out wp hB2
     obtain ⟨a, b, d, rfl, -, -, x0, x1, l3, l4⟩ := (H2.out.keep (.of_below hB2)).loss HM.out HF.out (j := h + q) (i := h + c) (by omega) (by omega)
     have hx := ent_loss HOK.out (h + q) (h + c)
     obtain ⟨x, hxx⟩ : ∃ x, ent L (h + q) (h + c) = x := ⟨_, rfl⟩
     rw [hxx] at x1 hx
     have HNX : Hid (msum L (h + c) h (q + 1) = T + x) := by show msum L (h + c) h q + ent L (h + q) (h + c) = _; rw [HTT.out, hxx]
     clear hxx
     have k9 : IntKind.i64.wrap (T + x) = T + x := by rw [IntKind.wrap_i64]; omega
     have k10 : IntKind.i64.wrap (((h + q : Nat) : Int) + 1) = ((h + (q + 1) : Nat) : Int) := by rw [IntKind.wrap_i64]; omega
     go_wp2_with fail
     go_roundw
     case rel => exact ⟨q + 1, by omega, by first | rfl | go_num, by first | rfl | (rw [HNX.out]; rfl) | rw [HNX.out], bel⟩
     case measure => simp only [intOf]; omega
    ·obtain rfl : q = len := by omega
     have k3 : ¬ ((h + q : Nat) : Int) < ((h + q : Nat) : Int) := by omega
     have HN : Hid (mbest L h q (c + 1) = if c = 0 ∨ T < S then T else S) := by
      show (if c = 0 ∨ msum L (h + c) h q < mbest L h q c then msum L (h + c) h q else mbest L h q c) = _
      rw [HTT.out, HS.out]
     by_cases z0 : c = 0
     ·have d1 : (((h + c : Nat) : Int) == (h : Int)) = true := beq_iff_eq.2 (by omega)
      have d1' : ((h : Int) + (c : Int) == (h : Int)) = true := beq_iff_eq.2 (by omega)
      have HNX : Hid (mbest L h q (c + 1) = T) := by show _ = _; rw [HN.out, if_pos (.inl z0)]
      clear z0
      go_wp2_with fail
      go_roundw
      case rel => exact ⟨c + 1, by omega, by first | rfl | go_num, by first | rfl | (rw [HNX.out]; rfl) | rw [HNX.out], bel⟩
      case measure => simp only [intOf]; omega
     ·have d1 : (((h + c : Nat) : Int) == (h : Int)) = false := beq_eq_false_iff_ne.2 (by omega)
      have d1' : ((h : Int) + (c : Int) == (h : Int)) = false := beq_eq_false_iff_ne.2 (by omega)
      by_cases z1 : T < S
      ·have d2 : decide (T < S) = true := decide_eq_true z1
       have HNX : Hid (mbest L h q (c + 1) = T) := by show _ = _; rw [HN.out, if_pos (.inr z1)]
       clear z0 z1
       go_wp2_with fail
       go_roundw
       case rel => exact ⟨c + 1, by omega, by first | rfl | go_num, by first | rfl | (rw [HNX.out]; rfl) | rw [HNX.out], bel⟩
       case measure => simp only [intOf]; omega
      ·have d2 : decide (T < S) = false := decide_eq_false z1
       have HNX : Hid (mbest L h q (c + 1) = S) := by
        show _ = _
        rw [HN.out, if_neg]
        rintro (h | h)
        ·exact z0 h
        ·exact z1 h
       clear z0 z1
       go_wp2_with fail
       go_roundw
       case rel => exact ⟨c + 1, by omega, by first | rfl | go_num, by first | rfl | (rw [HNX.out]; rfl) | rw [HNX.out], bel⟩
       case measure => simp only [intOf]; omega
  ·obtain rfl : c = len := by omega
   have HE : Hid (S = R) := by show _ = _; rw [← HS.out, ← HR.out]
   have k2 : ¬ ((h + c : Nat) : Int) < ((h + c : Nat) : Int) := by omega
   go_wp2_with fail
   go_ret
   exact ⟨by first | rfl | (rw [HE.out]; rfl) | rw [HE.out], bel⟩

/- merge.groups, merge.holds. -/

set_option maxHeartbeats 4000000 in
theorem mgroups_any (w : World) (k : Int) :
 Calls Tryz.prog 137 #[.int .i64 k] w fun e w' => Tells (¬ (k < 1 ∨ 32 < k)) e ∧ Below w.heap.size w w' := by
 by_cases h0 : 1 ≤ k
 case neg =>
  have H0 : Hid (¬ ¬ (k < 1 ∨ 32 < k)) := fun h => h (.inl (by omega))
  have d1 : decide (1 ≤ k) = false := decide_eq_false h0
  clear h0
  go_enter Tryz.func137, Tryz.ntmps137
  go_wp2_with fail
  go_ret
  exact ⟨Tells.no H0.out, bel⟩
 have d1 : decide (1 ≤ k) = true := decide_eq_true h0
 by_cases h1 : k ≤ 32
 ·have H0 : Hid (¬ (k < 1 ∨ 32 < k)) := by rintro (h | h); exact absurd h (by omega); exact absurd h (by omega)
  have d2 : decide (k ≤ 32) = true := decide_eq_true h1
  clear h0 h1
  go_enter Tryz.func137, Tryz.ntmps137
  go_wp2_with fail
  go_ret
  exact ⟨Tells.yes H0.out, bel⟩
 ·have H0 : Hid (¬ ¬ (k < 1 ∨ 32 < k)) := fun h => h (.inr (by omega))
  have d2 : decide (k ≤ 32) = false := decide_eq_false h1
  clear h0 h1
  go_enter Tryz.func137, Tryz.ntmps137
  go_wp2_with fail
  go_ret
  exact ⟨Tells.no H0.out, bel⟩

set_option maxRecDepth 100000 in
set_option maxHeartbeats 16000000 in
theorem mholds_any (w : World) (vC v : Value) (C L : List (List Int)) (n : Nat) (hC : IMat w vC C) (h : IMat w v L) (hCl : C.length = n + 1) (hCr : ∀ l ∈ C, (l.length : Int) = (n : Int) + 1) (hf : ∀ l ∈ L, (l.length : Int) = (n : Int) + 1) (hr : TbRange L) (hm33 : L.length ≤ 33) (hm1 : 1 ≤ L.length) (hn : n ≤ 1000)
 (hc : ∀ h i, -1152921504606846976 ≤ ent C h i ∧ ent C h i ≤ 1152921504606846976) :
 Calls Tryz.prog 140 #[vC, v] w fun e w' => Tells (LocalOk L L.length n (ent C)) e ∧ Below w.heap.size w w' := by
 have H := Lib.hid h
 have HCM := Lib.hid hC
 have HC := Lib.hid hc
 have HR : Hid (∀ j i, 0 ≤ ent L j i ∧ ent L j i ≤ 1152921504606846976) := ent_range hr
 obtain ⟨A, cap, rfl, h, l1, l2⟩ := h.op
 obtain ⟨Ac, capc, rfl, hC, lc1, lc2⟩ := hC.op
 have HROW := Lib.hid hf
 have HCR := Lib.hid hCr
 have HCL := Lib.hid hCl
 clear hf hr hc h hC hCr
 obtain ⟨m, hm⟩ : ∃ m, L.length = m := ⟨_, rfl⟩
 have HM := Lib.hid hm
 rw [hm] at l1 hm33 hm1 ⊢
 have H2 : Hid (IMat w (.slice A m cap) L) := by have h9 := H.out; rw [hm] at h9; exact h9
 clear hm H
 obtain ⟨n1, hn1⟩ : ∃ n1, n + 1 = n1 := ⟨_, rfl⟩
 have HB0 : Hid (n1 = n + 1) := hn1.symm
 have hn1001 : n1 ≤ 1001 := by omega
 rw [hCl, hn1] at lc1 ⊢
 have HC2 : Hid (IMat w (.slice Ac n1 capc) C) := by have h9 := HCM.out; rw [hCl, hn1] at h9; exact h9
 clear hn1 hCl HCM
 obtain ⟨P, hP⟩ : ∃ P, LocalOk L m n (ent C) = P := ⟨_, rfl⟩
 rw [hP]
 have HP2 : Hid (P ↔ LocalOk L m n (ent C)) := by rw [← hP]; exact Iff.rfl
 clear hP
 obtain ⟨a, a0, d0, rfl, -, -, -, -, -, -⟩ := H2.out.entry HROW.out (j := 0) (i := 0) (by rw [HM.out]; omega) (by omega)
 obtain ⟨ac, a0, d0, rfl, -, -, -, -, -, -⟩ := HC2.out.entry HCR.out (j := 0) (i := 0) (by rw [HCL.out]; omega) (by omega)
 have HEN : Hid (∀ W, Below w.heap.size w W → ∀ j i, j < m → i ≤ n → ∃ (a' : Addr) (d : Nat), W.cell? (a.add j) = some (.slice (some a') (n + 1) d) ∧ W.cell? (a'.add i) = some (.int .i64 (ent L j i)) ∧ n + 1 ≤ d ∧ d ≤ maxLen) := fun W hW j i hj hi => by
  obtain ⟨a', a'', d, e1, q1, q2, q3, q4, q5, q6⟩ := H2.out.entry HROW.out (j := j) (i := i) (by rw [HM.out]; exact hj) hi
  injection e1 with e1
  subst e1
  exact ⟨a'', d, cell_keep (X := fun _ => False) q3 (by rw [add_block]; exact q1) id (.of_below hW), cell_keep (X := fun _ => False) q4 (by rw [add_block]; exact q2) id (.of_below hW), q5, q6⟩
 have HEC : Hid (∀ W, Below w.heap.size w W → ∀ j i, j ≤ n → i ≤ n → ∃ (a' : Addr) (d : Nat), W.cell? (ac.add j) = some (.slice (some a') (n + 1) d) ∧ W.cell? (a'.add i) = some (.int .i64 (ent C j i)) ∧ n + 1 ≤ d ∧ d ≤ maxLen) := fun W hW j i hj hi => by
  obtain ⟨a', a'', d, e1, q1, q2, q3, q4, q5, q6⟩ := HC2.out.entry HCR.out (j := j) (i := i) (by rw [HCL.out]; omega) hi
  injection e1 with e1
  subst e1
  exact ⟨a'', d, cell_keep (X := fun _ => False) q3 (by rw [add_block]; exact q1) id (.of_below hW), cell_keep (X := fun _ => False) q4 (by rw [add_block]; exact q2) id (.of_below hW), q5, q6⟩
 go_enter Tryz.func140, Tryz.ntmps140
 go_wp2_with fail
 go_loopw [5] (fun i wr => ∃ (cj : Nat), 1 ≤ cj ∧ cj ≤ m ∧ i = .int .i64 cj ∧ Hid (∀ j i h : Nat, 1 ≤ j → j < cj → i ≤ n → h ≤ i → (1 < j ∨ h = 0) → ent L j i ≤ ent L (j - 1) h + ent C h i) ∧ Below w.heap.size w wr) (fun i _ => m - (intOf i).toNat)
 case atStart => exact ⟨1, by omega, by omega, rfl, Lib.hid (fun j _ _ h1 h2 => absurd h2 (by omega)), bel⟩
 case round =>
  obtain ⟨cj, hcj1, hcj, rfl, hall, hB⟩ := hrel
  obtain ⟨wo, rfl⟩ : ∃ wo : World, wo = wr := ⟨_, rfl⟩
  have y5 := hB.size; (try simp only [zs] at y5)
  by_cases hlt : cj < m
  ·have k1 : (cj : Int) < (m : Int) := by omega
   obtain ⟨b0, e0, r0, -, r9, r10⟩ := HEN.out wo hB cj 0 hlt (by omega)
   rw [← HB0.out] at r0 r9
   go_wp2_with fail
   go_loopw [19] (fun i wr => ∃ (ci : Nat), ci ≤ n1 ∧ i = .int .i64 ci ∧ Hid (∀ i h : Nat, i < ci → h ≤ i → (1 < cj ∨ h = 0) → ent L cj i ≤ ent L (cj - 1) h + ent C h i) ∧ Below w.heap.size w wr) (fun i _ => n1 - (intOf i).toNat)
   case atStart => exact ⟨0, by omega, rfl, Lib.hid (fun _ _ hi => absurd hi (by omega)), bel⟩
   case round =>
    obtain ⟨ci, hci, rfl, hall2, hB2⟩ := hrel
    obtain ⟨wp, rfl⟩ : ∃ wp : World, wp = wr := ⟨_, rfl⟩
    have y6 := hB2.size; (try simp only [zs] at y6)
    by_cases hlt2 : ci < n1
    ·have k3 : (ci : Int) < (n1 : Int) := by omega
     go_wp2_with fail
     go_loopw [7] (fun i wr => ∃ (ch : Nat), ch ≤ ci + 1 ∧ i = .int .i64 ch ∧ Hid (∀ h : Nat, h < ch → (1 < cj ∨ h = 0) → ent L cj ci ≤ ent L (cj - 1) h + ent C h ci) ∧ Below w.heap.size w wr) (fun i _ => ci + 1 - (intOf i).toNat)
     case atStart => exact ⟨0, by omega, rfl, Lib.hid (fun _ h => absurd h (by omega)), bel⟩
     case round =>
      obtain ⟨ch, hch, rfl, hall3, hB3⟩ := hrel
      obtain ⟨wq, rfl⟩ : ∃ wq : World, wq = wr := ⟨_, rfl⟩
      have y8 := hB3.size; (try simp only [zs] at y8)
      have HEND : Hid (¬ (ch ≤ ci ∧ (1 < cj ∨ ch = 0)) → ∀ i h : Nat, i < ci + 1 → h ≤ i → (1 < cj ∨ h = 0) → ent L cj i ≤ ent L (cj - 1) h + ent C h i) := fun hq i h h1 h2 h3 => by
       by_cases hh : i < ci
       ·exact hall2.out i h hh h2 h3
       ·obtain rfl : i = ci := by omega
        refine hall3.out h ?_ h3
        rcases h3 with h3 | h3
        ·have : ¬ ch ≤ i := fun h => hq ⟨h, .inl h3⟩
         omega
        ·subst h3
         by_cases h0 : ch = 0
         ·exact absurd ⟨by omega, .inr h0⟩ hq
         ·omega
      by_cases z0 : ch ≤ ci
      case neg =>
       have HNX := Lib.hid (HEND.out (fun h => z0 h.1))
       have d1 : decide ((ch : Int) ≤ (ci : Int)) = false := decide_eq_false (by omega)
       have d1' : decide (ch ≤ ci) = false := decide_eq_false z0
       clear z0
       go_wp2_with fail
       go_roundw
       case rel => exact ⟨ci + 1, by omega, by go_num, HNX, bel⟩
       case measure => simp only [intOf]; omega
      have d1 : decide ((ch : Int) ≤ (ci : Int)) = true := decide_eq_true (by omega)
      have d1' : decide (ch ≤ ci) = true := decide_eq_true z0
      obtain ⟨b1, e1, r1, r2, r3, r4⟩ := HEN.out wq hB3 cj ci hlt (by have := HB0.out; omega)
      obtain ⟨b2, e2, r5, r6, r7, r8⟩ := HEN.out wq hB3 (cj - 1) ch (by omega) (by have := HB0.out; omega)
      obtain ⟨b3, e3, s1, s2, s3, s4⟩ := HEC.out wq hB3 ch ci (by have := HB0.out; omega) (by have := HB0.out; omega)
      rw [← HB0.out] at r1 r3 r5 r7 s1 s3
      have t1 := HR.out cj ci
      have t2 := HR.out (cj - 1) ch
      have t3 := HC.out ch ci
      obtain ⟨u, hu⟩ : ∃ q, ent L cj ci = q := ⟨_, rfl⟩
      obtain ⟨v, hv⟩ : ∃ q, ent L (cj - 1) ch = q := ⟨_, rfl⟩
      obtain ⟨cc, hcc⟩ : ∃ q, ent C ch ci = q := ⟨_, rfl⟩
      rw [hu] at r2 t1
      rw [hv] at r6 t2
      rw [hcc] at s2 t3
      have HU := Lib.hid hu
      have HV := Lib.hid hv
      have HCC := Lib.hid hcc
      clear hu hv hcc
      have k5 : IntKind.i64.wrap ((cj : Int) - 1) = ((cj - 1 : Nat) : Int) := by rw [IntKind.wrap_i64]; omega
      have k6 : (0 : Int) ≤ ((cj - 1 : Nat) : Int) := by omega
      have k7 : ((cj - 1 : Nat) : Int) < (m : Int) := by omega
      have k8 : (ch : Int) < (n1 : Int) := by omega
      have k9 : IntKind.i64.wrap (v + cc) = v + cc := by rw [IntKind.wrap_i64]; omega
      have HBAD : Hid ((1 < cj ∨ ch = 0) → v + cc < u → ¬ P) := fun hq hvu h => by
       have h9 := HP2.out.1 h cj ci ch hcj1 hlt (by have := HB0.out; omega) z0 hq
       rw [HU.out, HV.out, HCC.out] at h9
       omega
      have HNEXT : Hid (¬ v + cc < u → ∀ h : Nat, h < ch + 1 → (1 < cj ∨ h = 0) → ent L cj ci ≤ ent L (cj - 1) h + ent C h ci) := fun hvu h h1 h3 => by
       by_cases hh : h < ch
       ·exact hall3.out h hh h3
       ·obtain rfl : h = ch := by omega
        rw [HU.out, HV.out, HCC.out]; omega
      by_cases z1 : 1 < cj
      ·have d2 : decide ((1 : Int) < (cj : Int)) = true := decide_eq_true (by omega)
       have d2' : decide (1 < cj) = true := decide_eq_true z1
       by_cases z2 : v + cc < u
       ·have d3 : decide (v + cc < u) = true := decide_eq_true z2
        have HE := Lib.hid (HBAD.out (.inl z1) z2)
        clear z1 z2
        go_wp2_with fail
        go_region_held3 (fun W => (W.cell? (a.add cj) = some (.slice (some b1) n1 e1) ∧ W.cell? (b1.add ci) = some (.int .i64 u)) ∧ (W.cell? (a.add (cj - 1)) = some (.slice (some b2) n1 e2) ∧ W.cell? (b2.add ch) = some (.int .i64 v)) ∧ W.cell? (ac.add ch) = some (.slice (some b3) n1 e3) ∧ W.cell? (b3.add ci) = some (.int .i64 cc)) (exact ⟨⟨r1, r2⟩, ⟨r5, r6⟩, s1, s2⟩) (fail)
        go_wp2_with fail
        go_ret
        exact ⟨Tells.no HE.out, bel⟩
       ·have d3 : decide (v + cc < u) = false := decide_eq_false z2
        have HNX := Lib.hid (HNEXT.out z2)
        clear z1 z2
        go_wp2_with fail
        go_region_held3 (fun W => (W.cell? (a.add cj) = some (.slice (some b1) n1 e1) ∧ W.cell? (b1.add ci) = some (.int .i64 u)) ∧ (W.cell? (a.add (cj - 1)) = some (.slice (some b2) n1 e2) ∧ W.cell? (b2.add ch) = some (.int .i64 v)) ∧ W.cell? (ac.add ch) = some (.slice (some b3) n1 e3) ∧ W.cell? (b3.add ci) = some (.int .i64 cc)) (exact ⟨⟨r1, r2⟩, ⟨r5, r6⟩, s1, s2⟩) (fail)
        go_wp2_with fail
        go_roundw
        case rel => exact ⟨ch + 1, by omega, by go_num, HNX, bel⟩
        case measure => simp only [intOf]; omega
      ·have d2 : decide ((1 : Int) < (cj : Int)) = false := decide_eq_false (by omega)
       have d2' : decide (1 < cj) = false := decide_eq_false z1
       by_cases z3 : ch = 0
       ·have d4 : ((ch : Int) == 0) = true := beq_iff_eq.2 (by omega)
        by_cases z2 : v + cc < u
        ·have d3 : decide (v + cc < u) = true := decide_eq_true z2
         have HE := Lib.hid (HBAD.out (.inr z3) z2)
         clear z1 z2 z3
         go_wp2_with fail
         go_region_held3 (fun W => (W.cell? (a.add cj) = some (.slice (some b1) n1 e1) ∧ W.cell? (b1.add ci) = some (.int .i64 u)) ∧ (W.cell? (a.add (cj - 1)) = some (.slice (some b2) n1 e2) ∧ W.cell? (b2.add ch) = some (.int .i64 v)) ∧ W.cell? (ac.add ch) = some (.slice (some b3) n1 e3) ∧ W.cell? (b3.add ci) = some (.int .i64 cc)) (exact ⟨⟨r1, r2⟩, ⟨r5, r6⟩, s1, s2⟩) (fail)
         go_wp2_with fail
         go_ret
         exact ⟨Tells.no HE.out, bel⟩
        ·have d3 : decide (v + cc < u) = false := decide_eq_false z2
         have HNX := Lib.hid (HNEXT.out z2)
         clear z1 z2 z3
         go_wp2_with fail
         go_region_held3 (fun W => (W.cell? (a.add cj) = some (.slice (some b1) n1 e1) ∧ W.cell? (b1.add ci) = some (.int .i64 u)) ∧ (W.cell? (a.add (cj - 1)) = some (.slice (some b2) n1 e2) ∧ W.cell? (b2.add ch) = some (.int .i64 v)) ∧ W.cell? (ac.add ch) = some (.slice (some b3) n1 e3) ∧ W.cell? (b3.add ci) = some (.int .i64 cc)) (exact ⟨⟨r1, r2⟩, ⟨r5, r6⟩, s1, s2⟩) (fail)
         go_wp2_with fail
         go_roundw
         case rel => exact ⟨ch + 1, by omega, by go_num, HNX, bel⟩
         case measure => simp only [intOf]; omega
       ·have d4 : ((ch : Int) == 0) = false := beq_eq_false_iff_ne.2 (by omega)
        have HNX := Lib.hid (HEND.out (fun h => h.2.elim z1 z3))
        clear z1 z3
        go_wp2_with fail
        go_roundw
        case rel => exact ⟨ci + 1, by omega, by go_num, HNX, bel⟩
        case measure => simp only [intOf]; omega
    ·obtain rfl : ci = n1 := by omega
     have HNX : Hid (∀ j i h : Nat, 1 ≤ j → j < cj + 1 → i ≤ n → h ≤ i → (1 < j ∨ h = 0) → ent L j i ≤ ent L (j - 1) h + ent C h i) := fun j i h h1 h2 h3 h4 h5 => by
      by_cases hh : j < cj
      ·exact hall.out j i h h1 hh h3 h4 h5
      ·obtain rfl : j = cj := by omega
       exact hall2.out i h (by have := HB0.out; omega) h4 h5
     go_wp2_with fail
     go_roundw
     case rel => exact ⟨cj + 1, by omega, by omega, by go_num, HNX, bel⟩
     case measure => simp only [intOf]; omega
  ·obtain rfl : cj = m := by omega
   have HV : Hid P := HP2.out.2 fun j i h h1 h2 h3 h4 h5 => hall.out j i h h1 h2 h3 h4 h5
   go_wp2_with fail
   go_ret
   exact ⟨Tells.yes HV.out, hB⟩

/- checker.Buckets. -/

/-- The code of a proof by a table: behind the code c0 of the data, for n elements. -/
structure PrCode (c0 : Int) (n : Nat) (k : Int) (L : List (List Int)) (cost : Int) (c : Nat → Nat → Int) (r : Int) : Prop where
 a : c0 ≠ 0 → r = c0
 b : c0 = 0 → ∃ s, TbCode L k n s ∧ (s ≠ 0 → r = s) ∧ (s = 0 → HoCode (SegOk L L.length n cost c) r)

theorem PrCode.eq {c0 : Int} {n : Nat} {k : Int} {L : List (List Int)} {cost : Int} {c : Nat → Nat → Int} {r r' : Int} (h : PrCode c0 n k L cost c r) (h' : PrCode c0 n k L cost c r') : r = r' := by
 by_cases h0 : c0 = 0
 ·obtain ⟨s, h1, h2, h3⟩ := h.b h0
  obtain ⟨s', h1', h2', h3'⟩ := h'.b h0
  obtain rfl := h1.eq h1'
  by_cases hs : s = 0
  ·by_cases hp : SegOk L L.length n cost c
   ·rw [(h3 hs).1 hp, (h3' hs).1 hp]
   ·rw [(h3 hs).2 hp, (h3' hs).2 hp]
  ·rw [h2 hs, h2' hs]
 ·rw [h.a h0, h'.a h0]

theorem PrCode.first {c0 : Int} {n : Nat} {k : Int} {L : List (List Int)} {cost : Int} {c : Nat → Nat → Int} (h : c0 ≠ 0) : PrCode c0 n k L cost c c0 := ⟨fun _ => rfl, fun h' => absurd h' h⟩

theorem PrCode.second {n : Nat} {k : Int} {L : List (List Int)} {cost : Int} {c : Nat → Nat → Int} {s : Int} (h : TbCode L k n s) (hs : s ≠ 0) : PrCode 0 n k L cost c s := ⟨fun h' => absurd rfl h', fun _ => ⟨s, h, fun _ => rfl, fun h' => absurd h' hs⟩⟩

theorem PrCode.third {n : Nat} {k : Int} {L : List (List Int)} {cost : Int} {c : Nat → Nat → Int} {r : Int} (h : TbCode L k n 0) (hr : HoCode (SegOk L L.length n cost c) r) : PrCode 0 n k L cost c r := ⟨fun h' => absurd rfl h', fun _ => ⟨0, h, fun h' => absurd rfl h', fun _ => hr⟩⟩

theorem bc_range {l : List (Int × Int)} (h : BSmall l) (a b : Nat) : -281474976710656 ≤ bc l a b ∧ bc l a b ≤ 281474976710656 := by
 have h1 := tim_range h (b - 1)
 have h2 := bsum_range (tim l (b - 1)) h1.1 h1.2 ((l.take b).drop a) 0 0 (fun x hx => h.2 x (List.mem_of_mem_take (List.mem_of_mem_drop hx))) (by omega) (by omega)
 have h3 : ((l.take b).drop a).length ≤ 64 := by rw [List.length_drop, List.length_take]; have := h.1; omega
 unfold bc bsum
 omega

set_option maxRecDepth 100000 in
set_option maxHeartbeats 8000000 in
theorem kbuckets_any (w : World) (v u : Value) (l : List (Int × Int)) (L : List (List Int)) (k cost : Int) (h : Tims w v l) (hL : IMat w u L) (hk0 : -9223372036854775808 ≤ k) (hk1 : k ≤ 9223372036854775807) :
 Calls Tryz.prog 47 #[v, .int .i64 k, u, .int .i64 cost] w fun e w' => (∃ r : Int, e = .returned (.int .i64 r) ∧ Hid (PrCode (ldC l) l.length k L cost (bc l) r)) ∧ Below w.heap.size w w' := by
 have H := Lib.hid h
 have HL := Lib.hid hL
 obtain ⟨A, cap, rfl, h, l1, l2⟩ := h.op
 obtain ⟨B, cap2, rfl, hL, l3, l4⟩ := hL.op
 clear h hL
 obtain ⟨m, hm⟩ : ∃ m, l.length = m := ⟨_, rfl⟩
 have HM := Lib.hid hm
 have H2 : Hid (Tims w (.slice A m cap) l) := by have h9 := H.out; rw [hm] at h9; exact h9
 obtain ⟨c0, hc0⟩ : ∃ c, ldC l = c := ⟨_, rfl⟩
 have HC0 := Lib.hid hc0
 rw [hc0, hm]
 rw [hm] at l1
 clear hm H hc0
 have L1 := made1 w #[.slice A m cap] 89
 go_enter Tryz.func47, Tryz.ntmps47
 go_wp2_with fail
 refine (load_any _ _ l (H2.out.keep kp)).mono ?_
 rintro e w1 ⟨he, hb1⟩
 rw [HC0.out] at he
 subst he
 have y1 := hb1.size; (try simp only [zs] at y1)
 obtain ⟨e1, f1, l1'⟩ := L1.all (w' := w1)
 by_cases z0 : c0 = 0
 case neg =>
  have d1 : (c0 == 0) = false := beq_eq_false_iff_ne.2 z0
  have d2 : (c0 != 0) = true := bne_iff_ne.2 z0
  have HV := Lib.hid (PrCode.first (n := m) (k := k) (L := L) (cost := cost) (c := bc l) z0)
  clear z0
  go_wp2_with fail
  go_ret
  exact ⟨⟨_, rfl, HV⟩, bel⟩
 subst z0
 have hz := ldC_zero HC0.out
 have HBS : Hid (BSmall l) := ⟨hz.2.1, hz.2.2⟩
 have hm1 : 1 ≤ m := by have := HM.out; omega
 have hm2 : m ≤ 64 := by have := HM.out; omega
 clear hz
 go_wp2_with fail
 refine (table_any _ _ L k m (HL.out.keep kp) hk0 hk1 (by omega)).mono ?_
 rintro e w2 ⟨⟨s, rfl, hs⟩, hb2⟩
 have y2 := hb2.size; (try simp only [zs] at y2)
 clear e1 f1 l1'
 obtain ⟨e1, f1, l1'⟩ := L1.all (w' := w2)
 by_cases z1 : s = 0
 case neg =>
  have d1 : (s == 0) = false := beq_eq_false_iff_ne.2 z1
  have d2 : (s != 0) = true := bne_iff_ne.2 z1
  have HV := Lib.hid (PrCode.second (cost := cost) (c := bc l) hs.out z1)
  clear z1
  go_wp2_with fail
  go_ret
  exact ⟨⟨_, rfl, HV⟩, bel⟩
 subst z1
 have ht := hs.out.zero
 have HT := Lib.hid ht
 have HA : Hid (∃ a, A = some a) := by
  obtain ⟨_, _, e, _, _, h5, _⟩ := H2.out
  injection e with e1 e2 e3
  obtain ⟨a, ha, -⟩ := h5 (by rw [HM.out]; omega)
  exact ⟨a, by rw [e1]; exact ha⟩
 obtain ⟨a, rfl⟩ := HA.out
 have ht1 := ht.1
 have ht2 := ht.2.1
 clear ht HA
 go_wp2_with fail
 refine (kholds_any _ _ L k cost m 131 #[.pointer (some ⟨w.heap.size, 0, none⟩)] (bc l) (HL.out.keep kp) HT.out.2.2.1 HT.out.2.2.2 ht1 ht2 (by omega) (enters Tryz.func131 (by kernel_rfl) (by kernel_rfl)) (fun W h i hW hh hi => kbuck1_any W a m cap w.heap.size l h i (H2.out.keep kp) HM.out (Loc.c 0 (L1.to (w' := W))) (by first | exact (L1.to (w' := W)).lt | omega) HBS.out hh hi) (fun h i _ _ => by have := bc_range HBS.out h i; omega)).mono ?_
 rintro e w3 ⟨⟨r, rfl, hr⟩, hb3⟩
 have y3 := hb3.size; (try simp only [zs] at y3)
 have HV := Lib.hid (PrCode.third hs.out hr.out)
 clear hr hs
 go_wp2_with fail
 go_ret
 exact ⟨⟨_, rfl, HV⟩, bel⟩
end Go.Proofs.YtbdcjhoedhhabaaGreat

