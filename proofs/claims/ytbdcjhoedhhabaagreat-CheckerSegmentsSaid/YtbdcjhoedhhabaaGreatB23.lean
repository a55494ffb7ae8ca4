/- Contracts of the functions that the statements reach, part 23. -/
import Derived.Test.YtbdcjhoedhhabaaGreatRows
import Derived.Test.YtbdcjhoedhhabaaGreatB2
import Derived.Test.YtbdcjhoedhhabaaGreatB22
set_option linter.unusedSimpArgs false
set_option linter.unusedVariables false

/- slices.ContainsFunc at integers, at losses, at tables, at gains: for any predicate. -/
namespace Go.Proofs.YtbdcjhoedhhabaaGreat
open Go.RowKit
attribute [local go_sem ↓] Go.wp_at_zero Go.wp_at_succ

set_option maxRecDepth 100000 in
set_option maxHeartbeats 4000000 in
theorem indexLo_any (w : World) (F : Nat) (caps : Array Value) (P : List Int → Prop) (v : Value) (L : List (List Int)) (h : IMat w v L) (hen : Enters F) (hF : TellsI w F caps P L) :
 Calls Tryz.prog 126 #[v, .func (Fn.func F) #[] caps] w fun e w' => ∃ r : Int, e = .returned (.int .i64 r) ∧ ((0 ≤ r ∧ ∃ l ∈ L, P l) ∨ (r < 0 ∧ ∀ l ∈ L, ¬ P l)) ∧ Below w.heap.size w w' := by
 have H := Lib.hid h
 have HF := Lib.hid hF
 have hen2 : ∀ (args : Array Value) (W : World), (callFunc F args).run Tryz.prog W = .ok (.enter F args) W := hen
 obtain ⟨A, cap, rfl, h, l1, l2⟩ := h.op
 have lm : L.length ≤ 9223372036854775807 := by unfold maxLen at l2; omega
 clear h hF
 obtain ⟨m, hm⟩ : ∃ m, L.length = m := ⟨_, rfl⟩
 rw [hm] at l1 lm
 rw [hm]
 have HM := Lib.hid hm
 clear hm
 go_enter Tryz.func126, Tryz.ntmps126
 go_wp2_with fail
 go_loopw [8] (fun i wr => ∃ (c : Nat), c ≤ m ∧ i = .int .i64 c ∧ Hid (∀ i l, i < c → L[i]? = some l → ¬ P l) ∧ Below w.heap.size w wr) (fun i _ => m - (intOf i).toNat)
 case atStart => exact ⟨0, by omega, rfl, Lib.hid (fun i l hi => absurd hi (by omega)), bel⟩
 case round =>
  obtain ⟨c, hc, rfl, hall, hB⟩ := hrel
  obtain ⟨wo, rfl⟩ : ∃ wo : World, wo = wr := ⟨_, rfl⟩
  have y5 := hB.size; (try simp only [zs] at y5)
  by_cases hlt : c < m
  ·obtain ⟨l, he⟩ : ∃ l, L[c]? = some l := ⟨_, List.getElem?_eq_getElem (by rw [HM.out]; exact hlt)⟩
   have hR := H.out.keep (.of_below hB)
   rw [HM.out] at hR
   obtain ⟨a, D, d, rfl, hab, hcell, hnum, l3, l4⟩ := hR.at he
   have HE := Lib.hid he
   have HNUM := Lib.hid hnum
   have k0 : (0 : Int) ≤ (c : Int) := by omega
   have k1 : (c : Int) < (m : Int) := by omega
   clear he hR hnum
   go_wp2_with fail
   refine (HF.out _ D d l hB HNUM.out (List.mem_of_getElem? HE.out)).mono ?_
   rintro e w2 ⟨⟨b, rfl, hb⟩, hb2⟩
   have y2 := hb2.size; (try simp only [zs] at y2)
   cases b
   ·have HGD : Hid (¬ P l) := fun h => by have := hb.out.2 h; cases this
    clear hb
    go_wp2_with fail
    go_roundw
    case rel =>
     refine ⟨c + 1, by omega, by go_num, Lib.hid (fun i l' hi hl' => ?_), bel⟩
     by_cases hic : i < c
     ·exact hall.out i l' hic hl'
     ·obtain rfl : i = c := by omega
      rw [HE.out] at hl'
      injection hl' with hl'
      subst hl'
      exact HGD.out
    case measure => simp only [intOf]; omega
   ·have HGD : Hid (P l) := hb.out.1 rfl
    clear hb
    go_wp2_with fail
    go_ret
    exact ⟨_, rfl, .inl ⟨by omega, l, List.mem_of_getElem? HE.out, HGD.out⟩, bel⟩
  ·obtain rfl : c = m := by omega
   have HALL : Hid (∀ l ∈ L, ¬ P l) := fun l hl => by
    obtain ⟨i, hi, rfl⟩ := List.mem_iff_getElem.1 hl
    exact hall.out i _ (by rw [← HM.out]; exact hi) (List.getElem?_eq_getElem hi)
   go_wp2_with fail
   go_ret
   exact ⟨_, rfl, .inr ⟨by decide, HALL.out⟩, hB⟩

set_option maxRecDepth 100000 in
set_option maxHeartbeats 4000000 in
theorem containsLo_any (w : World) (F : Nat) (caps : Array Value) (P : List Int → Prop) (v : Value) (L : List (List Int)) (h : IMat w v L) (hen : Enters F) (hF : TellsI w F caps P L) :
 Calls Tryz.prog 45 #[v, .func (Fn.func F) #[] caps] w fun e w' => Tells (∃ l ∈ L, P l) e ∧ Below w.heap.size w w' := by
 have H := Lib.hid h
 have HF := Lib.hid hF
 obtain ⟨A, cap, rfl, h, l1, l2⟩ := h.op
 clear h hF
 go_enter Tryz.func45, Tryz.ntmps45
 go_wp2_with fail
 refine (indexLo_any _ F caps P _ L H.out hen HF.out).mono ?_
 rintro e w1 ⟨r, rfl, hr, hb1⟩
 have y1 := hb1.size; (try simp only [zs] at y1)
 have HR := Lib.hid hr
 clear hr
 by_cases h0 : 0 ≤ r
 ·have HV : Hid (∃ l ∈ L, P l) := by
   rcases HR.out with ⟨_, h⟩ | ⟨h, _⟩
   ·exact h
   ·omega
  go_wp2_with fail
  go_ret
  exact ⟨Tells.yes HV.out, bel⟩
 ·have HV : Hid (¬ ∃ l ∈ L, P l) := by
   rcases HR.out with ⟨h, _⟩ | ⟨_, h⟩
   ·omega
   ·exact fun ⟨l, hl, hp⟩ => h l hl hp
  have hd : decide (0 ≤ r) = false := decide_eq_false h0
  go_wp2_with fail
  go_ret
  exact ⟨by first | exact Tells.no HV.out | (simp only [hd]; exact Tells.no HV.out), bel⟩

set_option maxRecDepth 100000 in
set_option maxHeartbeats 4000000 in
theorem indexSe_any (w : World) (F : Nat) (caps : Array Value) (P : List Int → Prop) (v : Value) (L : List (List Int)) (h : IMat w v L) (hen : Enters F) (hF : TellsI w F caps P L) :
 Calls Tryz.prog 127 #[v, .func (Fn.func F) #[] caps] w fun e w' => ∃ r : Int, e = .returned (.int .i64 r) ∧ ((0 ≤ r ∧ ∃ l ∈ L, P l) ∨ (r < 0 ∧ ∀ l ∈ L, ¬ P l)) ∧ Below w.heap.size w w' := by
 have H := Lib.hid h
 have HF := Lib.hid hF
 have hen2 : ∀ (args : Array Value) (W : World), (callFunc F args).run Tryz.prog W = .ok (.enter F args) W := hen
 obtain ⟨A, cap, rfl, h, l1, l2⟩ := h.op
 have lm : L.length ≤ 9223372036854775807 := by unfold maxLen at l2; omega
 clear h hF
 obtain ⟨m, hm⟩ : ∃ m, L.length = m := ⟨_, rfl⟩
 rw [hm] at l1 lm
 rw [hm]
 have HM := Lib.hid hm
 clear hm
 go_enter Tryz.func127, Tryz.ntmps127
 go_wp2_with fail
 go_loopw [8] (fun i wr => ∃ (c : Nat), c ≤ m ∧ i = .int .i64 c ∧ Hid (∀ i l, i < c → L[i]? = some l → ¬ P l) ∧ Below w.heap.size w wr) (fun i _ => m - (intOf i).toNat)
 case atStart => exact ⟨0, by omega, rfl, Lib.hid (fun i l hi => absurd hi (by omega)), bel⟩
 case round =>
  obtain ⟨c, hc, rfl, hall, hB⟩ := hrel
  obtain ⟨wo, rfl⟩ : ∃ wo : World, wo = wr := ⟨_, rfl⟩
  have y5 := hB.size; (try simp only [zs] at y5)
  by_cases hlt : c < m
  ·obtain ⟨l, he⟩ : ∃ l, L[c]? = some l := ⟨_, List.getElem?_eq_getElem (by rw [HM.out]; exact hlt)⟩
   have hR := H.out.keep (.of_below hB)
   rw [HM.out] at hR
   obtain ⟨a, D, d, rfl, hab, hcell, hnum, l3, l4⟩ := hR.at he
   have HE := Lib.hid he
   have HNUM := Lib.hid hnum
   have k0 : (0 : Int) ≤ (c : Int) := by omega
   have k1 : (c : Int) < (m : Int) := by omega
   clear he hR hnum
   go_wp2_with fail
   refine (HF.out _ D d l hB HNUM.out (List.mem_of_getElem? HE.out)).mono ?_
   rintro e w2 ⟨⟨b, rfl, hb⟩, hb2⟩
   have y2 := hb2.size; (try simp only [zs] at y2)
   cases b
   ·have HGD : Hid (¬ P l) := fun h => by have := hb.out.2 h; cases this
    clear hb
    go_wp2_with fail
    go_roundw
    case rel =>
     refine ⟨c + 1, by omega, by go_num, Lib.hid (fun i l' hi hl' => ?_), bel⟩
     by_cases hic : i < c
     ·exact hall.out i l' hic hl'
     ·obtain rfl : i = c := by omega
      rw [HE.out] at hl'
      injection hl' with hl'
      subst hl'
      exact HGD.out
    case measure => simp only [intOf]; omega
   ·have HGD : Hid (P l) := hb.out.1 rfl
    clear hb
    go_wp2_with fail
    go_ret
    exact ⟨_, rfl, .inl ⟨by omega, l, List.mem_of_getElem? HE.out, HGD.out⟩, bel⟩
  ·obtain rfl : c = m := by omega
   have HALL : Hid (∀ l ∈ L, ¬ P l) := fun l hl => by
    obtain ⟨i, hi, rfl⟩ := List.mem_iff_getElem.1 hl
    exact hall.out i _ (by rw [← HM.out]; exact hi) (List.getElem?_eq_getElem hi)
   go_wp2_with fail
   go_ret
   exact ⟨_, rfl, .inr ⟨by decide, HALL.out⟩, hB⟩

set_option maxRecDepth 100000 in
set_option maxHeartbeats 4000000 in
theorem containsSe_any (w : World) (F : Nat) (caps : Array Value) (P : List Int → Prop) (v : Value) (L : List (List Int)) (h : IMat w v L) (hen : Enters F) (hF : TellsI w F caps P L) :
 Calls Tryz.prog 46 #[v, .func (Fn.func F) #[] caps] w fun e w' => Tells (∃ l ∈ L, P l) e ∧ Below w.heap.size w w' := by
 have H := Lib.hid h
 have HF := Lib.hid hF
 obtain ⟨A, cap, rfl, h, l1, l2⟩ := h.op
 clear h hF
 go_enter Tryz.func46, Tryz.ntmps46
 go_wp2_with fail
 refine (indexSe_any _ F caps P _ L H.out hen HF.out).mono ?_
 rintro e w1 ⟨r, rfl, hr, hb1⟩
 have y1 := hb1.size; (try simp only [zs] at y1)
 have HR := Lib.hid hr
 clear hr
 by_cases h0 : 0 ≤ r
 ·have HV : Hid (∃ l ∈ L, P l) := by
   rcases HR.out with ⟨_, h⟩ | ⟨h, _⟩
   ·exact h
   ·omega
  go_wp2_with fail
  go_ret
  exact ⟨Tells.yes HV.out, bel⟩
 ·have HV : Hid (¬ ∃ l ∈ L, P l) := by
   rcases HR.out with ⟨h, _⟩ | ⟨_, h⟩
   ·omega
   ·exact fun ⟨l, hl, hp⟩ => h l hl hp
  have hd : decide (0 ≤ r) = false := decide_eq_false h0
  go_wp2_with fail
  go_ret
  exact ⟨by first | exact Tells.no HV.out | (simp only [hd]; exact Tells.no HV.out), bel⟩

/-- A function that tells whether P, at integers of a list. -/
def TellsZ (w : World) (F : Nat) (caps : Array Value) (P : Int → Prop) (L : List Int) : Prop :=
 ∀ (W : World) (z : Int), Below w.heap.size w W → z ∈ L → Calls Tryz.prog F (#[.int .i64 z] ++ caps) W fun e w' => Tells (P z) e ∧ Below W.heap.size W w'

set_option maxRecDepth 100000 in
set_option maxHeartbeats 4000000 in
theorem indexZ_any (w : World) (F : Nat) (caps : Array Value) (P : Int → Prop) (v : Value) (L : List Int) (h : IntsV w v L) (hen : Enters F) (hF : TellsZ w F caps P L) :
 Calls Tryz.prog 216 #[v, .func (Fn.func F) #[] caps] w fun e w' => ∃ r : Int, e = .returned (.int .i64 r) ∧ ((0 ≤ r ∧ ∃ l ∈ L, P l) ∨ (r < 0 ∧ ∀ l ∈ L, ¬ P l)) ∧ Below w.heap.size w w' := by
 have H := Lib.hid h
 have HF := Lib.hid hF
 have hen2 : ∀ (args : Array Value) (W : World), (callFunc F args).run Tryz.prog W = .ok (.enter F args) W := hen
 obtain ⟨A, cap, rfl, h, l1, l2⟩ := h.op
 have lm : L.length ≤ 9223372036854775807 := by unfold maxLen at l2; omega
 clear h hF
 obtain ⟨m, hm⟩ : ∃ m, L.length = m := ⟨_, rfl⟩
 rw [hm] at l1 lm
 rw [hm]
 have HM := Lib.hid hm
 clear hm
 go_enter Tryz.func216, Tryz.ntmps216
 go_wp2_with fail
 go_loopw [8] (fun i wr => ∃ (c : Nat), c ≤ m ∧ i = .int .i64 c ∧ Hid (∀ i l, i < c → L[i]? = some l → ¬ P l) ∧ Below w.heap.size w wr) (fun i _ => m - (intOf i).toNat)
 case atStart => exact ⟨0, by omega, rfl, Lib.hid (fun i l hi => absurd hi (by omega)), bel⟩
 case round =>
  obtain ⟨c, hc, rfl, hall, hB⟩ := hrel
  obtain ⟨wo, rfl⟩ : ∃ wo : World, wo = wr := ⟨_, rfl⟩
  have y5 := hB.size; (try simp only [zs] at y5)
  by_cases hlt : c < m
  ·obtain ⟨l, he⟩ : ∃ l, L[c]? = some l := ⟨_, List.getElem?_eq_getElem (by rw [HM.out]; exact hlt)⟩
   have hR := H.out.keep (.of_below hB)
   rw [HM.out] at hR
   obtain ⟨a, rfl, hab, hcell, zb1, zb2⟩ := hR.at he
   have HE := Lib.hid he
   have k0 : (0 : Int) ≤ (c : Int) := by omega
   have k1 : (c : Int) < (m : Int) := by omega
   clear he hR
   go_wp2_with fail
   refine (HF.out _ l hB (List.mem_of_getElem? HE.out)).mono ?_
   rintro e w2 ⟨⟨b, rfl, hb⟩, hb2⟩
   have y2 := hb2.size; (try simp only [zs] at y2)
   cases b
   ·have HGD : Hid (¬ P l) := fun h => by have := hb.out.2 h; cases this
    clear hb
    go_wp2_with fail
    go_roundw
    case rel =>
     refine ⟨c + 1, by omega, by go_num, Lib.hid (fun i l' hi hl' => ?_), bel⟩
     by_cases hic : i < c
     ·exact hall.out i l' hic hl'
     ·obtain rfl : i = c := by omega
      rw [HE.out] at hl'
      injection hl' with hl'
      subst hl'
      exact HGD.out
    case measure => simp only [intOf]; omega
   ·have HGD : Hid (P l) := hb.out.1 rfl
    clear hb
    go_wp2_with fail
    go_ret
    exact ⟨_, rfl, .inl ⟨by omega, l, List.mem_of_getElem? HE.out, HGD.out⟩, bel⟩
  ·obtain rfl : c = m := by omega
   have HALL : Hid (∀ l ∈ L, ¬ P l) := fun l hl => by
    obtain ⟨i, hi, rfl⟩ := List.mem_iff_getElem.1 hl
    exact hall.out i _ (by rw [← HM.out]; exact hi) (List.getElem?_eq_getElem hi)
   go_wp2_with fail
   go_ret
   exact ⟨_, rfl, .inr ⟨by decide, HALL.out⟩, hB⟩

set_option maxRecDepth 100000 in
set_option maxHeartbeats 4000000 in
theorem containsZ_any (w : World) (F : Nat) (caps : Array Value) (P : Int → Prop) (v : Value) (L : List Int) (h : IntsV w v L) (hen : Enters F) (hF : TellsZ w F caps P L) :
 Calls Tryz.prog 90 #[v, .func (Fn.func F) #[] caps] w fun e w' => Tells (∃ l ∈ L, P l) e ∧ Below w.heap.size w w' := by
 have H := Lib.hid h
 have HF := Lib.hid hF
 obtain ⟨A, cap, rfl, h, l1, l2⟩ := h.op
 clear h hF
 go_enter Tryz.func90, Tryz.ntmps90
 go_wp2_with fail
 refine (indexZ_any _ F caps P _ L H.out hen HF.out).mono ?_
 rintro e w1 ⟨r, rfl, hr, hb1⟩
 have y1 := hb1.size; (try simp only [zs] at y1)
 have HR := Lib.hid hr
 clear hr
 by_cases h0 : 0 ≤ r
 ·have HV : Hid (∃ l ∈ L, P l) := by
   rcases HR.out with ⟨_, h⟩ | ⟨h, _⟩
   ·exact h
   ·omega
  go_wp2_with fail
  go_ret
  exact ⟨Tells.yes HV.out, bel⟩
 ·have HV : Hid (¬ ∃ l ∈ L, P l) := by
   rcases HR.out with ⟨h, _⟩ | ⟨_, h⟩
   ·omega
   ·exact fun ⟨l, hl, hp⟩ => h l hl hp
  have hd : decide (0 ≤ r) = false := decide_eq_false h0
  go_wp2_with fail
  go_ret
  exact ⟨by first | exact Tells.no HV.out | (simp only [hd]; exact Tells.no HV.out), bel⟩

/- The closures of the checks of tables and of losses. -/

set_option maxHeartbeats 4000000 in
theorem ktable1_any (w : World) (A : Option Addr) (m c g : Nat) (n : Int) (hg : w.cell? ⟨g, 0, none⟩ = some (.int .i64 n)) (hm : m ≤ 9223372036854775807) (h0 : 0 ≤ n) (h1 : n ≤ 9223372036854775806) :
 Calls Tryz.prog 261 (#[.slice A m c] ++ #[.pointer (some ⟨g, 0, none⟩)]) w fun e w' => Tells ((m : Int) ≠ n + 1) e ∧ Below w.heap.size w w' := by
 have q1 : IntKind.i64.wrap (n + 1) = n + 1 := by rw [IntKind.wrap_i64]; omega
 by_cases hq : (m : Int) = n + 1
 ·have H1 := Lib.hid hq
  have d1 : ((m : Int) == n + 1) = true := beq_iff_eq.2 hq
  have d2 : ((m : Int) != n + 1) = false := by simp only [bne, d1]; rfl
  clear hq
  go_enter Tryz.func261, Tryz.ntmps261
  go_wp2_with fail
  go_ret
  exact ⟨by first | exact Tells.no (fun h => h H1.out) | (rw [d2]; exact Tells.no (fun h => h H1.out)), bel⟩
 ·have H1 : Hid (¬ (m : Int) = n + 1) := hq
  have d1 : ((m : Int) == n + 1) = false := beq_eq_false_iff_ne.2 hq
  have d2 : ((m : Int) != n + 1) = true := bne_iff_ne.2 hq
  clear hq
  go_enter Tryz.func261, Tryz.ntmps261
  go_wp2_with fail
  go_ret
  exact ⟨by first | exact Tells.yes H1.out | (rw [d2]; exact Tells.yes H1.out), bel⟩

set_option maxHeartbeats 4000000 in
theorem mprove1_any (w : World) (A : Option Addr) (m c g : Nat) (n : Int) (hg : w.cell? ⟨g, 0, none⟩ = some (.int .i64 n)) (hm : m ≤ 9223372036854775807) (h0 : 0 ≤ n) (h1 : n ≤ 9223372036854775806) :
 Calls Tryz.prog 138 (#[.slice A m c] ++ #[.pointer (some ⟨g, 0, none⟩)]) w fun e w' => Tells ((m : Int) ≠ n + 1) e ∧ Below w.heap.size w w' := by
 have q1 : IntKind.i64.wrap (n + 1) = n + 1 := by rw [IntKind.wrap_i64]; omega
 by_cases hq : (m : Int) = n + 1
 ·have H1 := Lib.hid hq
  have d1 : ((m : Int) == n + 1) = true := beq_iff_eq.2 hq
  have d2 : ((m : Int) != n + 1) = false := by simp only [bne, d1]; rfl
  clear hq
  go_enter Tryz.func138, Tryz.ntmps138
  go_wp2_with fail
  go_ret
  exact ⟨by first | exact Tells.no (fun h => h H1.out) | (rw [d2]; exact Tells.no (fun h => h H1.out)), bel⟩
 ·have H1 : Hid (¬ (m : Int) = n + 1) := hq
  have d1 : ((m : Int) == n + 1) = false := beq_eq_false_iff_ne.2 hq
  have d2 : ((m : Int) != n + 1) = true := bne_iff_ne.2 hq
  clear hq
  go_enter Tryz.func138, Tryz.ntmps138
  go_wp2_with fail
  go_ret
  exact ⟨by first | exact Tells.yes H1.out | (rw [d2]; exact Tells.yes H1.out), bel⟩

set_option maxHeartbeats 4000000 in
theorem ktable2_any (w : World) (z : Int) :
 Calls Tryz.prog 262 (#[.int .i64 z] ++ #[]) w fun e w' => Tells (z < 0 ∨ 1152921504606846976 < z) e ∧ Below w.heap.size w w' := by
 by_cases h0 : z < 0
 ·have H0 := Lib.hid h0
  have d1 : decide (z < 0) = true := decide_eq_true h0
  go_enter Tryz.func262, Tryz.ntmps262
  go_wp2_with fail
  go_ret
  exact ⟨Tells.yes (.inl H0.out), bel⟩
 have d1 : decide (z < 0) = false := decide_eq_false h0
 by_cases h1 : 1152921504606846976 < z
 ·have H0 := Lib.hid h1
  have d2 : decide (1152921504606846976 < z) = true := decide_eq_true h1
  go_enter Tryz.func262, Tryz.ntmps262
  go_wp2_with fail
  go_ret
  exact ⟨by first | exact Tells.yes trivial | exact Tells.yes (.inr H0.out), bel⟩
 ·have H0 : Hid (¬ (z < 0 ∨ 1152921504606846976 < z)) := by rintro (h | h); exact h0 h; exact h1 h
  have d2 : decide (1152921504606846976 < z) = false := decide_eq_false h1
  go_enter Tryz.func262, Tryz.ntmps262
  go_wp2_with fail
  go_ret
  exact ⟨Tells.no H0.out, bel⟩

set_option maxHeartbeats 4000000 in
theorem mprove2_any (w : World) (z : Int) :
 Calls Tryz.prog 139 (#[.int .i64 z] ++ #[]) w fun e w' => Tells (z < 0 ∨ 1152921504606846976 < z) e ∧ Below w.heap.size w w' := by
 by_cases h0 : z < 0
 ·have H0 := Lib.hid h0
  have d1 : decide (z < 0) = true := decide_eq_true h0
  go_enter Tryz.func139, Tryz.ntmps139
  go_wp2_with fail
  go_ret
  exact ⟨Tells.yes (.inl H0.out), bel⟩
 have d1 : decide (z < 0) = false := decide_eq_false h0
 by_cases h1 : 1152921504606846976 < z
 ·have H0 := Lib.hid h1
  have d2 : decide (1152921504606846976 < z) = true := decide_eq_true h1
  go_enter Tryz.func139, Tryz.ntmps139
  go_wp2_with fail
  go_ret
  exact ⟨by first | exact Tells.yes trivial | exact Tells.yes (.inr H0.out), bel⟩
 ·have H0 : Hid (¬ (z < 0 ∨ 1152921504606846976 < z)) := by rintro (h | h); exact h0 h; exact h1 h
  have d2 : decide (1152921504606846976 < z) = false := decide_eq_false h1
  go_enter Tryz.func139, Tryz.ntmps139
  go_wp2_with fail
  go_ret
  exact ⟨Tells.no H0.out, bel⟩

set_option maxHeartbeats 4000000 in
theorem mcheck2_any (w : World) (z : Int) :
 Calls Tryz.prog 266 (#[.int .i64 z] ++ #[]) w fun e w' => Tells (z < 0 ∨ 1048576 < z) e ∧ Below w.heap.size w w' := by
 by_cases h0 : z < 0
 ·have H0 := Lib.hid h0
  have d1 : decide (z < 0) = true := decide_eq_true h0
  go_enter Tryz.func266, Tryz.ntmps266
  go_wp2_with fail
  go_ret
  exact ⟨Tells.yes (.inl H0.out), bel⟩
 have d1 : decide (z < 0) = false := decide_eq_false h0
 by_cases h1 : 1048576 < z
 ·have H0 := Lib.hid h1
  have d2 : decide (1048576 < z) = true := decide_eq_true h1
  go_enter Tryz.func266, Tryz.ntmps266
  go_wp2_with fail
  go_ret
  exact ⟨by first | exact Tells.yes trivial | exact Tells.yes (.inr H0.out), bel⟩
 ·have H0 : Hid (¬ (z < 0 ∨ 1048576 < z)) := by rintro (h | h); exact h0 h; exact h1 h
  have d2 : decide (1048576 < z) = false := decide_eq_false h1
  go_enter Tryz.func266, Tryz.ntmps266
  go_wp2_with fail
  go_ret
  exact ⟨Tells.no H0.out, bel⟩

set_option maxHeartbeats 4000000 in
theorem klosses1_any (w : World) (A B : Option Addr) (m c g n d : Nat) (hg : w.cell? ⟨g, 0, none⟩ = some (.slice B n d)) :
 Calls Tryz.prog 264 (#[.slice A m c] ++ #[.pointer (some ⟨g, 0, none⟩)]) w fun e w' => Tells (m ≠ n) e ∧ Below w.heap.size w w' := by
 by_cases hq : m = n
 ·have H1 := Lib.hid hq
  have d1 : ((m : Int) == (n : Int)) = true := beq_iff_eq.2 (by omega)
  have d2 : ((m : Int) != (n : Int)) = false := by simp only [bne, d1]; rfl
  clear hq
  go_enter Tryz.func264, Tryz.ntmps264
  go_wp2_with fail
  go_ret
  exact ⟨by first | exact Tells.no (fun h => h H1.out) | (rw [d2]; exact Tells.no (fun h => h H1.out)), bel⟩
 ·have H1 : Hid (¬ m = n) := hq
  have d1 : ((m : Int) == (n : Int)) = false := beq_eq_false_iff_ne.2 (by omega)
  have d2 : ((m : Int) != (n : Int)) = true := bne_iff_ne.2 (by omega)
  clear hq
  go_enter Tryz.func264, Tryz.ntmps264
  go_wp2_with fail
  go_ret
  exact ⟨by first | exact Tells.yes H1.out | (rw [d2]; exact Tells.yes H1.out), bel⟩

set_option maxHeartbeats 4000000 in
theorem mcheck1_any (w : World) (A B : Option Addr) (m c g n d : Nat) (hg : w.cell? ⟨g, 0, none⟩ = some (.slice B n d)) :
 Calls Tryz.prog 265 (#[.slice A m c] ++ #[.pointer (some ⟨g, 0, none⟩)]) w fun e w' => Tells (m ≠ n) e ∧ Below w.heap.size w w' := by
 by_cases hq : m = n
 ·have H1 := Lib.hid hq
  have d1 : ((m : Int) == (n : Int)) = true := beq_iff_eq.2 (by omega)
  have d2 : ((m : Int) != (n : Int)) = false := by simp only [bne, d1]; rfl
  clear hq
  go_enter Tryz.func265, Tryz.ntmps265
  go_wp2_with fail
  go_ret
  exact ⟨by first | exact Tells.no (fun h => h H1.out) | (rw [d2]; exact Tells.no (fun h => h H1.out)), bel⟩
 ·have H1 : Hid (¬ m = n) := hq
  have d1 : ((m : Int) == (n : Int)) = false := beq_eq_false_iff_ne.2 (by omega)
  have d2 : ((m : Int) != (n : Int)) = true := bne_iff_ne.2 (by omega)
  clear hq
  go_enter Tryz.func265, Tryz.ntmps265
  go_wp2_with fail
  go_ret
  exact ⟨by first | exact Tells.yes H1.out | (rw [d2]; exact Tells.yes H1.out), bel⟩

/- checker.table. -/

/-- The number of groups and the form of a table are right. -/
def TbForm (L : List (List Int)) (k n : Int) : Prop := (L.length : Int) = k + 1 ∧ ∀ l ∈ L, (l.length : Int) = n + 1
/-- The numbers of a table are in their range. -/
def TbRange (L : List (List Int)) : Prop := ∀ l ∈ L, ∀ x ∈ l, 0 ≤ x ∧ x ≤ 1152921504606846976
/-- The code of a table's form. -/
structure TbCode (L : List (List Int)) (k n r : Int) : Prop where
 a : (k < 1 ∨ 32 < k) → r = 3
 b : ¬ (k < 1 ∨ 32 < k) → ¬ TbForm L k n → r = 2
 c : ¬ (k < 1 ∨ 32 < k) → TbForm L k n → ¬ TbRange L → r = 3
 d : ¬ (k < 1 ∨ 32 < k) → TbForm L k n → TbRange L → r = 0

theorem TbCode.one {L : List (List Int)} {k n r : Int} (h : k < 1 ∨ 32 < k) (hr : r = 3) : TbCode L k n r := ⟨fun _ => hr, fun h' => absurd h h', fun h' => absurd h h', fun h' => absurd h h'⟩

theorem TbCode.two {L : List (List Int)} {k n r : Int} (h : ¬ (k < 1 ∨ 32 < k)) (h2 : ¬ TbForm L k n) (hr : r = 2) : TbCode L k n r := ⟨fun h' => absurd h' h, fun _ _ => hr, fun _ h' => absurd h' h2, fun _ h' => absurd h' h2⟩

theorem TbCode.three {L : List (List Int)} {k n r : Int} (h : ¬ (k < 1 ∨ 32 < k)) (h2 : TbForm L k n) (h3 : ¬ TbRange L) (hr : r = 3) : TbCode L k n r := ⟨fun h' => absurd h' h, fun _ h' => absurd h2 h', fun _ _ _ => hr, fun _ _ h' => absurd h' h3⟩

theorem TbCode.four {L : List (List Int)} {k n r : Int} (h : ¬ (k < 1 ∨ 32 < k)) (h2 : TbForm L k n) (h3 : TbRange L) (hr : r = 0) : TbCode L k n r := ⟨fun h' => absurd h' h, fun _ h' => absurd h2 h', fun _ _ h' => absurd h3 h', fun _ _ _ => hr⟩

theorem TbCode.eq {L : List (List Int)} {k n r s : Int} (h : TbCode L k n r) (h' : TbCode L k n s) : r = s := by
 by_cases h1 : k < 1 ∨ 32 < k
 ·rw [h.a h1, h'.a h1]
 by_cases h2 : TbForm L k n
 ·by_cases h3 : TbRange L
  ·rw [h.d h1 h2 h3, h'.d h1 h2 h3]
  ·rw [h.c h1 h2 h3, h'.c h1 h2 h3]
 ·rw [h.b h1 h2, h'.b h1 h2]

theorem TbCode.zero {L : List (List Int)} {k n : Int} (h : TbCode L k n 0) : 1 ≤ k ∧ k ≤ 32 ∧ TbForm L k n ∧ TbRange L := by
 by_cases h1 : k < 1 ∨ 32 < k
 ·cases h.a h1
 by_cases h2 : TbForm L k n
 ·by_cases h3 : TbRange L
  ·exact ⟨by omega, by omega, h2, h3⟩
  ·cases h.c h1 h2 h3
 ·cases h.b h1 h2

theorem add_zero' (a : Addr) : a.add 0 = a := by simp [Addr.add]

set_option maxRecDepth 100000 in
set_option maxHeartbeats 8000000 in
theorem table_any (w : World) (v : Value) (L : List (List Int)) (k : Int) (n : Nat) (h : IMat w v L) (hk0 : -9223372036854775808 ≤ k) (hk1 : k ≤ 9223372036854775807) (hn : n ≤ 1000) :
 Calls Tryz.prog 129 #[v, .int .i64 k, .int .i64 n] w fun e w' => (∃ r : Int, e = .returned (.int .i64 r) ∧ Hid (TbCode L k n r)) ∧ Below w.heap.size w w' := by
 have H := Lib.hid h
 obtain ⟨A, cap, rfl, h, l1, l2⟩ := h.op
 have lm : L.length ≤ 9223372036854775807 := by unfold maxLen at l2; omega
 clear h
 obtain ⟨m, hm⟩ : ∃ m, L.length = m := ⟨_, rfl⟩
 rw [hm] at l1 lm
 rw [hm]
 have HM := Lib.hid hm
 have H2 : Hid (IMat w (.slice A m cap) L) := by
  have h9 := H.out
  rw [hm] at h9
  exact h9
 clear hm
 by_cases h0 : k < 1
 ·have HE : Hid (TbCode L k n 3) := TbCode.one (.inl h0) rfl
  have d1 : decide (k < 1) = true := decide_eq_true h0
  go_enter Tryz.func129, Tryz.ntmps129
  go_wp2_with fail
  go_ret
  exact ⟨⟨_, rfl, HE⟩, bel⟩
 have d1 : decide (k < 1) = false := decide_eq_false h0
 by_cases h1 : 32 < k
 ·have HE : Hid (TbCode L k n 3) := TbCode.one (.inr h1) rfl
  have d2 : decide (32 < k) = true := decide_eq_true h1
  go_enter Tryz.func129, Tryz.ntmps129
  go_wp2_with fail
  go_ret
  exact ⟨⟨_, rfl, HE⟩, bel⟩
 have d2 : decide (32 < k) = false := decide_eq_false h1
 have HK : Hid (¬ (k < 1 ∨ 32 < k)) := by rintro (h | h); exact h0 h; exact h1 h
 have q1 : IntKind.i64.wrap (k + 1) = k + 1 := by rw [IntKind.wrap_i64]; omega
 by_cases h2 : (m : Int) = k + 1
 case neg =>
  have HE : Hid (TbCode L k n 2) := TbCode.two HK.out (fun h => h2 (by rw [← HM.out]; exact h.1)) rfl
  have d3 : ((m : Int) == k + 1) = false := beq_eq_false_iff_ne.2 h2
  have d4 : ((m : Int) != k + 1) = true := bne_iff_ne.2 h2
  clear h2
  go_enter Tryz.func129, Tryz.ntmps129
  go_wp2_with fail
  go_ret
  exact ⟨⟨_, rfl, HE⟩, bel⟩
 have d3 : ((m : Int) == k + 1) = true := beq_iff_eq.2 h2
 have d4 : ((m : Int) != k + 1) = false := by simp only [bne, d3]; rfl
 have HQ := Lib.hid h2
 clear h2
 have L1 := made1 w #[.int .i64 (n : Int)] 3
 go_enter Tryz.func129, Tryz.ntmps129
 go_wp2_with fail
 refine (containsSe_any _ 261 #[.pointer (some ⟨w.heap.size, 0, none⟩)] (fun l => (l.length : Int) ≠ (n : Int) + 1) _ L (H2.out.keep kp) (enters Tryz.func261 (by kernel_rfl) (by kernel_rfl)) (fun W A c l hW hl _ => ktable1_any W A l.length c w.heap.size n (Loc.c 0 (L1.to (w' := W))) (by obtain ⟨_, _, e, _, e1, e2⟩ := hl.op; injection e; subst_vars; unfold maxLen at e2; omega) (by omega) (by omega))).mono ?_
 rintro e w1 ⟨⟨b, rfl, hb⟩, hb1⟩
 have y1 := hb1.size; (try simp only [zs] at y1)
 cases b
 case true =>
  have HE : Hid (TbCode L k n 2) := TbCode.two HK.out (fun h => by
   obtain ⟨l, hl, hn⟩ := hb.out.1 rfl
   exact hn (h.2 l hl)) rfl
  clear hb
  go_wp2_with fail
  go_ret
  exact ⟨⟨_, rfl, HE⟩, bel⟩
 have HF : Hid (TbForm L k n) := ⟨by rw [HM.out]; exact HQ.out, fun l hl => Classical.byContradiction fun hn => by
  have := hb.out.2 ⟨l, hl, hn⟩
  cases this⟩
 clear hb
 go_wp2_with fail
 go_loopw [27] (fun i wr => ∃ (c : Nat), c ≤ m ∧ i = .int .i64 c ∧ Hid (∀ (i : Nat) (l : List Int), i < c → L[i]? = some l → ∀ x ∈ l, 0 ≤ x ∧ x ≤ 1152921504606846976) ∧ Below w.heap.size w wr) (fun i _ => m - (intOf i).toNat)
 case atStart => exact ⟨0, by omega, rfl, Lib.hid (fun i l hi => absurd hi (by omega)), bel⟩
 case round =>
  obtain ⟨c, hc, rfl, hall, hB⟩ := hrel
  obtain ⟨wo, rfl⟩ : ∃ wo : World, wo = wr := ⟨_, rfl⟩
  have y5 := hB.size; (try simp only [zs] at y5)
  by_cases hlt : c < m
  ·obtain ⟨l, he⟩ : ∃ l, L[c]? = some l := ⟨_, List.getElem?_eq_getElem (by rw [HM.out]; exact hlt)⟩
   obtain ⟨a, D, d, rfl, hab, hcell, hnum, l3, l4⟩ := (H2.out.keep (.of_below hB)).at he
   have HE := Lib.hid he
   have HNUM := Lib.hid hnum
   have k0 : (0 : Int) ≤ (c : Int) := by omega
   have k1 : (c : Int) < (m : Int) := by omega
   clear he hnum
   go_wp2_with fail
   refine (containsZ_any _ 262 #[] (fun x => x < 0 ∨ 1152921504606846976 < x) _ l HNUM.out (enters Tryz.func262 (by kernel_rfl) (by kernel_rfl)) (fun W z hW hz => ktable2_any W z)).mono ?_
   rintro e w2 ⟨⟨b, rfl, hb⟩, hb2⟩
   have y2 := hb2.size; (try simp only [zs] at y2)
   cases b
   ·have HGD : Hid (∀ x ∈ l, 0 ≤ x ∧ x ≤ 1152921504606846976) := fun x hx => Classical.byContradiction fun hn => by
     have := hb.out.2 ⟨x, hx, by omega⟩
     cases this
    clear hb
    go_wp2_with fail
    go_roundw
    case rel =>
     refine ⟨c + 1, by omega, by go_num, Lib.hid (fun i l' hi hl' => ?_), bel⟩
     by_cases hic : i < c
     ·exact hall.out i l' hic hl'
     ·obtain rfl : i = c := by omega
      rw [HE.out] at hl'
      injection hl' with hl'
      subst hl'
      exact HGD.out
    case measure => simp only [intOf]; omega
   ·have HV : Hid (TbCode L k n 3) := TbCode.three HK.out HF.out (fun hr => by
     obtain ⟨x, hx, hq⟩ := hb.out.1 rfl
     have := hr l (List.mem_of_getElem? HE.out) x hx
     omega) rfl
    clear hb
    go_wp2_with fail
    go_ret
    exact ⟨⟨_, rfl, HV⟩, bel⟩
  ·obtain rfl : c = m := by omega
   have HV : Hid (TbCode L k n 0) := TbCode.four HK.out HF.out (fun l hl => by
    obtain ⟨i, hi, rfl⟩ := List.mem_iff_getElem.1 hl
    exact hall.out i _ (by rw [← HM.out]; exact hi) (List.getElem?_eq_getElem hi)) rfl
   go_wp2_with fail
   go_ret
   exact ⟨⟨_, rfl, HV⟩, hB⟩
end Go.Proofs.YtbdcjhoedhhabaaGreat

