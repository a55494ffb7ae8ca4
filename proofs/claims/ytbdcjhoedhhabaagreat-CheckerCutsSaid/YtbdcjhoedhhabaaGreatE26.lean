/- Contracts of the functions that the statements reach, part 26. -/
import Derived.Test.YtbdcjhoedhhabaaGreatRows
import Derived.Test.YtbdcjhoedhhabaaGreatE20
import Derived.Test.YtbdcjhoedhhabaaGreatE25
set_option linter.unusedSimpArgs false
set_option linter.unusedVariables false

/- Edges: slices.ContainsFunc, checker.graph, digraph.node, digraph.Check; closures of checker.Cut. Printed by gen_cu3.py. -/
namespace Go.Proofs.YtbdcjhoedhhabaaGreat
open Go.RowKit
attribute [local go_sem ↓] Go.wp_at_zero Go.wp_at_succ

/-- A function that tells whether P, at edges of a list. -/
def TellsE (w : World) (F : Nat) (caps : Array Value) (P : Int × Int → Prop) (L : List (Int × Int)) : Prop :=
 ∀ (W : World) (x y : Int), Below w.heap.size w W → (x, y) ∈ L → Calls Tryz.prog F (#[.agg #[.int .i64 x, .int .i64 y]] ++ caps) W fun e w' => Tells (P (x, y)) e ∧ Below W.heap.size W w'

set_option maxRecDepth 100000 in
set_option maxHeartbeats 4000000 in
theorem indexE_any (w : World) (F : Nat) (caps : Array Value) (P : Int × Int → Prop) (v : Value) (l : List (Int × Int)) (h : Tims w v l) (hen : Enters F) (hF : TellsE w F caps P l) :
 Calls Tryz.prog 371 #[v, .func (Fn.func F) #[] caps] w fun e w' => ∃ r : Int, e = .returned (.int .i64 r) ∧ ((0 ≤ r ∧ ∃ e ∈ l, P e) ∨ (r < 0 ∧ ∀ e ∈ l, ¬ P e)) ∧ Below w.heap.size w w' := by
 have H := Lib.hid h
 have HF := Lib.hid hF
 have hen2 : ∀ (args : Array Value) (W : World), (callFunc F args).run Tryz.prog W = .ok (.enter F args) W := hen
 obtain ⟨A, cap, rfl, h, l1, l2⟩ := h.op
 obtain ⟨m, hm⟩ : ∃ m, l.length = m := ⟨_, rfl⟩
 have HM := Lib.hid hm
 have H2 : Hid (Tims w (.slice A m cap) l) := by have h9 := H.out; rw [hm] at h9; exact h9
 rw [hm] at l1 ⊢
 have lm : m ≤ 9223372036854775807 := by unfold maxLen at l2; omega
 clear h hF hm H
 go_enter Tryz.func371, Tryz.ntmps371
 go_wp2_with fail
 go_loopw [8] (fun i wr => ∃ (c : Nat), c ≤ m ∧ i = .int .i64 c ∧ Hid (∀ i e, i < c → l[i]? = some e → ¬ P e) ∧ Below w.heap.size w wr) (fun i _ => m - (intOf i).toNat)
 case atStart => exact ⟨0, by omega, rfl, Lib.hid (fun i e hi => absurd hi (by omega)), bel⟩
 case round =>
  obtain ⟨c, hc, rfl, hall, hB⟩ := hrel
  obtain ⟨wo, rfl⟩ : ∃ wo : World, wo = wr := ⟨_, rfl⟩
  have y5 := hB.size; (try simp only [zs] at y5)
  by_cases hlt : c < m
  ·obtain ⟨⟨x, y⟩, he⟩ : ∃ e, l[c]? = some e := ⟨_, List.getElem?_eq_getElem (by rw [HM.out]; exact hlt)⟩
   obtain ⟨a, rfl, hab, cx, cx2, zb1, zb2⟩ := (H2.out.keep (.of_below hB)).at he
   simp only at cx cx2 zb1 zb2
   rw [addr_one] at cx2
   have HE := Lib.hid he
   have k0 : (0 : Int) ≤ (c : Int) := by omega
   have k1 : (c : Int) < (m : Int) := by omega
   have HLT := Lib.hid hlt
   clear he
   go_wp2_with fail
   refine (HF.out _ x y hB (List.mem_of_getElem? HE.out)).mono ?_
   rintro e w2 ⟨⟨b, rfl, hb⟩, hb2⟩
   have y2 := hb2.size; (try simp only [zs] at y2)
   cases b
   ·have HGD : Hid (¬ P (x, y)) := fun h => by have := hb.out.2 h; cases this
    clear hb
    go_wp2_with fail
    go_roundw
    case rel =>
     refine ⟨c + 1, by omega, by go_num, Lib.hid (fun i e hi he => ?_), bel⟩
     by_cases hic : i < c
     ·exact hall.out i e hic he
     ·obtain rfl : i = c := by omega
      rw [HE.out] at he
      injection he with he
      subst he
      exact HGD.out
    case measure => simp only [intOf]; omega
   ·have HGD : Hid (P (x, y)) := hb.out.1 rfl
    clear hb
    go_wp2_with fail
    go_ret
    exact ⟨_, rfl, .inl ⟨by omega, _, List.mem_of_getElem? HE.out, HGD.out⟩, bel⟩
  ·obtain rfl : c = m := by omega
   go_wp2_with fail
   go_ret
   exact ⟨_, rfl, .inr ⟨by decide, fun e he => by
    obtain ⟨i, hi, rfl⟩ := List.mem_iff_getElem.1 he
    exact hall.out i _ (by rw [← HM.out]; exact hi) (List.getElem?_eq_getElem hi)⟩, hB⟩

set_option maxRecDepth 100000 in
set_option maxHeartbeats 4000000 in
theorem containsE_any (w : World) (F : Nat) (caps : Array Value) (P : Int × Int → Prop) (v : Value) (l : List (Int × Int)) (h : Tims w v l) (hen : Enters F) (hF : TellsE w F caps P l) :
 Calls Tryz.prog 273 #[v, .func (Fn.func F) #[] caps] w fun e w' => Tells (∃ e ∈ l, P e) e ∧ Below w.heap.size w w' := by
 have H := Lib.hid h
 have HF := Lib.hid hF
 obtain ⟨A, cap, rfl, h, l1, l2⟩ := h.op
 clear h hF
 go_enter Tryz.func273, Tryz.ntmps273
 go_wp2_with fail
 refine (indexE_any _ F caps P _ l H.out hen HF.out).mono ?_
 rintro e w1 ⟨r, rfl, hr, hb1⟩
 have y1 := hb1.size; (try simp only [zs] at y1)
 have HR := Lib.hid hr
 clear hr
 by_cases h0 : 0 ≤ r
 ·have HV : Hid (∃ e ∈ l, P e) := by
   rcases HR.out with ⟨_, h⟩ | ⟨h, _⟩
   ·exact h
   ·omega
  go_wp2_with fail
  go_ret
  exact ⟨Tells.yes HV.out, bel⟩
 ·have HV : Hid (¬ ∃ e ∈ l, P e) := by
   rcases HR.out with ⟨h, _⟩ | ⟨_, h⟩
   ·omega
   ·exact fun ⟨e, he, hp⟩ => h e he hp
  have hd : decide (0 ≤ r) = false := decide_eq_false h0
  go_wp2_with fail
  go_ret
  exact ⟨by first | exact Tells.no HV.out | (simp only [hd]; exact Tells.no HV.out), bel⟩

set_option maxHeartbeats 4000000 in
theorem graph1_any (W : World) (g : Nat) (n x y : Int) (hc : W.cell? ⟨g, 0, none⟩ = some (.int .i64 n)) (hg : g < W.heap.size) :
 Calls Tryz.prog 274 (#[.agg #[.int .i64 x, .int .i64 y]] ++ #[.pointer (some ⟨g, 0, none⟩)]) W fun e w' => Tells (¬ ((0 ≤ x ∧ x < n) ∧ 0 ≤ y ∧ y < n)) e ∧ Below W.heap.size W w' := by
 by_cases h0 : x < 0
 ·have HV : Hid (¬ ((0 ≤ x ∧ x < n) ∧ 0 ≤ y ∧ y < n)) := fun h => by omega
  have d0 : decide (x < 0) = true := decide_eq_true h0
  clear h0
  go_enter Tryz.func274, Tryz.ntmps274
  go_wp2_with fail
  go_ret
  exact ⟨by first | exact Tells.yes HV.out | (rw [d0]; exact Tells.yes HV.out) | (simp only [*]; exact Tells.yes HV.out), bel⟩
 have d0 : decide (x < 0) = false := decide_eq_false h0
 by_cases h1 : n ≤ x
 ·have HV : Hid (¬ ((0 ≤ x ∧ x < n) ∧ 0 ≤ y ∧ y < n)) := fun h => by omega
  have d1 : decide (n ≤ x) = true := decide_eq_true h1
  clear h0 h1
  go_enter Tryz.func274, Tryz.ntmps274
  go_wp2_with fail
  go_ret
  exact ⟨by first | exact Tells.yes HV.out | (rw [d1]; exact Tells.yes HV.out) | (simp only [*]; exact Tells.yes HV.out), bel⟩
 have d1 : decide (n ≤ x) = false := decide_eq_false h1
 by_cases h2 : y < 0
 ·have HV : Hid (¬ ((0 ≤ x ∧ x < n) ∧ 0 ≤ y ∧ y < n)) := fun h => by omega
  have d2 : decide (y < 0) = true := decide_eq_true h2
  clear h0 h1 h2
  go_enter Tryz.func274, Tryz.ntmps274
  go_wp2_with fail
  go_ret
  exact ⟨by first | exact Tells.yes HV.out | (rw [d2]; exact Tells.yes HV.out) | (simp only [*]; exact Tells.yes HV.out), bel⟩
 have d2 : decide (y < 0) = false := decide_eq_false h2
 by_cases h3 : n ≤ y
 ·have HV : Hid (¬ ((0 ≤ x ∧ x < n) ∧ 0 ≤ y ∧ y < n)) := fun h => by omega
  have d3 : decide (n ≤ y) = true := decide_eq_true h3
  clear h0 h1 h2 h3
  go_enter Tryz.func274, Tryz.ntmps274
  go_wp2_with fail
  go_ret
  exact ⟨by first | exact Tells.yes HV.out | (rw [d3]; exact Tells.yes HV.out) | (simp only [*]; exact Tells.yes HV.out), bel⟩
 have d3 : decide (n ≤ y) = false := decide_eq_false h3
 have HV : Hid (¬ (¬ ((0 ≤ x ∧ x < n) ∧ 0 ≤ y ∧ y < n))) := fun h => h (by omega)
 clear h0 h1 h2 h3
 go_enter Tryz.func274, Tryz.ntmps274
 go_wp2_with fail
 go_ret
 exact ⟨by first | exact Tells.no HV.out | (rw [d3]; exact Tells.no HV.out) | (simp only [*]; exact Tells.no HV.out), bel⟩

set_option maxHeartbeats 4000000 in
theorem cut1_any (W : World) (g : Nat) (n x : Int) (hc : W.cell? ⟨g, 0, none⟩ = some (.int .i64 n)) (hg : g < W.heap.size) :
 Calls Tryz.prog 152 (#[.int .i64 x] ++ #[.pointer (some ⟨g, 0, none⟩)]) W fun e w' => Tells (¬ (0 ≤ x ∧ x < n)) e ∧ Below W.heap.size W w' := by
 by_cases h0 : x < 0
 ·have HV : Hid (¬ (0 ≤ x ∧ x < n)) := fun h => by omega
  have d0 : decide (x < 0) = true := decide_eq_true h0
  clear h0
  go_enter Tryz.func152, Tryz.ntmps152
  go_wp2_with fail
  go_ret
  exact ⟨by first | exact Tells.yes HV.out | (rw [d0]; exact Tells.yes HV.out) | (simp only [*]; exact Tells.yes HV.out), bel⟩
 have d0 : decide (x < 0) = false := decide_eq_false h0
 by_cases h1 : n ≤ x
 ·have HV : Hid (¬ (0 ≤ x ∧ x < n)) := fun h => by omega
  have d1 : decide (n ≤ x) = true := decide_eq_true h1
  clear h0 h1
  go_enter Tryz.func152, Tryz.ntmps152
  go_wp2_with fail
  go_ret
  exact ⟨by first | exact Tells.yes HV.out | (rw [d1]; exact Tells.yes HV.out) | (simp only [*]; exact Tells.yes HV.out), bel⟩
 have d1 : decide (n ≤ x) = false := decide_eq_false h1
 have HV : Hid (¬ (¬ (0 ≤ x ∧ x < n))) := fun h => h (by omega)
 clear h0 h1
 go_enter Tryz.func152, Tryz.ntmps152
 go_wp2_with fail
 go_ret
 exact ⟨by first | exact Tells.no HV.out | (rw [d1]; exact Tells.no HV.out) | (simp only [*]; exact Tells.no HV.out), bel⟩

set_option maxHeartbeats 4000000 in
theorem cut2_any (W : World) (x : Int) :
 Calls Tryz.prog 153 (#[.int .i64 x] ++ #[]) W fun e w' => Tells (1048576 < x) e ∧ Below W.heap.size W w' := by
 by_cases h0 : 1048576 < x
 ·have HV : Hid (1048576 < x) := h0
  have d0 : decide (1048576 < x) = true := decide_eq_true h0
  clear h0
  go_enter Tryz.func153, Tryz.ntmps153
  go_wp2_with fail
  go_ret
  exact ⟨by first | exact Tells.yes HV.out | (rw [d0]; exact Tells.yes HV.out) | (simp only [*]; exact Tells.yes HV.out), bel⟩
 have d0 : decide (1048576 < x) = false := decide_eq_false h0
 have HV : Hid (¬ (1048576 < x)) := h0
 clear h0
 go_enter Tryz.func153, Tryz.ntmps153
 go_wp2_with fail
 go_ret
 exact ⟨by first | exact Tells.no (by have h9 := HV.out; omega) | (rw [d0]; exact Tells.no (by have h9 := HV.out; omega)) | (simp only [*]; exact Tells.no (by have h9 := HV.out; omega)), bel⟩

set_option maxHeartbeats 4000000 in
theorem dnode_any (W : World) (n x : Int) (A : Option Addr) (m c : Nat) :
 Calls Tryz.prog 373 #[.agg #[.int .i64 n, .slice A m c], .int .i64 x] W fun e w' => Tells (0 ≤ x ∧ x < n) e ∧ Below W.heap.size W w' := by
 by_cases h0 : 0 ≤ x
 ·have d0 : decide (0 ≤ x) = true := decide_eq_true h0
  by_cases h1 : x < n
  ·have HV : Hid (0 ≤ x ∧ x < n) := ⟨h0, h1⟩
   have d1 : decide (x < n) = true := decide_eq_true h1
   clear h0 h1
   go_enter Tryz.func373, Tryz.ntmps373
   go_wp2_with fail
   go_ret
   exact ⟨by first | exact Tells.yes HV.out | (simp only [*]; exact Tells.yes HV.out), bel⟩
  ·have HV : Hid (¬ (0 ≤ x ∧ x < n)) := fun h => h1 h.2
   have d1 : decide (x < n) = false := decide_eq_false h1
   clear h0 h1
   go_enter Tryz.func373, Tryz.ntmps373
   go_wp2_with fail
   go_ret
   exact ⟨by first | exact Tells.no HV.out | (simp only [*]; exact Tells.no HV.out), bel⟩
 ·have HV : Hid (¬ (0 ≤ x ∧ x < n)) := fun h => h0 h.1
  have d0 : decide (0 ≤ x) = false := decide_eq_false h0
  clear h0
  go_enter Tryz.func373, Tryz.ntmps373
  go_wp2_with fail
  go_ret
  exact ⟨by first | exact Tells.no HV.out | (simp only [*]; exact Tells.no HV.out), bel⟩

set_option maxRecDepth 100000 in
set_option maxHeartbeats 8000000 in
theorem kgraph_any (w : World) (n : Int) (v : Value) (es : List (Int × Int)) (h : Tims w v es) :
 Calls Tryz.prog 151 #[.agg #[.int .i64 n, v]] w fun e w' => Tells (GraphOk n es) e ∧ Below w.heap.size w w' := by
 have H := Lib.hid h
 obtain ⟨A, cap, rfl, h, l1, l2⟩ := h.op
 clear h
 obtain ⟨m, hm⟩ : ∃ m, es.length = m := ⟨_, rfl⟩
 have HM := Lib.hid hm
 have H2 : Hid (Tims w (.slice A m cap) es) := by have h9 := H.out; rw [hm] at h9; exact h9
 rw [hm] at l1 ⊢
 clear hm H
 obtain ⟨P, hP⟩ : ∃ P, GraphOk n es = P := ⟨_, rfl⟩
 rw [hP]
 have HP : Hid (P ↔ GraphOk n es) := by rw [← hP]; exact Iff.rfl
 clear hP
 have L1 := made1 w #[.int .i64 n, .slice A m cap] 109
 by_cases h0 : n < 0
 ·have HV : Hid (¬ P) := fun h => by have h9 := HP.out.1 h; unfold GraphOk at h9; rw [HM.out] at h9; omega
  have d0 : decide (n < 0) = true := decide_eq_true h0
  clear h0
  go_enter Tryz.func151, Tryz.ntmps151
  go_wp2_with fail
  go_ret
  exact ⟨by first | exact Tells.no HV.out | (simp only [*]; exact Tells.no HV.out), bel⟩
 have d0 : decide (n < 0) = false := decide_eq_false h0
 by_cases h1 : 4096 < n
 ·have HV : Hid (¬ P) := fun h => by have h9 := HP.out.1 h; unfold GraphOk at h9; rw [HM.out] at h9; omega
  have d1 : decide (4096 < n) = true := decide_eq_true h1
  clear h0 h1
  go_enter Tryz.func151, Tryz.ntmps151
  go_wp2_with fail
  go_ret
  exact ⟨by first | exact Tells.no HV.out | (simp only [*]; exact Tells.no HV.out), bel⟩
 have d1 : decide (4096 < n) = false := decide_eq_false h1
 by_cases h2 : 1048576 < m
 ·have HV : Hid (¬ P) := fun h => by have h9 := HP.out.1 h; unfold GraphOk at h9; rw [HM.out] at h9; omega
  have d2 : decide (1048576 < m) = true := decide_eq_true h2
  have e2 : decide ((1048576 : Int) < (m : Int)) = true := decide_eq_true (by omega)
  clear h0 h1 h2
  go_enter Tryz.func151, Tryz.ntmps151
  go_wp2_with fail
  go_ret
  exact ⟨by first | exact Tells.no HV.out | (simp only [*]; exact Tells.no HV.out), bel⟩
 have d2 : decide (1048576 < m) = false := decide_eq_false h2
 have e2 : decide ((1048576 : Int) < (m : Int)) = false := decide_eq_false (by omega)
 have HR0 : Hid ((0 ≤ n ∧ n ≤ 4096) ∧ m ≤ 1048576) := by show _ ∧ _; omega
 have hm20 : m ≤ 1048576 := by omega
 clear h0 h1 h2
 have HC : Hid (∀ W, Below (w.heap.size + 1) (w.alloc (.cells #[.int .i64 n, .slice A m cap] 109)) W → W.cell? ⟨w.heap.size, 0, none⟩ = some (.int .i64 n) ∧ w.heap.size < W.heap.size) := fun W hW => by
  have L2 : Loc W w.heap.size 109 #[.int .i64 n, .slice A m cap] := Loc.below L1 (by simpa using hW)
  exact ⟨Loc.cell L2 0, L2.lt⟩
 clear L1
 go_enter Tryz.func151, Tryz.ntmps151
 go_wp2_with fail
 refine (containsE_any _ 274 #[.pointer (some ⟨w.heap.size, 0, none⟩)] (fun e => ¬ ((0 ≤ e.1 ∧ e.1 < n) ∧ 0 ≤ e.2 ∧ e.2 < n)) _ es (H2.out.keep kp) (enters Tryz.func274 (by kernel_rfl) (by kernel_rfl)) (fun W x y hW _ => by
  obtain ⟨q1, q2⟩ := HC.out W (by simpa using hW)
  exact graph1_any W w.heap.size n x y q1 q2)).mono ?_
 rintro e w1 ⟨⟨b, rfl, hb⟩, hb1⟩
 have y1 := hb1.size; (try simp only [zs] at y1)
 cases b
 ·have HV : Hid P := HP.out.2 ⟨HR0.out.1, by rw [HM.out]; exact HR0.out.2, fun e he => Classical.byContradiction fun hn => by have := hb.out.2 ⟨e, he, hn⟩; cases this⟩
  clear hb
  go_wp2_with fail
  go_ret
  exact ⟨by first | exact Tells.yes HV.out | (simp only [*]; exact Tells.yes HV.out), bel⟩
 ·have HV : Hid (¬ P) := fun h => by
   obtain ⟨e, he, hn⟩ := hb.out.1 rfl
   exact hn ((HP.out.1 h).2.2 e he)
  clear hb
  go_wp2_with fail
  go_ret
  exact ⟨by first | exact Tells.no HV.out | (simp only [*]; exact Tells.no HV.out), bel⟩

set_option maxRecDepth 100000 in
set_option maxHeartbeats 8000000 in
theorem dcheck_any (w : World) (n : Int) (v : Value) (es : List (Int × Int)) (h : Tims w v es) :
 Calls Tryz.prog 278 #[.agg #[.int .i64 n, v]] w fun e w' => (∃ r : Int, e = .returned (.int .i64 r) ∧ Hid (r = 0 ↔ GraphOk n es)) ∧ Below w.heap.size w w' := by
 have H := Lib.hid h
 obtain ⟨A, cap, rfl, h, l1, l2⟩ := h.op
 clear h
 obtain ⟨m, hm⟩ : ∃ m, es.length = m := ⟨_, rfl⟩
 have HM := Lib.hid hm
 have H2 : Hid (Tims w (.slice A m cap) es) := by have h9 := H.out; rw [hm] at h9; exact h9
 rw [hm] at l1 ⊢
 clear hm H
 obtain ⟨P, hP⟩ : ∃ P, GraphOk n es = P := ⟨_, rfl⟩
 rw [hP]
 have HP : Hid (P ↔ GraphOk n es) := by rw [← hP]; exact Iff.rfl
 clear hP
 have L1 := made1 w #[.int .i64 n, .slice A m cap] 109
 by_cases h0 : n < 0
 ·have HV : Hid (¬ P) := fun h => by have h9 := HP.out.1 h; unfold GraphOk at h9; rw [HM.out] at h9; omega
  have d0 : decide (n < 0) = true := decide_eq_true h0
  clear h0
  go_enter Tryz.func278, Tryz.ntmps278
  go_wp2_with fail
  go_ret
  exact ⟨⟨_, rfl, Lib.hid ⟨fun h => absurd h (by decide), fun h => absurd h HV.out⟩⟩, bel⟩
 have d0 : decide (n < 0) = false := decide_eq_false h0
 by_cases h1 : 4096 < n
 ·have HV : Hid (¬ P) := fun h => by have h9 := HP.out.1 h; unfold GraphOk at h9; rw [HM.out] at h9; omega
  have d1 : decide (4096 < n) = true := decide_eq_true h1
  clear h0 h1
  go_enter Tryz.func278, Tryz.ntmps278
  go_wp2_with fail
  go_ret
  exact ⟨⟨_, rfl, Lib.hid ⟨fun h => absurd h (by decide), fun h => absurd h HV.out⟩⟩, bel⟩
 have d1 : decide (4096 < n) = false := decide_eq_false h1
 by_cases h2 : 1048576 < m
 ·have HV : Hid (¬ P) := fun h => by have h9 := HP.out.1 h; unfold GraphOk at h9; rw [HM.out] at h9; omega
  have d2 : decide (1048576 < m) = true := decide_eq_true h2
  have e2 : decide ((1048576 : Int) < (m : Int)) = true := decide_eq_true (by omega)
  clear h0 h1 h2
  go_enter Tryz.func278, Tryz.ntmps278
  go_wp2_with fail
  go_ret
  exact ⟨⟨_, rfl, Lib.hid ⟨fun h => absurd h (by decide), fun h => absurd h HV.out⟩⟩, bel⟩
 have d2 : decide (1048576 < m) = false := decide_eq_false h2
 have e2 : decide ((1048576 : Int) < (m : Int)) = false := decide_eq_false (by omega)
 have HR0 : Hid ((0 ≤ n ∧ n ≤ 4096) ∧ m ≤ 1048576) := by show _ ∧ _; omega
 have hm20 : m ≤ 1048576 := by omega
 clear h0 h1 h2
 go_enter Tryz.func278, Tryz.ntmps278
 go_wp2_with fail
 clear d0 d1 d2 e2
 go_loopw [20] (fun i wr => ∃ (c : Nat), c ≤ m ∧ i = .int .i64 c ∧ Hid (∀ (i : Nat) (e : Int × Int), i < c → es[i]? = some e → (0 ≤ e.1 ∧ e.1 < n) ∧ 0 ≤ e.2 ∧ e.2 < n) ∧ Hid (Loc wr w.heap.size 109 #[.int .i64 n, .slice A m cap]) ∧ Below w.heap.size w wr) (fun i _ => m - (intOf i).toNat)
 case atStart => exact ⟨0, by omega, rfl, Lib.hid (fun i l hi => absurd hi (by omega)), Lib.hid L1.to, bel⟩
 case round =>
  clear L1
  obtain ⟨c, hc, rfl, hall, hL, hB⟩ := hrel
  obtain ⟨wo, rfl⟩ : ∃ wo : World, wo = wr := ⟨_, rfl⟩
  have y5 := hB.size; (try simp only [zs] at y5)
  by_cases hlt : c < m
  ·obtain ⟨⟨x, y⟩, he⟩ : ∃ e, es[c]? = some e := ⟨_, List.getElem?_eq_getElem (by rw [HM.out]; exact hlt)⟩
   obtain ⟨a, rfl, hab, cx, cx2, zb1, zb2⟩ := (H2.out.keep (.of_below hB)).at he
   simp only at cx cx2 zb1 zb2
   rw [addr_one] at cx2
   have HE := Lib.hid he
   have k0 : (0 : Int) ≤ (c : Int) := by omega
   have k1 : (c : Int) < (m : Int) := by omega
   obtain ⟨⟨e1, e2⟩, f1, q1⟩ := Loc.two hL.out
   have HBAD : Hid (¬ ((0 ≤ x ∧ x < n) ∧ 0 ≤ y ∧ y < n) → ¬ P) := fun hq hp => hq ((HP.out.1 hp).2.2 _ (List.mem_of_getElem? HE.out))
   have HNEXT : Hid ((0 ≤ x ∧ x < n) ∧ 0 ≤ y ∧ y < n → ∀ (i : Nat) (e : Int × Int), i < c + 1 → es[i]? = some e → (0 ≤ e.1 ∧ e.1 < n) ∧ 0 ≤ e.2 ∧ e.2 < n) := fun hq i r' hi hr' => by
    by_cases hh : i < c
    ·exact hall.out i r' hh hr'
    ·obtain rfl : i = c := by omega
     rw [HE.out] at hr'
     injection hr' with hr'
     subst hr'
     exact hq
   have LE := made1 wo #[.int .i64 x, .int .i64 y] 200
   have HLA : Hid (Loc (wo.alloc (.cells #[.int .i64 x, .int .i64 y] 200)) w.heap.size 109 #[.int .i64 n, .slice (some a) m cap]) := hL.out.alloc _
   have HBA : Hid (Below w.heap.size w (wo.alloc (.cells #[.int .i64 x, .int .i64 y] 200))) := hB.alloc y5 _
   clear he
   go_wp2_with fail
   refine (dnode_any _ n x (some a) m cap).mono ?_
   rintro e w1 ⟨⟨b1, rfl, hb1⟩, hbl1⟩
   have y1 := hbl1.size; (try simp only [zs] at y1)
   have L3 : Loc w1 w.heap.size 109 #[.int .i64 n, .slice (some a) m cap] := Loc.below HLA.out hbl1
   have L4 : Loc w1 wo.heap.size 200 #[.int .i64 x, .int .i64 y] := Loc.below LE hbl1
   have HL3 := Lib.hid L3
   have HB1 : Hid (Below w.heap.size w w1) := HBA.out.trans (hbl1.mono (by simp only [World.size_alloc]; omega))
   obtain ⟨⟨e3, e3'⟩, f3, q3⟩ := Loc.two L3
   obtain ⟨⟨e4, e4'⟩, f4, q4⟩ := Loc.two L4
   clear LE L3 L4 e1 e2 f1 q1
   cases b1
   case false =>
    have HV : Hid (¬ P) := HBAD.out (fun h => by have := hb1.out.2 h.1; cases this)
    clear hb1
    go_wp2_with fail
    go_ret
    exact ⟨⟨_, rfl, Lib.hid ⟨fun h => absurd h (by decide), fun h => absurd h HV.out⟩⟩, HB1.out⟩
   case true =>
    have HX : Hid (0 ≤ x ∧ x < n) := hb1.out.1 rfl
    clear hb1
    go_wp2_with fail
    refine (dnode_any _ n y (some a) m cap).mono ?_
    rintro e w2 ⟨⟨b2, rfl, hb2⟩, hbl2⟩
    have y2 := hbl2.size; (try simp only [zs] at y2)
    have HL5 : Hid (Loc w2 w.heap.size 109 #[.int .i64 n, .slice (some a) m cap]) := Loc.below HL3.out hbl2
    have HB2 : Hid (Below w.heap.size w w2) := HB1.out.trans (hbl2.mono HB1.out.size)
    cases b2
    case false =>
     have HV : Hid (¬ P) := HBAD.out (fun h => by have := hb2.out.2 h.2; cases this)
     clear hb2
     go_wp2_with fail
     go_ret
     exact ⟨⟨_, rfl, Lib.hid ⟨fun h => absurd h (by decide), fun h => absurd h HV.out⟩⟩, HB2.out⟩
    case true =>
     have HN1 := Lib.hid (HNEXT.out ⟨HX.out, hb2.out.1 rfl⟩)
     clear hb2
     go_wp2_with fail
     go_roundw
     case rel => exact ⟨c + 1, by omega, by go_num, HN1, HL5, HB2.out⟩
     case measure => simp only [intOf]; omega
  ·obtain rfl : c = m := by omega
   have HV : Hid P := HP.out.2 ⟨HR0.out.1, by rw [HM.out]; exact HR0.out.2, fun e he => by
    obtain ⟨i, hi, rfl⟩ := List.getElem_of_mem he
    exact hall.out i _ (by rw [← HM.out]; exact hi) (List.getElem?_eq_getElem hi)⟩
   go_wp2_with fail
   go_ret
   exact ⟨⟨_, rfl, Lib.hid ⟨fun _ => HV.out, fun _ => rfl⟩⟩, hB⟩

/- slices.Contains at integers; rows of bools that a property tells; mincut.marks. -/

set_option maxRecDepth 100000 in
set_option maxHeartbeats 4000000 in
theorem indexV_any (w : World) (x : Int) (v : Value) (L : List Int) (h : IntsV w v L) :
 Calls Tryz.prog 372 #[v, .int .i64 x] w fun e w' => (∃ r : Int, e = .returned (.int .i64 r) ∧ Hid (0 ≤ r ↔ x ∈ L)) ∧ Below w.heap.size w w' := by
 have H := Lib.hid h
 obtain ⟨A, cap, rfl, h, l1, l2⟩ := h.op
 have lm : L.length ≤ 9223372036854775807 := by unfold maxLen at l2; omega
 clear h
 obtain ⟨m, hm⟩ : ∃ m, L.length = m := ⟨_, rfl⟩
 have HM := Lib.hid hm
 have H2 : Hid (IntsV w (.slice A m cap) L) := by have h9 := H.out; rw [hm] at h9; exact h9
 rw [hm] at l1 lm
 rw [hm]
 clear hm H
 go_enter Tryz.func372, Tryz.ntmps372
 go_wp2_with fail
 go_loopw [8] (fun i wr => ∃ (c : Nat), c ≤ m ∧ i = .int .i64 c ∧ Hid (∀ i l, i < c → L[i]? = some l → ¬ x = l) ∧ Below w.heap.size w wr) (fun i _ => m - (intOf i).toNat)
 case atStart => exact ⟨0, by omega, rfl, Lib.hid (fun i l hi => absurd hi (by omega)), bel⟩
 case round =>
  obtain ⟨c, hc, rfl, hall, hB⟩ := hrel
  obtain ⟨wo, rfl⟩ : ∃ wo : World, wo = wr := ⟨_, rfl⟩
  have y5 := hB.size; (try simp only [zs] at y5)
  by_cases hlt : c < m
  ·obtain ⟨l, he⟩ : ∃ l, L[c]? = some l := ⟨_, List.getElem?_eq_getElem (by rw [HM.out]; exact hlt)⟩
   obtain ⟨a, rfl, hab, hcell, zb1, zb2⟩ := (H2.out.keep (.of_below hB)).at he
   have HE := Lib.hid he
   have k0 : (0 : Int) ≤ (c : Int) := by omega
   have k1 : (c : Int) < (m : Int) := by omega
   clear he
   by_cases hx : x = l
   ·have HX := Lib.hid hx
    have d1 : (x == l) = true := beq_iff_eq.2 hx
    clear hx
    go_wp2_with fail
    go_ret
    exact ⟨⟨_, rfl, Lib.hid ⟨fun _ => by rw [HX.out]; exact List.mem_of_getElem? HE.out, fun _ => by omega⟩⟩, hB⟩
   ·have HX : Hid (¬ x = l) := hx
    have d1 : (x == l) = false := beq_eq_false_iff_ne.2 hx
    clear hx
    go_wp2_with fail
    go_roundw
    case rel =>
     refine ⟨c + 1, by omega, by go_num, Lib.hid (fun i l' hi hl' => ?_), bel⟩
     by_cases hic : i < c
     ·exact hall.out i l' hic hl'
     ·obtain rfl : i = c := by omega
      rw [HE.out] at hl'
      injection hl' with hl'
      subst hl'
      exact HX.out
    case measure => simp only [intOf]; omega
  ·obtain rfl : c = m := by omega
   have HALL : Hid (¬ x ∈ L) := fun hl => by
    obtain ⟨i, hi, e⟩ := List.mem_iff_getElem.1 hl
    exact hall.out i _ (by rw [← HM.out]; exact hi) (List.getElem?_eq_getElem hi) e.symm
   go_wp2_with fail
   go_ret
   exact ⟨⟨_, rfl, Lib.hid ⟨fun h => absurd h (by decide), fun h => absurd h HALL.out⟩⟩, hB⟩

set_option maxRecDepth 100000 in
set_option maxHeartbeats 4000000 in
theorem containsV_any (w : World) (x : Int) (v : Value) (L : List Int) (h : IntsV w v L) :
 Calls Tryz.prog 277 #[v, .int .i64 x] w fun e w' => Tells (x ∈ L) e ∧ Below w.heap.size w w' := by
 have H := Lib.hid h
 obtain ⟨A, cap, rfl, h, l1, l2⟩ := h.op
 clear h
 go_enter Tryz.func277, Tryz.ntmps277
 go_wp2_with fail
 refine (indexV_any _ x _ L H.out).mono ?_
 rintro e w1 ⟨⟨r, rfl, hr⟩, hb1⟩
 have y1 := hb1.size; (try simp only [zs] at y1)
 by_cases h0 : 0 ≤ r
 ·have HV : Hid (x ∈ L) := hr.out.1 h0
  have hd : decide (0 ≤ r) = true := decide_eq_true h0
  clear hr
  go_wp2_with fail
  go_ret
  exact ⟨by first | exact Tells.yes HV.out | (simp only [hd]; exact Tells.yes HV.out), bel⟩
 ·have HV : Hid (¬ x ∈ L) := fun h => h0 (hr.out.2 h)
  have hd : decide (0 ≤ r) = false := decide_eq_false h0
  clear hr
  go_wp2_with fail
  go_ret
  exact ⟨by first | exact Tells.no HV.out | (simp only [hd]; exact Tells.no HV.out), bel⟩

/-- The row of bools that a property of the numbers below n tells. -/
noncomputable def rowP (n : Nat) (p : Int → Prop) : List Bool := (List.range n).map fun (i : Nat) => @decide (p i) (Classical.propDecidable _)
section
variable {n : Nat} {p q : Int → Prop}
theorem rowP_len : (rowP n p).length = n := by simp [rowP]
theorem rowP_yes {i : Nat} (hi : i < n) (h : p i) : (rowP n p)[i]? = some true := by
 unfold rowP
 rw [List.getElem?_map, List.getElem?_range hi]
 simp [h]
theorem rowP_no {i : Nat} (hi : i < n) (h : ¬ p i) : (rowP n p)[i]? = some false := by
 unfold rowP
 rw [List.getElem?_map, List.getElem?_range hi]
 simp [h]
theorem rowP_ext (h : ∀ i : Nat, i < n → (p i ↔ q i)) : rowP n p = rowP n q := by
 apply List.ext_getElem?
 intro i
 by_cases hi : i < n
 ·by_cases hp : p i
  ·rw [rowP_yes hi hp, rowP_yes hi ((h i hi).1 hp)]
  ·rw [rowP_no hi hp, rowP_no hi (fun hq => hp ((h i hi).2 hq))]
 ·rw [List.getElem?_eq_none (by rw [rowP_len]; omega), List.getElem?_eq_none (by rw [rowP_len]; omega)]
theorem rowP_set (k : Nat) : (rowP n p).set k true = rowP n (fun i => p i ∨ i = (k : Int)) := by
 apply List.ext_getElem?
 intro i
 by_cases hi : i < n
 ·by_cases e : i = k
  ·subst e
   rw [List.getElem?_set_self (by rw [rowP_len]; exact hi), rowP_yes hi (.inr rfl)]
  ·rw [List.getElem?_set_ne (fun h => e h.symm)]
   by_cases hp : p i
   ·rw [rowP_yes hi hp, rowP_yes hi (.inl hp)]
   ·rw [rowP_no hi hp, rowP_no hi (fun hq => by rcases hq with hq | hq; exact hp hq; omega)]
 ·rw [List.getElem?_eq_none (by rw [List.length_set, rowP_len]; omega), List.getElem?_eq_none (by rw [rowP_len]; omega)]
theorem rowP_false : List.replicate n false = rowP n (fun _ => False) := by
 apply List.ext_getElem?
 intro i
 by_cases hi : i < n
 ·rw [rowP_no hi id, List.getElem?_replicate, if_pos hi]
 ·rw [List.getElem?_eq_none (by simp; omega), List.getElem?_eq_none (by rw [rowP_len]; omega)]
end
theorem mem_take_succ {zs : List Int} {c : Nat} {z : Int} (hz : zs[c]? = some z) (i : Int) : (i ∈ zs.take c ∨ i = z) ↔ i ∈ zs.take (c + 1) := by
 rw [List.take_add_one, hz]
 simp
theorem rowB_zeros {w : World} {base g n : Nat} (h : w.ownsRow base 4 1 (.slice (some ⟨g, 0, none⟩) n n) n (List.replicate n (.bool false))) : RowB w g (List.replicate n false) := by
 have hl := h.1
 rcases h.2 with ⟨h', _⟩ | ⟨g', cap', cur, h', _, hg, _, _, hsz, htake⟩
 ·simp at h'
 ·simp only [Value.slice.injEq, Option.some.injEq, Addr.mk.injEq, and_true, true_and] at h'
  obtain ⟨rfl, rfl⟩ := h'
  have : cur.toList = List.replicate n (.bool false) := by
   rw [← htake, List.take_of_length_le (by simp; omega)]
  unfold RowB Loc
  rw [hg, List.map_replicate, ← this]

set_option maxRecDepth 100000 in
set_option maxHeartbeats 4000000 in
theorem marks_any (w : World) (n : Nat) (v : Value) (zs : List Int) (h : IntsV w v zs) (hr : NodesOk n zs) (hn : n ≤ 4096) :
 Calls Tryz.prog 160 #[.int .i64 n, v] w fun e w' => (∃ g : Nat, e = .returned (.slice (some ⟨g, 0, none⟩) n n) ∧ w.heap.size ≤ g ∧ Hid (RowB w' g (rowP n (· ∈ zs)))) ∧ Below w.heap.size w w' := by
 have H := Lib.hid h
 have HR := Lib.hid hr
 obtain ⟨A, cap, rfl, h, l1, l2⟩ := h.op
 clear h hr
 obtain ⟨m, hm⟩ : ∃ m, zs.length = m := ⟨_, rfl⟩
 have HM := Lib.hid hm
 have H2 : Hid (IntsV w (.slice A m cap) zs) := by have h9 := H.out; rw [hm] at h9; exact h9
 have lm : m ≤ 9223372036854775807 := by unfold maxLen at l2; omega
 rw [hm] at l1 ⊢
 clear hm H
 go_enter Tryz.func160, Tryz.ntmps160
 go_wp2_with (at_make; refine wpList_makeN _ rfl _ _ rfl Tryz.underlying137 info_bool1 rfl w.heap.size n rfl rfl rfl rfl (by omega) (by unfold maxLen; omega) (Nat.le_refl _) ?_)
 intro w1 hrow hg1
 have HB1 : Hid (Below w.heap.size w w1) := below_none (Below.refl _ _) hg1 (Nat.le_refl _)
 have hB1 := HB1.out
 have y1 := hB1.size; (try simp only [zs] at y1)
 have HR1 : Hid (RowB w1 w.heap.size (rowP n (· ∈ zs.take 0))) := by show RowB _ _ _; rw [rowP_ext (q := fun _ => False) (fun i _ => by simp), ← rowP_false]; exact rowB_zeros hrow
 clear hrow hg1
 go_wp2_with fail
 go_loopw [12] (fun i wr => ∃ (c : Nat), c ≤ m ∧ i = .int .i64 c ∧ Hid (RowB wr w.heap.size (rowP n (· ∈ zs.take c))) ∧ Below w.heap.size w wr) (fun i _ => m - (intOf i).toNat)
 case atStart => exact ⟨0, by omega, rfl, HR1, HB1.out⟩
 case round =>
  clear HR1 HB1
  obtain ⟨c, hc, rfl, hRW, hB⟩ := hrel
  obtain ⟨wo, rfl⟩ : ∃ wo : World, wo = wr := ⟨_, rfl⟩
  have y5 := hB.size; (try simp only [zs] at y5)
  by_cases hlt : c < m
  ·obtain ⟨z, hz⟩ : ∃ z, zs[c]? = some z := ⟨_, List.getElem?_eq_getElem (by rw [HM.out]; exact hlt)⟩
   obtain ⟨a, rfl, hab, hcell, -, -⟩ := (H2.out.keep (.of_below hB)).at hz
   obtain ⟨hz0, hz1⟩ := HR.out z (List.mem_of_getElem? hz)
   obtain ⟨k, rfl⟩ : ∃ k : Nat, z = (k : Int) := ⟨z.toNat, by omega⟩
   have hkn : k < n := by omega
   obtain ⟨b, hb⟩ : ∃ b, (rowP n (· ∈ zs.take c))[k]? = some b := ⟨_, List.getElem?_eq_getElem (by rw [rowP_len]; exact hkn)⟩
   have cw := RowB.cell hRW.out hb
   have cf := RowB.frz hRW.out k
   have HNX : Hid (RowB (wo.setCell ⟨w.heap.size, k, none⟩ (.bool true)) w.heap.size (rowP n (· ∈ zs.take (c + 1)))) := by
    have h9 := RowB.set hRW.out k true
    rw [rowP_set, rowP_ext (fun i _ => mem_take_succ hz (i : Int))] at h9
    exact h9
   have k0 : (0 : Int) ≤ (c : Int) := by omega
   have k1 : (c : Int) < (m : Int) := by omega
   have k2 : (0 : Int) ≤ (k : Int) := by omega
   have k3 : (k : Int) < (n : Int) := by omega
   clear hz hb
   go_wp2_with fail
   go_roundw
   case rel => exact ⟨c + 1, by omega, by go_num, HNX, hB.setCell (p := ⟨w.heap.size, k, none⟩) (Nat.le_refl _) _⟩
   case measure => simp only [intOf]; omega
  ·obtain rfl : c = m := by omega
   have HE : Hid (RowB wo w.heap.size (rowP n (· ∈ zs))) := by
    have h9 := hRW.out
    rw [List.take_of_length_le (by rw [HM.out]; exact Nat.le_refl _)] at h9
    exact h9
   go_wp2_with fail
   go_ret
   exact ⟨⟨_, rfl, Nat.le_refl _, HE⟩, hB⟩
end Go.Proofs.YtbdcjhoedhhabaaGreat

