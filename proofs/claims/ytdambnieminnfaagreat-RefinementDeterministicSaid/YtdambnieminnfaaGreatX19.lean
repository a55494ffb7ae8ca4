/- Contracts of the functions that the statements reach, part 19. -/
import Derived.Test.YtdambnieminnfaaGreatRows
import Derived.Test.YtdambnieminnfaaGreatX1
import Derived.Test.YtdambnieminnfaaGreatX18
set_option linter.unusedSimpArgs false
set_option linter.unusedVariables false

/- slices.ContainsFunc at lists of integers, for any predicate. -/
namespace Go.Proofs.YtdambnieminnfaaGreat
open Go.RowKit
attribute [local go_sem ↓] Go.wp_at_zero Go.wp_at_succ

/-- A function with a body: a call of it enters it. -/
def Enters (F : Nat) : Prop := ∀ (args : Array Value) (W : World), (callFunc F args).run Tryz.prog W = .ok (.enter F args) W
theorem enters {F : Nat} {fn : Func} (hf : Tryz.prog.funcs[F]? = some fn) (hb : fn.body.isNone = false) (hn : (fn.name == "runtime.NumGoroutine") = false) : Enters F := fun args W => by
 have hb2 : ¬ fn.body = none := fun h => by rw [h] at hb; cases hb
 have hn2 := beq_eq_false_iff_ne.1 hn
 simp [callFunc, go_sem, hf, hb2, hn2]
/-- A function that tells whether P, at the rows of L. -/
def TellsI (w : World) (F : Nat) (caps : Array Value) (P : List Int → Prop) (L : List (List Int)) : Prop :=
 ∀ (W : World) (A : Option Addr) (c : Nat) (l : List Int), Below w.heap.size w W → IntsV W (.slice A l.length c) l → l ∈ L → Calls Tryz.prog F (#[.slice A l.length c] ++ caps) W fun e w' => Tells (P l) e ∧ Below W.heap.size W w'

set_option maxRecDepth 100000 in
set_option maxHeartbeats 4000000 in
theorem indexI_any (w : World) (F : Nat) (caps : Array Value) (P : List Int → Prop) (v : Value) (L : List (List Int)) (h : IMat w v L) (hen : Enters F) (hF : TellsI w F caps P L) :
 Calls Tryz.prog 66 #[v, .func (Fn.func F) #[] caps] w fun e w' => ∃ r : Int, e = .returned (.int .i64 r) ∧ ((0 ≤ r ∧ ∃ l ∈ L, P l) ∨ (r < 0 ∧ ∀ l ∈ L, ¬ P l)) ∧ Below w.heap.size w w' := by
 have H := Lib.hid h
 have HF := Lib.hid hF
 have hen2 : ∀ (args : Array Value) (W : World), (callFunc F args).run Tryz.prog W = .ok (.enter F args) W := hen
 obtain ⟨A, cap, rfl, h, l1, l2⟩ := h.op
 have lm : L.length ≤ 9223372036854775807 := by unfold maxLen at l2; omega
 clear h hF
 obtain ⟨m, hm⟩ : ∃ m, L.length = m := ⟨_, rfl⟩
 rw [hm] at l1 lm
 rw [hm]
 have HM := Lib.hid hm
 clear hm
 go_enter Tryz.func66, Tryz.ntmps66
 go_wp2_with fail
 go_loopw [8] (fun i wr => ∃ (c : Nat), c ≤ m ∧ i = .int .i64 c ∧ Hid (∀ i l, i < c → L[i]? = some l → ¬ P l) ∧ Below w.heap.size w wr) (fun i _ => m - (intOf i).toNat)
 case atStart => exact ⟨0, by omega, rfl, Lib.hid (fun i l hi => absurd hi (by omega)), bel⟩
 case round =>
  obtain ⟨c, hc, rfl, hall, hB⟩ := hrel
  obtain ⟨wo, rfl⟩ : ∃ wo : World, wo = wr := ⟨_, rfl⟩
  have y5 := hB.size; (try simp only [zs] at y5)
  by_cases hlt : c < m
  ·obtain ⟨l, he⟩ : ∃ l, L[c]? = some l := ⟨_, List.getElem?_eq_getElem (by rw [HM.out]; exact hlt)⟩
   have hR := H.out.keep (.of_below hB)
   rw [HM.out] at hR
   obtain ⟨a, D, d, rfl, hab, hcell, hnum, l3, l4⟩ := hR.at he
   have HE := Lib.hid he
   have HNUM := Lib.hid hnum
   have k0 : (0 : Int) ≤ (c : Int) := by omega
   have k1 : (c : Int) < (m : Int) := by omega
   clear he hR hnum
   go_wp2_with fail
   refine (HF.out _ D d l hB HNUM.out (List.mem_of_getElem? HE.out)).mono ?_
   rintro e w2 ⟨⟨b, rfl, hb⟩, hb2⟩
   have y2 := hb2.size; (try simp only [zs] at y2)
   cases b
   ·have HGD : Hid (¬ P l) := fun h => by have := hb.out.2 h; cases this
    clear hb
    go_wp2_with fail
    go_roundw
    case rel =>
     refine ⟨c + 1, by omega, by go_num, Lib.hid (fun i l' hi hl' => ?_), bel⟩
     by_cases hic : i < c
     ·exact hall.out i l' hic hl'
     ·obtain rfl : i = c := by omega
      rw [HE.out] at hl'
      injection hl' with hl'
      subst hl'
      exact HGD.out
    case measure => simp only [intOf]; omega
   ·have HGD : Hid (P l) := hb.out.1 rfl
    clear hb
    go_wp2_with fail
    go_ret
    exact ⟨_, rfl, .inl ⟨by omega, l, List.mem_of_getElem? HE.out, HGD.out⟩, bel⟩
  ·obtain rfl : c = m := by omega
   have HALL : Hid (∀ l ∈ L, ¬ P l) := fun l hl => by
    obtain ⟨i, hi, rfl⟩ := List.mem_iff_getElem.1 hl
    exact hall.out i _ (by rw [← HM.out]; exact hi) (List.getElem?_eq_getElem hi)
   go_wp2_with fail
   go_ret
   exact ⟨_, rfl, .inr ⟨by decide, HALL.out⟩, hB⟩
set_option maxRecDepth 100000 in
set_option maxHeartbeats 4000000 in
theorem containsI_any (w : World) (F : Nat) (caps : Array Value) (P : List Int → Prop) (v : Value) (L : List (List Int)) (h : IMat w v L) (hen : Enters F) (hF : TellsI w F caps P L) :
 Calls Tryz.prog 26 #[v, .func (Fn.func F) #[] caps] w fun e w' => Tells (∃ l ∈ L, P l) e ∧ Below w.heap.size w w' := by
 have H := Lib.hid h
 have HF := Lib.hid hF
 obtain ⟨A, cap, rfl, h, l1, l2⟩ := h.op
 clear h hF
 go_enter Tryz.func26, Tryz.ntmps26
 go_wp2_with fail
 refine (indexI_any _ F caps P _ L H.out hen HF.out).mono ?_
 rintro e w1 ⟨r, rfl, hr, hb1⟩
 have y1 := hb1.size; (try simp only [zs] at y1)
 have HR := Lib.hid hr
 clear hr
 by_cases h0 : 0 ≤ r
 ·have HV : Hid (∃ l ∈ L, P l) := by
   rcases HR.out with ⟨_, h⟩ | ⟨h, _⟩
   ·exact h
   ·omega
  go_wp2_with fail
  go_ret
  exact ⟨Tells.yes HV.out, bel⟩
 ·have HV : Hid (¬ ∃ l ∈ L, P l) := by
   rcases HR.out with ⟨h, _⟩ | ⟨_, h⟩
   ·omega
   ·exact fun ⟨l, hl, hp⟩ => h l hl hp
  have hd : decide (0 ≤ r) = false := decide_eq_false h0
  go_wp2_with fail
  go_ret
  exact ⟨by first | exact Tells.no HV.out | (simp only [hd]; exact Tells.no HV.out), bel⟩

/- channel.Valid, channel.Total. -/

set_option maxRecDepth 100000 in
set_option maxHeartbeats 8000000 in
theorem cvalid1_any (w : World) (A : Option Addr) (cp : Nat) (zs : List Int) (g3 g4 : Nat) (wd tot : Int) (h : IntsV w (.slice A zs.length cp) zs) (h3 : w.cell? ⟨g3, 0, none⟩ = some (.int .i64 wd)) (h4 : w.cell? ⟨g4, 0, none⟩ = some (.int .i64 tot)) (b3 : g3 < w.heap.size) (b4 : g4 < w.heap.size) :
 Calls Tryz.prog 124 #[.slice A zs.length cp, .pointer (some ⟨g3, 0, none⟩), .pointer (some ⟨g4, 0, none⟩)] w fun e w' => Tells (¬ ((zs.length : Int) = wd ∧ rsumA 0 zs = tot)) e ∧ Below w.heap.size w w' := by
 have H := Lib.hid h
 obtain ⟨n, hn⟩ : ∃ n, zs.length = n := ⟨_, rfl⟩
 have HL : Hid (∀ W, Below w.heap.size w W → W.cell? ⟨g3, 0, none⟩ = some (.int .i64 wd) ∧ W.cell? ⟨g4, 0, none⟩ = some (.int .i64 tot)) := fun W hW => ⟨cell_keep (X := fun _ => False) h3 b3 id (.of_below hW), cell_keep (X := fun _ => False) h4 b4 id (.of_below hW)⟩
 obtain ⟨R, hR⟩ : ∃ R, rsumA 0 zs = R := ⟨_, rfl⟩
 have HR := Lib.hid hR
 have HI : Hid (∀ W, Below w.heap.size w W → IntsV W (.slice A n cp) zs) := fun W hW => by have := H.out.keep (.of_below hW); rw [hn] at this; exact this
 rw [hR, hn]
 clear h h3 h4 H hn hR
 by_cases h1 : (n : Int) = wd
 ·have d1 : ((n : Int) == wd) = true := beq_iff_eq.2 h1
  have d2 : ((n : Int) != wd) = false := by simp only [bne, d1]; rfl
  have H1 := Lib.hid h1
  clear h1
  by_cases h2 : R = tot
  ·have d3 : (R == tot) = true := beq_iff_eq.2 h2
   have d4 : (R != tot) = false := by simp only [bne, d3]; rfl
   have H2 := Lib.hid h2
   clear h2
   go_enter Tryz.func124, Tryz.ntmps124
   go_wp2_with fail
   go_region_held3 (fun W => W.cell? ⟨g3, 0, none⟩ = some (.int .i64 wd) ∧ W.cell? ⟨g4, 0, none⟩ = some (.int .i64 tot))
    (exact HL.out _ bel)
    (first
     | (go_at_call 93; refine (csum_any _ _ zs (HI.out _ bel)).mono ?_; rintro e u1 ⟨he, hb1⟩; rw [HR.out] at he; subst he; have y1 := hb1.size; (try simp only [zs] at y1)))
   all_goals
    go_wp2_with fail
    go_ret
    exact ⟨Tells.no (fun h => h ⟨H1.out, H2.out⟩), bel⟩
  ·have d3 : (R == tot) = false := beq_eq_false_iff_ne.2 h2
   have d4 : (R != tot) = true := bne_iff_ne.2 h2
   have H2 : Hid (¬ R = tot) := h2
   clear h2
   go_enter Tryz.func124, Tryz.ntmps124
   go_wp2_with fail
   go_region_held3 (fun W => W.cell? ⟨g3, 0, none⟩ = some (.int .i64 wd) ∧ W.cell? ⟨g4, 0, none⟩ = some (.int .i64 tot))
    (exact HL.out _ bel)
    (first
     | (go_at_call 93; refine (csum_any _ _ zs (HI.out _ bel)).mono ?_; rintro e u1 ⟨he, hb1⟩; rw [HR.out] at he; subst he; have y1 := hb1.size; (try simp only [zs] at y1)))
   all_goals
    go_wp2_with fail
    go_ret
    exact ⟨Tells.yes (fun h => H2.out h.2), bel⟩
 ·have d1 : ((n : Int) == wd) = false := beq_eq_false_iff_ne.2 h1
  have d2 : ((n : Int) != wd) = true := bne_iff_ne.2 h1
  have H1 : Hid (¬ (n : Int) = wd) := h1
  clear h1
  go_enter Tryz.func124, Tryz.ntmps124
  go_wp2_with fail
  refine wp_region_noPanic ?_
  refine wp_region_held_drew (S := (fun W => W.cell? ⟨g3, 0, none⟩ = some (.int .i64 wd) ∧ W.cell? ⟨g4, 0, none⟩ = some (.int .i64 tot))) (by kernel_rfl) ?_ (fun hHeld => ?_)
  ·exact HL.out _ bel
  refine takeT 0 hHeld ?_
  (try simp only [Act.put, ly])
  refine takeT 1 hHeld ?_
  (try simp only [Act.put, ly])
  refine takeT 2 hHeld ?_
  (try simp only [Act.put, ly])
  refine takeT 3 hHeld ?_
  (try simp only [Act.put, ly])
  refine takeT 4 hHeld ?_
  (try simp only [Act.put, ly])
  refine offT 5 hHeld ?_
  refine offT 6 hHeld ?_
  refine offT 7 hHeld ?_
  refine offT 8 hHeld ?_
  (try simp only [Act.put, ly])
  refine takeT 9 hHeld ?_
  (try simp only [Act.put, ly])
  refine takeT 10 hHeld ?_
  (try simp only [Act.put, ly])
  refine wpAnyH_done (by kernel_rfl) ?_ _
  refine NoPanic.normal ?_
  go_wp2_with fail
  go_ret
  exact ⟨Tells.yes (fun h => H1.out h.1), bel⟩
end Go.Proofs.YtdambnieminnfaaGreat

