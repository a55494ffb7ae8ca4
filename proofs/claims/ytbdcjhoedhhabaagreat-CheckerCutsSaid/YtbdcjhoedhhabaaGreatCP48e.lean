/- For every input the law returns true: the law's walk, and the statement out of it. -/
import Derived.Test.YtbdcjhoedhhabaaGreatRows
import Derived.Test.YtbdcjhoedhhabaaGreatE19
import Derived.Test.YtbdcjhoedhhabaaGreatE23
import Derived.Test.YtbdcjhoedhhabaaGreatE33
import Derived.Test.YtbdcjhoedhhabaaGreatE35
import Derived.Test.YtbdcjhoedhhabaaGreatE36
import Derived.Test.YtbdcjhoedhhabaaGreatE37
set_option linter.unusedSimpArgs false
set_option linter.unusedVariables false

/- CheckerCuts: the law's walk. Printed by gen_cu15.py. -/
namespace Go.Proofs.YtbdcjhoedhhabaaGreat
open Go.RowKit
attribute [local go_sem ↓] Go.wp_at_zero Go.wp_at_succ
attribute [local go_sem] beq_self_eq_true

/-- A function that tells whether P, at flows of a list. -/
def TellsX (w : World) (F : Nat) (caps : Array Value) (P : List Int × Int → Prop) (L : List (List Int × Int)) : Prop :=
 ∀ (W : World) (x : List Int × Int) (A : Option Addr) (m c : Nat) (a : Int), Below w.heap.size w W → x ∈ L → x.1.length = m → x.2 = a → Calls Tryz.prog F (#[.agg #[.slice A m c, .int .i64 a]] ++ caps) W fun e w' => Tells (P x) e ∧ Below W.heap.size W w'

set_option maxRecDepth 100000 in
set_option maxHeartbeats 4000000 in
theorem indexX_any (w : World) (F : Nat) (caps : Array Value) (P : List Int × Int → Prop) (v : Value) (l : List (List Int × Int)) (h : FlowsV w v l) (hen : Enters F) (hF : TellsX w F caps P l) :
 Calls Tryz.prog 150 #[v, .func (Fn.func F) #[] caps] w fun e w' => ∃ r : Int, e = .returned (.int .i64 r) ∧ ((0 ≤ r ∧ ∃ e ∈ l, P e) ∨ (r < 0 ∧ ∀ e ∈ l, ¬ P e)) ∧ Below w.heap.size w w' := by
 have H := Lib.hid h
 have HF := Lib.hid hF
 have hen2 : ∀ (args : Array Value) (W : World), (callFunc F args).run Tryz.prog W = .ok (.enter F args) W := hen
 obtain ⟨A, cap, rfl, h, l1, l2⟩ := h.op
 obtain ⟨m, hm⟩ : ∃ m, l.length = m := ⟨_, rfl⟩
 have HM := Lib.hid hm
 have H2 : Hid (FlowsV w (.slice A m cap) l) := by have h9 := H.out; rw [hm] at h9; exact h9
 rw [hm] at l1 ⊢
 have lm : m ≤ 9223372036854775807 := by unfold maxLen at l2; omega
 clear h hF hm H
 go_enter Tryz.func150, Tryz.ntmps150
 go_wp2_with fail
 go_loopw [8] (fun i wr => ∃ (c : Nat), c ≤ m ∧ i = .int .i64 c ∧ Hid (∀ i e, i < c → l[i]? = some e → ¬ P e) ∧ Below w.heap.size w wr) (fun i _ => m - (intOf i).toNat)
 case atStart => exact ⟨0, by omega, rfl, Lib.hid (fun i e hi => absurd hi (by omega)), bel⟩
 case round =>
  obtain ⟨c, hc, rfl, hall, hB⟩ := hrel
  obtain ⟨wo, rfl⟩ : ∃ wo : World, wo = wr := ⟨_, rfl⟩
  have y5 := hB.size; (try simp only [zs] at y5)
  by_cases hlt : c < m
  ·obtain ⟨x, he⟩ : ∃ e, l[c]? = some e := ⟨_, List.getElem?_eq_getElem (by rw [HM.out]; exact hlt)⟩
   obtain ⟨aX, BP, cP, rfl, hab, cx, cx2, -, -⟩ := (H2.out.keep (.of_below hB)).at he
   rw [addr_one] at cx2
   obtain ⟨pl, hpl⟩ : ∃ q, x.1.length = q := ⟨_, rfl⟩
   obtain ⟨pa, hpa⟩ : ∃ q, x.2 = q := ⟨_, rfl⟩
   rw [hpl] at cx
   rw [hpa] at cx2
   have HPL := Lib.hid hpl
   have HPA := Lib.hid hpa
   have HE := Lib.hid he
   have k0 : (0 : Int) ≤ (c : Int) := by omega
   have k1 : (c : Int) < (m : Int) := by omega
   have HLT := Lib.hid hlt
   clear he hpl hpa
   go_wp2_with fail
   refine (HF.out _ x BP pl cP pa hB (List.mem_of_getElem? HE.out) HPL.out HPA.out).mono ?_
   rintro e w2 ⟨⟨b, rfl, hb⟩, hb2⟩
   have y2 := hb2.size; (try simp only [zs] at y2)
   cases b
   ·have HGD : Hid (¬ P x) := fun h => by have := hb.out.2 h; cases this
    clear hb
    go_wp2_with fail
    go_roundw
    case rel =>
     refine ⟨c + 1, by omega, by go_num, Lib.hid (fun i e hi he => ?_), bel⟩
     by_cases hic : i < c
     ·exact hall.out i e hic he
     ·obtain rfl : i = c := by omega
      rw [HE.out] at he
      injection he with he
      subst he
      exact HGD.out
    case measure => simp only [intOf]; omega
   ·have HGD : Hid (P x) := hb.out.1 rfl
    clear hb
    go_wp2_with fail
    go_ret
    exact ⟨_, rfl, .inl ⟨by omega, _, List.mem_of_getElem? HE.out, HGD.out⟩, bel⟩
  ·obtain rfl : c = m := by omega
   go_wp2_with fail
   go_ret
   exact ⟨_, rfl, .inr ⟨by decide, fun e he => by
    obtain ⟨i, hi, rfl⟩ := List.mem_iff_getElem.1 he
    exact hall.out i _ (by rw [← HM.out]; exact hi) (List.getElem?_eq_getElem hi)⟩, hB⟩

set_option maxRecDepth 100000 in
set_option maxHeartbeats 4000000 in
theorem containsX_any (w : World) (F : Nat) (caps : Array Value) (P : List Int × Int → Prop) (v : Value) (l : List (List Int × Int)) (h : FlowsV w v l) (hen : Enters F) (hF : TellsX w F caps P l) :
 Calls Tryz.prog 55 #[v, .func (Fn.func F) #[] caps] w fun e w' => Tells (∃ e ∈ l, P e) e ∧ Below w.heap.size w w' := by
 have H := Lib.hid h
 have HF := Lib.hid hF
 obtain ⟨A, cap, rfl, h, l1, l2⟩ := h.op
 clear h hF
 go_enter Tryz.func55, Tryz.ntmps55
 go_wp2_with fail
 refine (indexX_any _ F caps P _ l H.out hen HF.out).mono ?_
 rintro e w1 ⟨r, rfl, hr, hb1⟩
 have y1 := hb1.size; (try simp only [zs] at y1)
 have HR := Lib.hid hr
 clear hr
 by_cases h0 : 0 ≤ r
 ·have HV : Hid (∃ e ∈ l, P e) := by
   rcases HR.out with ⟨_, h⟩ | ⟨h, _⟩
   ·exact h
   ·omega
  go_wp2_with fail
  go_ret
  exact ⟨Tells.yes HV.out, bel⟩
 ·have HV : Hid (¬ ∃ e ∈ l, P e) := by
   rcases HR.out with ⟨h, _⟩ | ⟨_, h⟩
   ·omega
   ·exact fun ⟨e, he, hp⟩ => h e he hp
  have hd : decide (0 ≤ r) = false := decide_eq_false h0
  go_wp2_with fail
  go_ret
  exact ⟨by first | exact Tells.no HV.out | (simp only [hd]; exact Tells.no HV.out), bel⟩

set_option maxHeartbeats 4000000 in
theorem lcut1_any (w : World) (A : Option Addr) (m c : Nat) (a : Int) :
 Calls Tryz.prog 56 (#[.agg #[.slice A m c, .int .i64 a]] ++ #[]) w fun e w' => Tells (40 < m) e ∧ Below w.heap.size w w' := by
 by_cases h : 40 < m
 ·have H := Lib.hid h
  have d1 : decide ((40 : Int) < (m : Int)) = true := decide_eq_true (by omega)
  have d2 : decide (40 < m) = true := decide_eq_true h
  clear h
  go_enter Tryz.func56, Tryz.ntmps56
  go_wp2_with fail
  go_ret
  exact ⟨by first | exact Tells.yes H.out | (rw [d1]; exact Tells.yes H.out), bel⟩
 ·have H : Hid (¬ 40 < m) := h
  have d1 : decide ((40 : Int) < (m : Int)) = false := decide_eq_false (by omega)
  have d2 : decide (40 < m) = false := decide_eq_false h
  clear h
  go_enter Tryz.func56, Tryz.ntmps56
  go_wp2_with fail
  go_ret
  exact ⟨by first | exact Tells.no H.out | (rw [d1]; exact Tells.no H.out), bel⟩

set_option maxRecDepth 100000 in
set_option maxHeartbeats 16000000 in
theorem cuts48_walk (w : World) (n : Int) (vE vW vF vT vC vX : Value) (es : List (Int × Int)) (ws s t cut : List Int) (fs : List (List Int × Int)) (hnb : -9223372036854775808 ≤ n ∧ n ≤ 9223372036854775807) (hE : Tims w vE es) (hW : IntsV w vW ws) (hF : IntsV w vF s) (hT : IntsV w vT t) (hC : IntsV w vC cut) (hX : FlowsV w vX fs) :
 Calls Tryz.prog 12 #[.agg #[.int .i64 n, vE, vW, vF, vT], vC, vX] w fun e w' => e = .returned (.bool true) ∧ Below w.heap.size w w' := by
 have HE0 := Lib.hid hE
 obtain ⟨AE, cE, rfl, -, lE1, lE2⟩ := hE.op
 have HW0 := Lib.hid hW
 obtain ⟨AW, cW, rfl, -, lW1, lW2⟩ := hW.op
 have HF0 := Lib.hid hF
 obtain ⟨AF, cF, rfl, -, lF1, lF2⟩ := hF.op
 have HT0 := Lib.hid hT
 obtain ⟨AT, cT, rfl, -, lT1, lT2⟩ := hT.op
 have HC0 := Lib.hid hC
 obtain ⟨AC, cC, rfl, -, lC1, lC2⟩ := hC.op
 have HX0 := Lib.hid hX
 obtain ⟨AX, cX, rfl, -, lX1, lX2⟩ := hX.op
 obtain ⟨mE, hmE⟩ : ∃ m, es.length = m := ⟨_, rfl⟩
 have HME := Lib.hid hmE
 have HE : Hid (Tims w (.slice AE mE cE) es) := by have h9 := HE0.out; rw [hmE] at h9; exact h9
 rw [hmE] at lE1 ⊢
 obtain ⟨mW, hmW⟩ : ∃ m, ws.length = m := ⟨_, rfl⟩
 have HMW := Lib.hid hmW
 have HW : Hid (IntsV w (.slice AW mW cW) ws) := by have h9 := HW0.out; rw [hmW] at h9; exact h9
 rw [hmW] at lW1 ⊢
 obtain ⟨mF, hmF⟩ : ∃ m, s.length = m := ⟨_, rfl⟩
 have HMF := Lib.hid hmF
 have HF : Hid (IntsV w (.slice AF mF cF) s) := by have h9 := HF0.out; rw [hmF] at h9; exact h9
 rw [hmF] at lF1 ⊢
 obtain ⟨mT, hmT⟩ : ∃ m, t.length = m := ⟨_, rfl⟩
 have HMT := Lib.hid hmT
 have HT : Hid (IntsV w (.slice AT mT cT) t) := by have h9 := HT0.out; rw [hmT] at h9; exact h9
 rw [hmT] at lT1 ⊢
 obtain ⟨mC, hmC⟩ : ∃ m, cut.length = m := ⟨_, rfl⟩
 have HMC := Lib.hid hmC
 have HC : Hid (IntsV w (.slice AC mC cC) cut) := by have h9 := HC0.out; rw [hmC] at h9; exact h9
 rw [hmC] at lC1 ⊢
 obtain ⟨mX, hmX⟩ : ∃ m, fs.length = m := ⟨_, rfl⟩
 have HMX := Lib.hid hmX
 have HX : Hid (FlowsV w (.slice AX mX cX) fs) := by have h9 := HX0.out; rw [hmX] at h9; exact h9
 rw [hmX] at lX1 ⊢
 clear hE hmE HE0 hW hmW HW0 hF hmF HF0 hT hmT HT0 hC hmC HC0 hX hmX HX0
 have L1 := made1 w #[.int .i64 n, .slice AE mE cE, .slice AW mW cW, .slice AF mF cF, .slice AT mT cT] 111
 go_enter Tryz.func12, Tryz.ntmps12
 go_wp2_with fail
 refine (known48_any _).mono ?_
 rintro e w1 ⟨rfl, hb1⟩
 have y1 := hb1.size; (try simp only [zs] at y1)
 have HL1 : Hid (Loc w1 w.heap.size 111 #[.int .i64 n, .slice AE mE cE, .slice AW mW cW, .slice AF mF cF, .slice AT mT cT]) := by show Loc _ _ _ _; exact Loc.below L1 hb1
 have HB1 : Hid (Below w.heap.size w w1) := by show Below _ _ _; exact bel
 have LW : Hid (∀ W, Below w1.heap.size w1 W → (W.cell? ⟨w.heap.size, 0, none⟩ = some (.int .i64 n) ∧ W.cell? ⟨w.heap.size, 1, none⟩ = some (.slice AE mE cE)) ∧ W.cell? ⟨w.heap.size, 2, none⟩ = some (.slice AW mW cW) ∧ W.cell? ⟨w.heap.size, 3, none⟩ = some (.slice AF mF cF) ∧ W.cell? ⟨w.heap.size, 4, none⟩ = some (.slice AT mT cT)) := fun W hW => by
  have L2 := Loc.below HL1.out hW
  exact ⟨⟨Loc.cell L2 0, Loc.cell L2 1⟩, Loc.cell L2 2, Loc.cell L2 3, Loc.cell L2 4⟩
 have hw1 : w.heap.size ≤ w1.heap.size := HB1.out.size
 obtain ⟨⟨e1, e2⟩, e3, e4, e5⟩ := LW.out w1 (Below.refl _ _)
 clear L1 hb1
 by_cases h0 : 40 < mW
 ·have d0 : decide ((40 : Int) < (mW : Int)) = true := decide_eq_true (by omega)
  have d0' : decide (40 < mW) = true := decide_eq_true h0
  clear h0
  go_wp2_with fail
  go_ret
  exact ⟨rfl, HB1.out⟩
 have d0 : decide ((40 : Int) < (mW : Int)) = false := decide_eq_false (by omega)
 have d0' : decide (40 < mW) = false := decide_eq_false h0
 by_cases h1 : 40 < mE
 ·have d1 : decide ((40 : Int) < (mE : Int)) = true := decide_eq_true (by omega)
  have d1' : decide (40 < mE) = true := decide_eq_true h1
  clear h0 h1
  go_wp2_with fail
  go_ret
  exact ⟨rfl, HB1.out⟩
 have d1 : decide ((40 : Int) < (mE : Int)) = false := decide_eq_false (by omega)
 have d1' : decide (40 < mE) = false := decide_eq_false h1
 by_cases h2 : 20 < mF
 ·have d2 : decide ((20 : Int) < (mF : Int)) = true := decide_eq_true (by omega)
  have d2' : decide (20 < mF) = true := decide_eq_true h2
  clear h0 h1 h2
  go_wp2_with fail
  go_ret
  exact ⟨rfl, HB1.out⟩
 have d2 : decide ((20 : Int) < (mF : Int)) = false := decide_eq_false (by omega)
 have d2' : decide (20 < mF) = false := decide_eq_false h2
 by_cases h3 : 20 < mT
 ·have d3 : decide ((20 : Int) < (mT : Int)) = true := decide_eq_true (by omega)
  have d3' : decide (20 < mT) = true := decide_eq_true h3
  clear h0 h1 h2 h3
  go_wp2_with fail
  go_ret
  exact ⟨rfl, HB1.out⟩
 have d3 : decide ((20 : Int) < (mT : Int)) = false := decide_eq_false (by omega)
 have d3' : decide (20 < mT) = false := decide_eq_false h3
 by_cases h4 : 40 < mC
 ·have d4 : decide ((40 : Int) < (mC : Int)) = true := decide_eq_true (by omega)
  have d4' : decide (40 < mC) = true := decide_eq_true h4
  clear h0 h1 h2 h3 h4
  go_wp2_with fail
  go_ret
  exact ⟨rfl, HB1.out⟩
 have d4 : decide ((40 : Int) < (mC : Int)) = false := decide_eq_false (by omega)
 have d4' : decide (40 < mC) = false := decide_eq_false h4
 by_cases h5 : 40 < mX
 ·have d5 : decide ((40 : Int) < (mX : Int)) = true := decide_eq_true (by omega)
  have d5' : decide (40 < mX) = true := decide_eq_true h5
  clear h0 h1 h2 h3 h4 h5
  go_wp2_with fail
  go_ret
  exact ⟨rfl, HB1.out⟩
 have d5 : decide ((40 : Int) < (mX : Int)) = false := decide_eq_false (by omega)
 have d5' : decide (40 < mX) = false := decide_eq_false h5
 have HSZ : Hid (mE ≤ 40 ∧ mC ≤ 40 ∧ mX ≤ 40) := by show _ ∧ _; omega
 clear h0 h1 h2 h3 h4 h5
 go_wp2_with fail
 refine (containsX_any _ 56 #[] (fun x => 40 < x.1.length) _ fs (HX.out.keep (.of_below HB1.out)) (enters Tryz.func56 (by kernel_rfl) (by kernel_rfl)) (fun W x A m c a _ _ hm _ => by show Calls _ _ _ _ (fun e w' => Tells (40 < x.1.length) e ∧ _); rw [hm]; exact lcut1_any W A m c a)).mono ?_
 rintro e w2 ⟨⟨b, rfl, hb⟩, hb2⟩
 have y2 := hb2.size; (try simp only [zs] at y2)
 have HB2 : Hid (Below w.heap.size w w2) := HB1.out.trans (hb2.mono hw1)
 have HPL : Hid (b = false → ∀ f ∈ fs, f.1.length ≤ 1000) := fun h f hf => Classical.byContradiction fun hn => by
  have := hb.out.2 ⟨f, hf, by omega⟩
  rw [h] at this
  cases this
 clear hb e1 e2 e3 e4 e5
 cases b
 case true =>
  go_wp2_with fail
  go_ret
  exact ⟨rfl, HB2.out⟩
 have hw2 : w1.heap.size ≤ w2.heap.size := hb2.size
 have HBX : Hid (∀ W, Below w2.heap.size w2 W → Below w.heap.size w W) := fun W hW => HB2.out.trans (hW.mono (by omega))
 have HBW : Hid (∀ W, Below w2.heap.size w2 W → Below w1.heap.size w1 W) := fun W hW => hb2.trans (hW.mono hw2)
 go_wp2_with fail
 refine wp_region_noPanic ?_
 refine wp_region_held_drew (S := (fun W => (W.cell? ⟨w.heap.size, 0, none⟩ = some (.int .i64 n) ∧ W.cell? ⟨w.heap.size, 1, none⟩ = some (.slice AE mE cE)) ∧ W.cell? ⟨w.heap.size, 2, none⟩ = some (.slice AW mW cW) ∧ W.cell? ⟨w.heap.size, 3, none⟩ = some (.slice AF mF cF) ∧ W.cell? ⟨w.heap.size, 4, none⟩ = some (.slice AT mT cT))) (by kernel_rfl) ?_ (fun hHeld => ?_)
 ·exact LW.out _ (HBW.out _ (Below.refl _ _).drew)
 refine takeT 0 hHeld ?_
 (try simp only [Act.put, ly])
 refine takeT 1 hHeld ?_
 (try simp only [Act.put, ly])
 refine takeT 2 hHeld ?_
 (try simp only [Act.put, ly])
 refine takeT 3 hHeld ?_
 (try simp only [Act.put, ly])
 refine takeT 4 hHeld ?_
 (try simp only [Act.put, ly])
 refine takeT 5 hHeld ?_
 (try simp only [Act.put, ly])
 refine takeT 6 hHeld ?_
 (try simp only [Act.put, ly])
 refine takeT 7 hHeld ?_
 (try simp only [Act.put, ly])
 refine takeT 8 hHeld ?_
 (try simp only [Act.put, ly])
 refine takeT 9 hHeld ?_
 (try simp only [Act.put, ly])
 refine takeT 11 hHeld ?_
 (try simp only [Act.put, ly])
 refine takeT 12 hHeld ?_
 (try simp only [Act.put, ly])
 refine takeT 13 hHeld ?_
 (try simp only [Act.put, ly])
 refine takeT 14 hHeld ?_
 (try simp only [Act.put, ly])
 refine takeT 15 hHeld ?_
 (try simp only [Act.put, ly])
 refine takeT 16 hHeld ?_
 (try simp only [Act.put, ly])
 refine takeT 17 hHeld ?_
 (try simp only [Act.put, ly])
 refine takeT 18 hHeld ?_
 (try simp only [Act.put, ly])
 refine takeT 19 hHeld ?_
 (try simp only [Act.put, ly])
 refine takeT 20 hHeld ?_
 (try simp only [Act.put, ly])
 refine wpAnyH_ready (rs := [10]) (by kernel_rfl) (by simp) ?_
 refine AllReadyH.cons rfl (fun K hK => ?_) AllReadyH.nil
 go_simp
 refine (kcut_any _ n _ _ _ _ _ _ es ws s t cut fs (HE.out.keep (.of_below (HBX.out _ (Below.refl _ _).drew))) (HW.out.keep (.of_below (HBX.out _ (Below.refl _ _).drew))) (HF.out.keep (.of_below (HBX.out _ (Below.refl _ _).drew))) (HT.out.keep (.of_below (HBX.out _ (Below.refl _ _).drew))) (HC.out.keep (.of_below (HBX.out _ (Below.refl _ _).drew))) (HX.out.keep (.of_below (HBX.out _ (Below.refl _ _).drew))) (by rw [HME.out]; have := HSZ.out; omega) (by rw [HMC.out]; have := HSZ.out; omega) (by rw [HMX.out]; have := HSZ.out; omega)).mono ?_
 rintro e w4 ⟨⟨r1, rfl, hr1⟩, hb4⟩
 have hb4 : Below w2.heap.size w2 w4 := ((Below.refl _ _).drew).trans hb4
 have y4 := hb4.size; (try simp only [zs] at y4)
 (try go_wp2_with fail)
 refine hK.out _ _ ?_ (fun hHeld => ?_)
 ·(try dsimp only)
  exact LW.out _ (HBW.out _ hb4)
 clear hK K
 (try simp only [Act.put, ly])
 refine wpAnyH_ready (rs := [21]) (by kernel_rfl) (by simp) ?_
 refine AllReadyH.cons rfl (fun K hK => ?_) AllReadyH.nil
 go_simp
 refine (mcheck_any _ n _ _ _ _ _ _ es ws s t cut fs (HE.out.keep (.of_below (HBX.out _ hb4))) (HW.out.keep (.of_below (HBX.out _ hb4))) (HF.out.keep (.of_below (HBX.out _ hb4))) (HT.out.keep (.of_below (HBX.out _ hb4))) (HC.out.keep (.of_below (HBX.out _ hb4))) (HX.out.keep (.of_below (HBX.out _ hb4))) hnb (by rw [HME.out]; have := HSZ.out; omega) (by rw [HMC.out]; have := HSZ.out; omega) (by rw [HMX.out]; have := HSZ.out; omega) (HPL.out (by simp))).mono ?_
 rintro e w5 ⟨⟨r2, rfl, hr2⟩, hb5⟩
 have hb5 : Below w2.heap.size w2 w5 := hb4.trans (hb5.mono (by omega))
 have y5 := hb5.size; (try simp only [zs] at y5)
 obtain rfl := hr1.out.uniq hr2.out
 clear hr1 hr2
 (try go_wp2_with fail)
 refine hK.out _ _ ?_ (fun hHeld => ?_)
 ·(try dsimp only)
  exact LW.out _ (HBW.out _ hb5)
 clear hK K
 (try simp only [Act.put, ly])
 refine takeT 22 hHeld ?_
 (try simp only [Act.put, ly])
 refine takeT 23 hHeld ?_
 (try simp only [Act.put, ly])
 refine wpAnyH_done (by kernel_rfl) ?_ _
 refine NoPanic.normal ?_
 go_wp2_with fail
 go_ret
 exact ⟨rfl, HBX.out _ hb5⟩
end Go.Proofs.YtbdcjhoedhhabaaGreat

/- The statement 'CheckerCuts' out of its walk. The frame is the guide's own (proof-skeleton), printed by lawgen.py. -/
namespace Go.Proofs.YtbdcjhoedhhabaaGreat.checkerCuts
open Go.ChangeShapes Go.WideShapes Go.ChangeAt Go.RowKit Go.Proofs.YtbdcjhoedhhabaaGreat
open Go.ChangeMaps (open_string shut_string)
set_option linter.unusedVariables false

set_option maxRecDepth 100000 in
theorem lifted (os : Os) (started : os.Started) (H : Type) (enc : TypeId × Value → H) :
 ReturnsInHanded {} Tryz.checked os 12 .any (Rows.checkerCutsSpec.pre6 enc Tryz.prog Tryz.f12 Rows.checkerCutsRow.domain false) (Rows.checkerCutsSpec.post enc Tryz.prog Tryz.f12 false true false false) := by
 refine returnsInHanded_of_change (C := Tryz.checked) own started (by kernel_rfl) Tryz.func12
  (ChangeSpec.witness6 (enc := enc) (C := Tryz.checked) false ⟨#[], #[.agg #[.int .i64 0, .slice none 0 0, .slice none 0 0, .slice none 0 0, .slice none 0 0], .slice none 0 0, .slice none 0 0], []⟩ 8 (by kernel_rfl) (by kernel_rfl) (by kernel_rfl) (by kernel_rfl)) ?_
 intro W base args ds gs before hval0 hW hcnd _
 have hval : ∀ (j : Nat) t v, Tryz.f12.params[j]? = some t → args[j]? = some v → Value.okWide Tryz.prog W .any base t v := hval0
 have hW' := hW
 obtain ⟨p, q, hA0, hV, rfl, hfz, hnd⟩ := hW
 have hA : DataW.TrodAll enc Tryz.prog W 0 (fun _ => true) true Tryz.f12.params.toList args.toList ds p := hA0
 rw [Tryz.params12] at hA hval
 obtain ⟨v0, vs0, d0, ds0, p0, q0, hargs, rfl, rfl, h0, r0⟩ := trodAll_cons hA
 obtain ⟨v1, vs1, d1, ds1, p1, q1, rfl, rfl, rfl, h1, r1⟩ := trodAll_cons r0
 obtain ⟨v2, vs2, d2, ds2, p2, q2, rfl, rfl, rfl, h2, r2⟩ := trodAll_cons r1
 obtain ⟨rfl, rfl, rfl⟩ := trodAll_nil r2
 obtain rfl : args = #[v0, v1, v2] := by cases args; simp_all
 obtain ⟨rfl, rfl⟩ := trodVars_none hV
 have lt0 : ∀ x ∈ p0, x.block < W.heap.size := by obtain ⟨m, hm⟩ := h0; exact DataW.trod_lt m _ _ _ hm
 have k0 := fun (W' : World) (bel : Below W.heap.size W W') => Below.trod laidOut (by kernel_rfl) (of_decide_eq_true (by kernel_rfl)) h0 bel lt0
 obtain ⟨n0, a0, b0, c0, f0, es0, ws0, s0, t0, e0, hn0, hE0, hW0, hF0, hT0⟩ := open_Net (hval 0 111 v0 rfl rfl) h0
 have lt1 : ∀ x ∈ p1, x.block < W.heap.size := by obtain ⟨m, hm⟩ := h1; exact DataW.trod_lt m _ _ _ hm
 have k1 := fun (W' : World) (bel : Below W.heap.size W W') => Below.trod laidOut (by kernel_rfl) (of_decide_eq_true (by kernel_rfl)) h1 bel lt1
 obtain ⟨L1, ha1⟩ := open_IntsW (hval 1 27 v1 rfl rfl) h1
 have lt2 : ∀ x ∈ p2, x.block < W.heap.size := by obtain ⟨m, hm⟩ := h2; exact DataW.trod_lt m _ _ _ hm
 have k2 := fun (W' : World) (bel : Below W.heap.size W W') => Below.trod laidOut (by kernel_rfl) (of_decide_eq_true (by kernel_rfl)) h2 bel lt2
 obtain ⟨l2, ha2⟩ := open_Flows (hval 2 112 v2 rfl rfl) h2
 subst e0
 refine (cuts48_walk _ _ _ _ _ _ _ _ _ _ _ _ _ _ hn0 hE0 hW0 hF0 hT0 ha1 ha2).mono fun e W' ⟨he, bel⟩ => ?_
 subst he
 exact ⟨_, rfl, _, _, _, [], _, [], hW', trodAll_mk1 (shut_bool Tryz.underlying4 _), (trodAll_cons_mk (k0 _ bel) (trodAll_cons_mk (k1 _ bel) (trodAll_cons_mk (k2 _ bel) trodAll_mk0))), rfl, bel.frame _, fun h => by cases h⟩

theorem in_place : (Rows.checkerCutsRow.inPlace == Tryz.prog.inPlace 12) = true := by kernel_rfl
theorem unfollowed : (Rows.checkerCutsRow.unfollowed == Tryz.prog.unfollowed 12) = true := by kernel_rfl
theorem recurses : (Rows.checkerCutsRow.recurses == Tryz.prog.recurses 12) = true := by kernel_rfl
theorem named : (Rows.checkerCutsRow.named == Tryz.prog.varsNamed 12) = true := by kernel_rfl
theorem cheap : cheapFacts Tryz.prog Tryz.f12 Rows.checkerCutsSpec Rows.checkerCutsRow = true := by kernel_rfl

theorem over : Rows.checkerCutsRow.holds Tryz.pinned (OpenSpec.ofChange Rows.checkerCutsSpec) :=
 OpenClaim.holds_of_wide 12 Tryz.f12 rfl rfl rfl rfl rfl rfl rfl ⟨rfl, rfl, rfl, rfl, rfl⟩ rfl rfl rfl rfl rfl (by kernel_rfl) Tryz.func12 (joined_mk laidOut rowed in_place unfollowed recurses named cheap)
  (of_decide_eq_true (by kernel_rfl)) (by unfold Func.isWrapper; first | (rw [if_pos (by decide +kernel)]; kernel_rfl) | (rw [if_neg (by decide +kernel)]; exact ⟨rfl, rfl⟩))
  (fun os started H enc _ => lifted os started H enc)

/-- The statement: for every input the law returns true; each argument reads behind the call as it read before. -/
theorem proved : Rows.CheckerCutsSaid := over
end Go.Proofs.YtbdcjhoedhhabaaGreat.checkerCuts

