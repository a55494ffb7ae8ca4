/- Contracts of the functions that the statements reach, part 35. -/
import Derived.Test.YtbdcjhoedhhabaaGreatRows
import Derived.JoinedOf
import Derived.KernelRfl
import Derived.Test.YtbdcjhoedhhabaaGreatA32
import Derived.Test.YtbdcjhoedhhabaaGreatA34
set_option linter.unusedSimpArgs false
set_option linter.unusedVariables false

/- Lists of raw fractions: slices.ContainsFunc, and the law's rats. -/
namespace Go.Proofs.YtbdcjhoedhhabaaGreat
open Go.RowKit
attribute [local go_sem ↓] Go.wp_at_zero Go.wp_at_succ

/-- A function that tells whether P, at raw fractions. -/
def TellsF (w : World) (F : Nat) (caps : Array Value) (P : RF → Prop) : Prop :=
 ∀ (W : World) (v : Value) (e : RF) (m m' : Nat) (A B : Option Addr) (c d : Nat), Below w.heap.size w W → v = .agg #[.bool e.n1, .slice A m c, .bool e.n2, .slice B m' d] → e.xs.length = m → e.ys.length = m' → RatR W (fun _ => False) v e.n1 e.xs e.n2 e.ys → Calls Tryz.prog F (#[v] ++ caps) W fun e' w' => Tells (P e) e' ∧ Below W.heap.size W w'

set_option maxRecDepth 100000 in
set_option maxHeartbeats 4000000 in
theorem indexF_any (w : World) (F : Nat) (caps : Array Value) (P : RF → Prop) (v : Value) (l : List RF) (h : Rats w (fun _ => False) v l) (hen : Enters F) (hF : TellsF w F caps P) :
 Calls Tryz.prog 230 #[v, .func (Fn.func F) #[] caps] w fun e w' => ∃ r : Int, e = .returned (.int .i64 r) ∧ ((0 ≤ r ∧ ∃ e ∈ l, P e) ∨ (r < 0 ∧ ∀ e ∈ l, ¬ P e)) ∧ Below w.heap.size w w' := by
 have H := Lib.hid h
 have HF := Lib.hid hF
 have hen2 : ∀ (args : Array Value) (W : World), (callFunc F args).run Tryz.prog W = .ok (.enter F args) W := hen
 obtain ⟨A, cap, rfl, h, l1, l2⟩ := h.op
 obtain ⟨m, hm⟩ : ∃ m, l.length = m := ⟨_, rfl⟩
 have HM := Lib.hid hm
 rw [hm] at l1 H
 rw [hm]
 have lm : m ≤ 9223372036854775807 := by unfold maxLen at l2; omega
 clear h hF hm
 go_enter Tryz.func230, Tryz.ntmps230
 go_wp2_with fail
 go_loopw [8] (fun i wr => ∃ (c : Nat), c ≤ m ∧ i = .int .i64 c ∧ Hid (∀ i e, i < c → l[i]? = some e → ¬ P e) ∧ Below w.heap.size w wr) (fun i _ => m - (intOf i).toNat)
 case atStart => exact ⟨0, by omega, rfl, Lib.hid (fun i e hi => absurd hi (by omega)), bel⟩
 case round =>
  obtain ⟨c, hc, rfl, hall, hB⟩ := hrel
  obtain ⟨wo, rfl⟩ : ∃ wo : World, wo = wr := ⟨_, rfl⟩
  have y5 := hB.size; (try simp only [zs] at y5)
  by_cases hlt : c < m
  ·obtain ⟨x, he⟩ : ∃ e, l[c]? = some e := ⟨_, List.getElem?_eq_getElem (by rw [HM.out]; exact hlt)⟩
   obtain ⟨a, rfl, ha, hr⟩ := (H.out.keep (.of_below hB)).at he
   obtain ⟨A3, c3, A3', c3', x0, x1, x2, x3, r3⟩ := hr
   obtain ⟨n1, xs, n2, ys⟩ := x
   dsimp only at x0 x1 x2 x3 r3
   obtain ⟨m3, hm3⟩ : ∃ m, xs.length = m := ⟨_, rfl⟩
   obtain ⟨m3', hm3'⟩ : ∃ m, ys.length = m := ⟨_, rfl⟩
   rw [hm3, hm3'] at r3
   rw [hm3] at x1
   rw [hm3'] at x3
   have HE := Lib.hid he
   have HR3 := Lib.hid r3
   have HL := Lib.hid (And.intro hm3 hm3')
   clear he hm3 hm3' r3
   replace x1 : wo.cell? ⟨(a.add (c * 4)).block, (a.add (c * 4)).off + 1, none⟩ = _ := x1
   replace x2 : wo.cell? ⟨(a.add (c * 4)).block, (a.add (c * 4)).off + 2, none⟩ = _ := x2
   replace x3 : wo.cell? ⟨(a.add (c * 4)).block, (a.add (c * 4)).off + 3, none⟩ = _ := x3
   have k0 : (0 : Int) ≤ (c : Int) := by omega
   have k1 : (c : Int) < (m : Int) := by omega
   have HLT := Lib.hid hlt
   go_wp2_with fail
   refine (HF.out _ _ ⟨n1, xs, n2, ys⟩ m3 m3' A3 A3' c3 c3' hB rfl HL.out.1 HL.out.2 HR3.out).mono ?_
   rintro e w2 ⟨⟨b, rfl, hb⟩, hb2⟩
   have y2 := hb2.size; (try simp only [zs] at y2)
   cases b
   ·have HGD : Hid (¬ P ⟨n1, xs, n2, ys⟩) := fun h => by have := hb.out.2 h; cases this
    clear hb
    go_wp2_with fail
    go_roundw
    case rel =>
     refine ⟨c + 1, by omega, by go_num, Lib.hid (fun i e hi he => ?_), bel⟩
     by_cases hic : i < c
     ·exact hall.out i e hic he
     ·obtain rfl : i = c := by omega
      rw [HE.out] at he
      injection he with he
      subst he
      exact HGD.out
    case measure => simp only [intOf]; omega
   ·have HGD : Hid (P ⟨n1, xs, n2, ys⟩) := hb.out.1 rfl
    clear hb
    go_wp2_with fail
    go_ret
    exact ⟨_, rfl, .inl ⟨by omega, _, List.mem_of_getElem? HE.out, HGD.out⟩, bel⟩
  ·obtain rfl : c = m := by omega
   go_wp2_with fail
   go_ret
   exact ⟨_, rfl, .inr ⟨by decide, fun e he => by
    obtain ⟨i, hi, rfl⟩ := List.mem_iff_getElem.1 he
    exact hall.out i _ (by rw [← HM.out]; exact hi) (List.getElem?_eq_getElem hi)⟩, hB⟩
set_option maxRecDepth 100000 in
set_option maxHeartbeats 4000000 in
theorem containsF_any (w : World) (F : Nat) (caps : Array Value) (P : RF → Prop) (v : Value) (l : List RF) (h : Rats w (fun _ => False) v l) (hen : Enters F) (hF : TellsF w F caps P) :
 Calls Tryz.prog 104 #[v, .func (Fn.func F) #[] caps] w fun e w' => Tells (∃ e ∈ l, P e) e ∧ Below w.heap.size w w' := by
 have H := Lib.hid h
 have HF := Lib.hid hF
 obtain ⟨A, cap, rfl, h, l1, l2⟩ := h.op
 obtain ⟨m, hm⟩ : ∃ m, l.length = m := ⟨_, rfl⟩
 rw [hm] at l1 H
 rw [hm]
 clear h hF hm
 go_enter Tryz.func104, Tryz.ntmps104
 go_wp2_with fail
 refine (indexF_any _ F caps P _ l H.out hen HF.out).mono ?_
 rintro e w1 ⟨r, rfl, hr, hb1⟩
 have y1 := hb1.size; (try simp only [zs] at y1)
 have HR := Lib.hid hr
 clear hr
 by_cases h0 : 0 ≤ r
 ·have HV : Hid (∃ e ∈ l, P e) := by
   rcases HR.out with ⟨_, h⟩ | ⟨h, _⟩
   ·exact h
   ·omega
  go_wp2_with fail
  go_ret
  exact ⟨Tells.yes HV.out, bel⟩
 ·have HV : Hid (¬ ∃ e ∈ l, P e) := by
   rcases HR.out with ⟨h, _⟩ | ⟨_, h⟩
   ·omega
   ·exact fun ⟨e, he, hp⟩ => h e he hp
  have hd : decide (0 ≤ r) = false := decide_eq_false h0
  go_wp2_with fail
  go_ret
  exact ⟨by first | exact Tells.no HV.out | (simp only [hd]; exact Tells.no HV.out), bel⟩

set_option maxHeartbeats 2000000 in
theorem rats1_any (w : World) (n1 n2 : Bool) (A B : Option Addr) (m m' c d : Nat) :
 Calls Tryz.prog 105 #[.agg #[.bool n1, .slice A m c, .bool n2, .slice B m' d]] w fun e w' => Tells (¬ (m ≤ 2 ∧ m' ≤ 2)) e ∧ Below w.heap.size w w' := by
 by_cases h1 : m ≤ 2
 ·have d1 : decide ((2 : Int) < (m : Int)) = false := decide_eq_false (by omega)
  by_cases h2 : m' ≤ 2
  ·have d2 : decide ((2 : Int) < (m' : Int)) = false := decide_eq_false (by omega)
   have HV : Hid (¬ ¬ (m ≤ 2 ∧ m' ≤ 2)) := fun h => h ⟨h1, h2⟩
   go_enter Tryz.func105, Tryz.ntmps105
   go_wp2_with fail
   go_ret
   exact ⟨by first | exact Tells.no HV.out | (simp only [d2]; exact Tells.no HV.out), bel⟩
  ·have d2 : decide ((2 : Int) < (m' : Int)) = true := decide_eq_true (by omega)
   have HV : Hid (¬ (m ≤ 2 ∧ m' ≤ 2)) := fun h => h2 h.2
   go_enter Tryz.func105, Tryz.ntmps105
   go_wp2_with fail
   go_ret
   exact ⟨by first | exact Tells.yes HV.out | (simp only [d2]; exact Tells.yes HV.out), bel⟩
 ·have d1 : decide ((2 : Int) < (m : Int)) = true := decide_eq_true (by omega)
  have HV : Hid (¬ (m ≤ 2 ∧ m' ≤ 2)) := fun h => h1 h.1
  go_enter Tryz.func105, Tryz.ntmps105
  go_wp2_with fail
  go_ret
  exact ⟨by first | exact Tells.yes HV.out | (simp only [d1]; exact Tells.yes HV.out), bel⟩

/-- Rows of at most k numbers of at most two words. -/
def TK (k : Nat) (L : List (List RF)) : Prop := ∀ l ∈ L, l.length ≤ k ∧ ∀ e ∈ l, e.few
set_option maxRecDepth 100000 in
set_option maxHeartbeats 4000000 in
theorem rats_any (w : World) (kk : Nat) (v : Value) (L : List (List RF)) (h : RMat w v L) (hkk : kk ≤ 1000) (hL : L.length ≤ 1000000) :
 Calls Tryz.prog 35 #[.int .i64 kk, v] w fun e w' => Tells (TK kk L) e ∧ Below w.heap.size w w' := by
 have H := Lib.hid h
 obtain ⟨A, cA, rfl, -, l1, l2⟩ := h.op
 obtain ⟨m, hm⟩ : ∃ m, L.length = m := ⟨_, rfl⟩
 have HM := Lib.hid hm
 rw [hm] at l1 H hL
 rw [hm]
 clear h hm
 go_enter Tryz.func35, Tryz.ntmps35
 go_wp2_with fail
 go_loopw [9] (fun i wr => ∃ (c : Nat), c ≤ m ∧ i = .int .i64 c ∧ Hid (∀ (i : Nat) (l : List RF), i < c → L[i]? = some l → l.length ≤ kk ∧ ∀ e ∈ l, e.few) ∧ Below w.heap.size w wr) (fun i _ => m - (intOf i).toNat)
 case atStart => exact ⟨0, by omega, rfl, Lib.hid (fun i e hi => absurd hi (by omega)), bel⟩
 case round =>
  obtain ⟨c, hc, rfl, hall, hB⟩ := hrel
  obtain ⟨wo, rfl⟩ : ∃ wo : World, wo = wr := ⟨_, rfl⟩
  have y5 := hB.size; (try simp only [zs] at y5)
  by_cases hlt : c < m
  ·obtain ⟨l, he⟩ : ∃ r, L[c]? = some r := ⟨_, List.getElem?_eq_getElem (by rw [HM.out]; exact hlt)⟩
   obtain ⟨a, D, c1, rfl, hb, x0, hr, -, -⟩ := (H.out.keep (.of_below hB)).at he
   obtain ⟨n, hn⟩ : ∃ n, l.length = n := ⟨_, rfl⟩
   rw [hn] at x0 hr
   have HE := Lib.hid he
   have HR := Lib.hid hr
   have HN := Lib.hid hn
   have k0 : (0 : Int) ≤ (c : Int) := by omega
   have k1 : (c : Int) < (m : Int) := by omega
   clear he hr hn
   by_cases hn6 : kk < n
   ·have HV : Hid (¬ TK kk L) := fun h => by have := (h l (List.mem_of_getElem? HE.out)).1; rw [HN.out] at this; omega
    have d1 : decide ((kk : Int) < (n : Int)) = true := decide_eq_true (by omega)
    go_wp2_with fail
    go_ret
    exact ⟨Tells.no HV.out, hB⟩
   ·have d1 : decide ((kk : Int) < (n : Int)) = false := decide_eq_false (by omega)
    have hn7 : n ≤ kk := by omega
    go_wp2_with fail
    refine (containsF_any _ 105 #[] (fun e => ¬ e.few) _ l HR.out (enters Tryz.func105 (by kernel_rfl) (by kernel_rfl)) (show TellsF _ 105 #[] (fun e => ¬ e.few) from fun W v e m m' A B c d _ hv hm hm' _ => by subst hv hm hm'; exact rats1_any W e.n1 e.n2 A B _ _ c d)).mono ?_
    rintro e w2 ⟨⟨b, rfl, hb2⟩, hb3⟩
    have y6 := hb3.size; (try simp only [zs] at y6)
    cases b
    ·have HV : Hid (∀ e ∈ l, e.few) := fun e he => Classical.not_not.1 (fun hn => by have := hb2.out.2 ⟨e, he, hn⟩; cases this)
     clear hb2
     go_wp2_with fail
     go_roundw
     case rel =>
      refine ⟨c + 1, by omega, by go_num, Lib.hid (fun i l' hi hl' => ?_), bel⟩
      by_cases hic : i < c
      ·exact hall.out i l' hic hl'
      ·obtain rfl : i = c := by omega
       rw [HE.out] at hl'
       injection hl' with hl'
       subst hl'
       exact ⟨by rw [HN.out]; exact hn7, HV.out⟩
     case measure => simp only [intOf]; omega
    ·have HV : Hid (¬ TK kk L) := fun h => by
      obtain ⟨e, he, hn⟩ := hb2.out.1 rfl
      exact hn ((h l (List.mem_of_getElem? HE.out)).2 e he)
     clear hb2
     go_wp2_with fail
     go_ret
     exact ⟨Tells.no HV.out, bel⟩
  ·obtain rfl : c = m := by omega
   have HV : Hid (TK kk L) := fun l hl => by
    obtain ⟨i, hi, rfl⟩ := List.mem_iff_getElem.1 hl
    exact hall.out i _ (by rw [← HM.out]; exact hi) (List.getElem?_eq_getElem hi)
   go_wp2_with fail
   go_ret
   exact ⟨Tells.yes HV.out, hB⟩
end Go.Proofs.YtbdcjhoedhhabaaGreat

/- The closed facts of a row, one by one: together they are too dear for one check of the kernel. -/
namespace Go.Proofs.YtbdcjhoedhhabaaGreat

/-- The facts that cost little. -/
def cheapFacts (P : Program) (fn : Func) (s : ChangeSpec) (c : OpenClaim) : Bool :=
 c.wf (OpenSpec.ofChange s) &&
 fn.params.all (P.readableRec ·) && namedTie P c.named s.vars &&
 (c.stops == []) && (P.stops == []) && (c.knobs == []) && (P.stopKnobs == []) &&
 (c.maps == (fn.params.toList ++ s.plain.varTypes P).any (P.mapsRec ·)) && (c.ifaces == (fn.params.toList ++ s.plain.varTypes P).any (P.ifacesRec ·)) && (c.mapsOut == P.mapsAmong fn.resultTypes.toList) &&
 (c.loops == (fn.params.toList ++ s.plain.varTypes P).any (P.loopsFrom ·)) && (c.wideKeys == (fn.params.toList ++ s.plain.varTypes P ++ fn.resultTypes.toList).any (P.wideKeysFrom ·)) &&
 s.vars.all (P.varReadable ·) && fn.resultTypes.all (fun t => P.readableRec t && decide (t < P.types.size)) && (c.ifacesOut == fn.resultTypes.toList.any (P.ifacesRec ·)) && (c.loopsOut == fn.resultTypes.toList.any (P.loopsFrom ·)) && (c.plainKeys == P.plainKeys) && c.shortTexts.isNone && P.stopsHeard && P.mayEnter && (c.lifted == P.liftsFinal) && (P.make == some c.make) && (c.kinds == (if c.domain.isEmpty then [] else fn.params.toList.map fun t => match P.underlying t with | some (.int k) => some k | _ => none)) && (c.pinned == c.pinnedBy) &&
 (c.veiled == (fn.params.toList ++ s.plain.varTypes P ++ fn.resultTypes.toList).any (P.veiledRec ·)) && c.veiledFits P fn.params.toList (fn.params.toList ++ s.plain.varTypes P ++ fn.resultTypes.toList)

theorem joined_mk {P : Program} {f : FuncId} {fn : Func} {s : ChangeSpec} {c : OpenClaim} (h1 : laidOutB P = true) (h2 : mapsRowed P = true) (h3 : (c.inPlace == P.inPlace f) = true) (h4 : (c.unfollowed == P.unfollowed f) = true)
 (h5 : (c.recurses == P.recurses f) = true) (h6 : (c.named == P.varsNamed f) = true) (h : cheapFacts P fn s c = true) : joinedFacts P f fn s c = true := by
 unfold joinedFacts
 rw [h1, h2, h3, h4, h5, h6]
 simp only [Bool.and_true]
 exact h

theorem rowed : mapsRowed Tryz.prog = true := by kernel_rfl

end Go.Proofs.YtbdcjhoedhhabaaGreat

