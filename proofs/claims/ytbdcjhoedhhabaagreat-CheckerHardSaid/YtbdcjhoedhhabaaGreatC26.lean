/- Contracts of the functions that the statements reach, part 26. -/
import Derived.Test.YtbdcjhoedhhabaaGreatRows
import Derived.Test.YtbdcjhoedhhabaaGreatC22
import Derived.Test.YtbdcjhoedhhabaaGreatC25
set_option linter.unusedSimpArgs false
set_option linter.unusedVariables false

/- checker.hard, adaptive.needed. Printed by gen_hd7.py. -/
namespace Go.Proofs.YtbdcjhoedhhabaaGreat
open Go.RowKit
attribute [local go_sem ↓] Go.wp_at_zero Go.wp_at_succ

/-- A flag tells whether P. -/
def Flag (b : Bool) (P : Prop) : Prop := b = true ↔ P
/-- The parts of a set by a view, without the empty ones. -/
def prt (S : Nat) (v : List Int) : List Int := nzs (parts v S v.length v.length)
/-- An entry with a depth above 0 is justified. -/
def HardP (L : List (List Int)) (S : Nat) (D : Int) (f : Lit → Option Int) : Prop := (∀ v ∈ L, 1 < D → ∃ y ∈ prt S v, KnownGe f D y) ∧ ∃ v ∈ L, 1 < (prt S v).length

set_option maxRecDepth 100000 in
set_option maxHeartbeats 8000000 in
theorem hard_any (w : World) (ns : Int) (vm : Value) (L : List (List Int)) (S : Nat) (D : Int) (b n0 c0 : Nat) (f : Lit → Option Int) (h : IMat w vm L) (hm : MenuOk ns L) (hM : MapF w 3 b n0 c0 f) (hS : S < 4611686018427387904) (hD : 0 < D ∧ D ≤ 9223372036854775807) :
 Calls Tryz.prog 120 #[.agg #[.int .i64 ns, vm], .map (some b), .agg #[.int .i64 (S : Int), .int .i64 D]] w fun e w' => Tells (HardP L S D f) e ∧ Below w.heap.size w w' := by
 have H := Lib.hid h
 have HMN := Lib.hid hm
 have HMP := Lib.hid hM
 obtain ⟨A, cap, rfl, h, l1, l2⟩ := h.op
 clear h hm hM
 obtain ⟨m, hml⟩ : ∃ m, L.length = m := ⟨_, rfl⟩
 have HM := Lib.hid hml
 have H2 : Hid (IMat w (.slice A m cap) L) := by have h9 := H.out; rw [hml] at h9; exact h9
 rw [hml] at l1 ⊢
 have hm8 : m ≤ 8 := by have := HMN.out.2.1; omega
 clear hml H
 obtain ⟨P, hP⟩ : ∃ P, HardP L S D f = P := ⟨_, rfl⟩
 rw [hP]
 have HP : Hid (P ↔ HardP L S D f) := by rw [← hP]; exact Iff.rfl
 clear hP
 have hbw : b < w.heap.size := HMP.out.lt
 have L1 := made1 w #[.int .i64 ns, .slice A m cap] 84
 have L2 := made2 w (.cells #[.int .i64 ns, .slice A m cap] 84) #[.map (some b)] 186
 have L3 := made3 w (.cells #[.int .i64 ns, .slice A m cap] 84) (.cells #[.map (some b)] 186) #[.int .i64 (S : Int), .int .i64 D] 222
 go_enter Tryz.func120, Tryz.ntmps120
 go_wp2_with fail
 go_loopw [7, 14] (fun av i wr => ∃ (c : Nat) (ap : Bool), c ≤ m ∧ i = .int .i64 c ∧ av = .bool ap ∧ Hid (Flag ap (∃ (i : Nat) (v : List Int), i < c ∧ L[i]? = some v ∧ 1 < (prt S v).length)) ∧ Hid (∀ (i : Nat) (v : List Int), i < c → L[i]? = some v → 1 < D → ∃ y ∈ prt S v, KnownGe f D y) ∧ Hid (Loc wr w.heap.size 84 #[.int .i64 ns, .slice A m cap]) ∧ Hid (Loc wr (w.heap.size + 1) 186 #[.map (some b)]) ∧ Hid (Loc wr (w.heap.size + 1 + 1) 222 #[.int .i64 (S : Int), .int .i64 D]) ∧ Below w.heap.size w wr) (fun _ i _ => m - (intOf i).toNat)
 case atStart => exact ⟨0, false, by omega, rfl, rfl, Lib.hid ⟨fun h => (by cases h), fun ⟨i, v, hi, _⟩ => absurd hi (by omega)⟩, Lib.hid (fun i v hi => absurd hi (by omega)), Lib.hid L1.to, Lib.hid L2.to, Lib.hid L3.to, bel⟩
 case round =>
  clear L1 L2 L3
  obtain ⟨c, ap, hc, rfl, rfl, hap, hall, hL1, hL2, hL3, hB⟩ := hrel
  obtain ⟨wo, rfl⟩ : ∃ wo : World, wo = wr := ⟨_, rfl⟩
  have y5 := hB.size; (try simp only [zs] at y5)
  by_cases hlt : c < m
  ·obtain ⟨v, he⟩ : ∃ l, L[c]? = some l := ⟨_, List.getElem?_eq_getElem (by rw [HM.out]; exact hlt)⟩
   obtain ⟨a, E, d, rfl, hab, hcell, hnum, l5, l6⟩ := (H2.out.keep (.of_below hB)).at he
   have HE := Lib.hid he
   have HNUM := Lib.hid hnum
   have hvm := HMN.out.2.2 v (List.mem_of_getElem? he)
   have hns := HMN.out.1
   have HVL : Hid (v.length ≤ 62) := by show _ ≤ _; omega
   have HCG : Hid (canGo 0 v) := hvm.2
   have k0 : (0 : Int) ≤ (c : Int) := by omega
   have k1 : (c : Int) < (m : Int) := by omega
   obtain ⟨e1, f1, -⟩ := Loc.all hL3.out (w' := wo)
   clear he hnum hvm hns
   go_wp2_with fail
   refine (split_any _ _ v S (HNUM.out.keep kp) HVL.out HCG.out hS).mono ?_
   rintro e w2 ⟨⟨v2, rfl, hv2⟩, hb2⟩
   have y2 := hb2.size; (try simp only [zs] at y2)
   have HB2 : Hid (Below w.heap.size w w2) := hB.trans (hb2.mono (by omega))
   have HL1 : Hid (Loc w2 w.heap.size 84 #[.int .i64 ns, .slice (some a) m cap]) := Loc.below hL1.out hb2
   have HL2 : Hid (Loc w2 (w.heap.size + 1) 186 #[.map (some b)]) := Loc.below hL2.out hb2
   have HL3 : Hid (Loc w2 (w.heap.size + 1 + 1) 222 #[.int .i64 (S : Int), .int .i64 D]) := Loc.below hL3.out hb2
   have HV2 : Hid (IntsV w2 v2 (prt S v)) := hv2.out
   clear e1 f1 hv2
   obtain ⟨B2, c2, rfl, -, l7, l8⟩ := HV2.out.op
   obtain ⟨pn, hpn⟩ : ∃ q, (prt S v).length = q := ⟨_, rfl⟩
   have HPN := Lib.hid hpn
   have HV3 : Hid (IntsV w2 (.slice B2 pn c2) (prt S v)) := by have h9 := HV2.out; rw [hpn] at h9; exact h9
   rw [hpn] at l7 ⊢
   clear hpn HV2
   obtain ⟨e1, f1, -⟩ := Loc.all HL3.out (w' := w2)
   obtain ⟨ap', hap'⟩ : ∃ ap' : Bool, ap' = (ap || decide (1 < pn)) := ⟨_, rfl⟩
   have HAP : Hid (Flag ap' (∃ (i : Nat) (v : List Int), i < c + 1 ∧ L[i]? = some v ∧ 1 < (prt S v).length)) := by
    show (_ = true) ↔ _
    have hap2 : ap = true ↔ _ := hap.out
    rw [hap', Bool.or_eq_true, decide_eq_true_eq, hap2]
    constructor
    ·rintro (⟨i, v', h1, h2, h3⟩ | h1)
     ·exact ⟨i, v', by omega, h2, h3⟩
     ·exact ⟨c, v, by omega, HE.out, by rw [HPN.out]; exact h1⟩
    ·rintro ⟨i, v', h1, h2, h3⟩
     by_cases hh : i < c
     ·exact .inl ⟨i, v', hh, h2, h3⟩
     ·obtain rfl : i = c := by omega
      rw [HE.out] at h2
      injection h2 with h2
      subst h2
      rw [HPN.out] at h3
      exact .inr h3
   have HALL : Hid ((1 < D → ∃ y ∈ prt S v, KnownGe f D y) → ∀ (i : Nat) (v : List Int), i < c + 1 → L[i]? = some v → 1 < D → ∃ y ∈ prt S v, KnownGe f D y) := fun hq i v' hi hv' hd => by
    by_cases hh : i < c
    ·exact hall.out i v' hh hv' hd
    ·obtain rfl : i = c := by omega
     rw [HE.out] at hv'
     injection hv' with hv'
     subst hv'
     exact hq hd
   have HBAD : Hid (1 < D → ¬ (∃ y ∈ prt S v, KnownGe f D y) → ¬ P) := fun hd hq hp => hq ((HP.out.1 hp).1 v (List.mem_of_getElem? HE.out) hd)
   have HMP2 : Hid (∀ W, Below w2.heap.size w2 W → MapF W 3 b n0 c0 f ∧ W.cell? ⟨w.heap.size + 1, 0, none⟩ = some (.map (some b)) ∧ W.cell? ⟨w.heap.size + 1 + 1, 1, none⟩ = some (.int .i64 D)) := fun W hW => ⟨HMP.out.below (HB2.out.trans (hW.mono (by omega))) hbw, Loc.cell (Loc.below HL2.out hW) 0, Loc.cell (Loc.below HL3.out hW) 1⟩
   have hcase : (ap = true ∧ ap' = true) ∨ (ap = false ∧ 1 < pn ∧ ap' = true) ∨ (ap = false ∧ ¬ 1 < pn ∧ ap' = false) := by
    rw [hap']
    cases ap
    ·by_cases h : 1 < pn
     ·exact .inr (.inl ⟨rfl, h, by simp [h]⟩)
     ·exact .inr (.inr ⟨rfl, h, by simp [h]⟩)
    ·exact .inl ⟨rfl, rfl⟩
   clear hap' hap
   rcases hcase with ⟨rfl, rfl⟩ | ⟨rfl, h, rfl⟩ | ⟨rfl, h, rfl⟩
   ·skip
    by_cases hd : 1 < D
    ·have d2 : decide (1 < D) = true := decide_eq_true hd
     have HD1 := Lib.hid hd
     clear hd
     go_wp2_with fail
     refine (containsZ_any _ 256 #[.pointer (some ⟨w.heap.size + 1, 0, none⟩), .pointer (some ⟨w.heap.size + 1 + 1, 0, none⟩)] (KnownGe f D) _ (prt S v) HV3.out (enters Tryz.func256 (by kernel_rfl) (by kernel_rfl)) (fun W z hW hz => hard1_any W z D b n0 c0 (w.heap.size + 1) (w.heap.size + 1 + 1) f (HMP2.out W hW).1 (HMP2.out W hW).2.1 (HMP2.out W hW).2.2 (by obtain ⟨_, _, _, _, _, _, h6⟩ := HV3.out; exact h6 z hz) ⟨HD1.out, hD.2⟩)).mono ?_
     rintro e w3 ⟨⟨b9, rfl, hb9⟩, hb3⟩
     have y3 := hb3.size; (try simp only [zs] at y3)
     cases b9
     ·have HV := Lib.hid (HBAD.out HD1.out (fun h => by have := hb9.out.2 h; cases this))
      clear hb9
      go_wp2_with fail
      go_ret
      exact ⟨Tells.no HV.out, bel⟩
     ·have HNX := Lib.hid (HALL.out (fun _ => hb9.out.1 rfl))
      clear hb9
      go_wp2_with fail
      go_roundw
      case rel => exact ⟨c + 1, _, by omega, by go_num, rfl, HAP, HNX, Lib.hid (Loc.below HL1.out hb3), Lib.hid (Loc.below HL2.out hb3), Lib.hid (Loc.below HL3.out hb3), bel⟩
      case measure => simp only [intOf]; omega
    ·have d2 : decide (1 < D) = false := decide_eq_false hd
     have HNX := Lib.hid (HALL.out (fun h => absurd h hd))
     clear hd
     go_wp2_with fail
     go_roundw
     case rel => exact ⟨c + 1, _, by omega, by go_num, rfl, HAP, HNX, HL1, HL2, HL3, bel⟩
     case measure => simp only [intOf]; omega
   ·have d1 : decide ((1 : Int) < (pn : Int)) = true := decide_eq_true (by omega)
    have d1' : decide (1 < pn) = true := decide_eq_true h
    clear h
    by_cases hd : 1 < D
    ·have d2 : decide (1 < D) = true := decide_eq_true hd
     have HD1 := Lib.hid hd
     clear hd
     go_wp2_with fail
     refine (containsZ_any _ 256 #[.pointer (some ⟨w.heap.size + 1, 0, none⟩), .pointer (some ⟨w.heap.size + 1 + 1, 0, none⟩)] (KnownGe f D) _ (prt S v) HV3.out (enters Tryz.func256 (by kernel_rfl) (by kernel_rfl)) (fun W z hW hz => hard1_any W z D b n0 c0 (w.heap.size + 1) (w.heap.size + 1 + 1) f (HMP2.out W hW).1 (HMP2.out W hW).2.1 (HMP2.out W hW).2.2 (by obtain ⟨_, _, _, _, _, _, h6⟩ := HV3.out; exact h6 z hz) ⟨HD1.out, hD.2⟩)).mono ?_
     rintro e w3 ⟨⟨b9, rfl, hb9⟩, hb3⟩
     have y3 := hb3.size; (try simp only [zs] at y3)
     cases b9
     ·have HV := Lib.hid (HBAD.out HD1.out (fun h => by have := hb9.out.2 h; cases this))
      clear hb9
      go_wp2_with fail
      go_ret
      exact ⟨Tells.no HV.out, bel⟩
     ·have HNX := Lib.hid (HALL.out (fun _ => hb9.out.1 rfl))
      clear hb9
      go_wp2_with fail
      go_roundw
      case rel => exact ⟨c + 1, _, by omega, by go_num, rfl, HAP, HNX, Lib.hid (Loc.below HL1.out hb3), Lib.hid (Loc.below HL2.out hb3), Lib.hid (Loc.below HL3.out hb3), bel⟩
      case measure => simp only [intOf]; omega
    ·have d2 : decide (1 < D) = false := decide_eq_false hd
     have HNX := Lib.hid (HALL.out (fun h => absurd h hd))
     clear hd
     go_wp2_with fail
     go_roundw
     case rel => exact ⟨c + 1, _, by omega, by go_num, rfl, HAP, HNX, HL1, HL2, HL3, bel⟩
     case measure => simp only [intOf]; omega
   ·have d1 : decide ((1 : Int) < (pn : Int)) = false := decide_eq_false (by omega)
    have d1' : decide (1 < pn) = false := decide_eq_false h
    clear h
    by_cases hd : 1 < D
    ·have d2 : decide (1 < D) = true := decide_eq_true hd
     have HD1 := Lib.hid hd
     clear hd
     go_wp2_with fail
     refine (containsZ_any _ 256 #[.pointer (some ⟨w.heap.size + 1, 0, none⟩), .pointer (some ⟨w.heap.size + 1 + 1, 0, none⟩)] (KnownGe f D) _ (prt S v) HV3.out (enters Tryz.func256 (by kernel_rfl) (by kernel_rfl)) (fun W z hW hz => hard1_any W z D b n0 c0 (w.heap.size + 1) (w.heap.size + 1 + 1) f (HMP2.out W hW).1 (HMP2.out W hW).2.1 (HMP2.out W hW).2.2 (by obtain ⟨_, _, _, _, _, _, h6⟩ := HV3.out; exact h6 z hz) ⟨HD1.out, hD.2⟩)).mono ?_
     rintro e w3 ⟨⟨b9, rfl, hb9⟩, hb3⟩
     have y3 := hb3.size; (try simp only [zs] at y3)
     cases b9
     ·have HV := Lib.hid (HBAD.out HD1.out (fun h => by have := hb9.out.2 h; cases this))
      clear hb9
      go_wp2_with fail
      go_ret
      exact ⟨Tells.no HV.out, bel⟩
     ·have HNX := Lib.hid (HALL.out (fun _ => hb9.out.1 rfl))
      clear hb9
      go_wp2_with fail
      go_roundw
      case rel => exact ⟨c + 1, _, by omega, by go_num, rfl, HAP, HNX, Lib.hid (Loc.below HL1.out hb3), Lib.hid (Loc.below HL2.out hb3), Lib.hid (Loc.below HL3.out hb3), bel⟩
      case measure => simp only [intOf]; omega
    ·have d2 : decide (1 < D) = false := decide_eq_false hd
     have HNX := Lib.hid (HALL.out (fun h => absurd h hd))
     clear hd
     go_wp2_with fail
     go_roundw
     case rel => exact ⟨c + 1, _, by omega, by go_num, rfl, HAP, HNX, HL1, HL2, HL3, bel⟩
     case measure => simp only [intOf]; omega
  ·obtain rfl : c = m := by omega
   have HIF : Hid (P ↔ ap = true) := by
    show _ ↔ _
    have hap2 : ap = true ↔ _ := hap.out
    rw [HP.out, hap2]
    constructor
    ·rintro ⟨-, v, hv, h⟩
     obtain ⟨i, hi, rfl⟩ := List.getElem_of_mem hv
     exact ⟨i, _, by rw [← HM.out]; exact hi, List.getElem?_eq_getElem hi, h⟩
    ·rintro ⟨i, v, h1, h2, h3⟩
     refine ⟨fun v' hv' hd => ?_, v, List.mem_of_getElem? h2, h3⟩
     obtain ⟨j, hj, rfl⟩ := List.getElem_of_mem hv'
     exact hall.out j _ (by rw [← HM.out]; exact hj) (List.getElem?_eq_getElem hj) hd
   go_wp2_with fail
   go_ret
   exact ⟨⟨ap, rfl, HIF.out.symm⟩, hB⟩

/-- Each question has a part that needs all but one question. -/
def NeedP (L : List (List Int)) (S : Nat) (D : Int) (f : Lit → Option Int) : Prop := ∀ v ∈ L, ∃ y ∈ prt S v, KnownGe f D y

theorem prt_iff {v : List Int} {S : Nat} (hcg : canGo 0 v) (P : Int → Prop) : (∃ y ∈ parts v S ((lmax v).toNat + 1) v.length, y ≠ 0 ∧ P y) ↔ ∃ y ∈ prt S v, P y := by
 have h1 : ∀ (i : Nat) (z : Int), v[i]? = some z → 0 ≤ z ∧ z < (v.length : Int) := fun i z hz => by
  have h1 := canGo_le v 0 (by omega) hcg i z hz
  have h2 := (List.getElem?_eq_some_iff.1 hz).1
  omega
 have h2 : ∀ (i : Nat) (z : Int), v[i]? = some z → 0 ≤ z ∧ z < (((lmax v).toNat + 1 : Nat) : Int) := fun i z hz => by
  have h3 := h1 i z hz
  have h4 := lmax_ge (List.mem_of_getElem? hz)
  omega
 unfold prt
 constructor
 ·rintro ⟨y, hy, h0, hp⟩
  exact ⟨y, nzs_mem.2 ((parts_mem h1 y).2 ((parts_mem h2 y).1 ⟨hy, h0⟩)), hp⟩
 ·rintro ⟨y, hy, hp⟩
  obtain ⟨h3, h4⟩ := (parts_mem h2 y).2 ((parts_mem h1 y).1 (nzs_mem.1 hy))
  exact ⟨y, h3, h4, hp⟩

set_option maxRecDepth 100000 in
set_option maxHeartbeats 8000000 in
theorem needed_any (w : World) (ns : Int) (vm : Value) (L : List (List Int)) (S : Nat) (D : Int) (b n0 c0 : Nat) (f : Lit → Option Int) (h : IMat w vm L) (hm : MenuOk ns L) (hM : MapF w 3 b n0 c0 f) (hS : S < 4611686018427387904) (hD : 1 < D ∧ D ≤ 9223372036854775807) :
 Calls Tryz.prog 125 #[.agg #[.int .i64 ns, vm], .map (some b), .agg #[.int .i64 (S : Int), .int .i64 D]] w fun e w' => Tells (NeedP L S D f) e ∧ Below w.heap.size w w' := by
 have H := Lib.hid h
 have HMN := Lib.hid hm
 have HMP := Lib.hid hM
 obtain ⟨A, cap, rfl, h, l1, l2⟩ := h.op
 clear h hm hM
 obtain ⟨m, hml⟩ : ∃ m, L.length = m := ⟨_, rfl⟩
 have HM := Lib.hid hml
 have H2 : Hid (IMat w (.slice A m cap) L) := by have h9 := H.out; rw [hml] at h9; exact h9
 rw [hml] at l1 ⊢
 have hm8 : m ≤ 8 := by have := HMN.out.2.1; omega
 clear hml H
 obtain ⟨P, hP⟩ : ∃ P, NeedP L S D f = P := ⟨_, rfl⟩
 rw [hP]
 have HP : Hid (P ↔ NeedP L S D f) := by rw [← hP]; exact Iff.rfl
 clear hP
 have hbw : b < w.heap.size := HMP.out.lt
 have L1 := made1 w #[.int .i64 ns, .slice A m cap] 84
 have L2 := made2 w (.cells #[.int .i64 ns, .slice A m cap] 84) #[.map (some b)] 186
 have L3 := made3 w (.cells #[.int .i64 ns, .slice A m cap] 84) (.cells #[.map (some b)] 186) #[.int .i64 (S : Int), .int .i64 D] 222
 go_enter Tryz.func125, Tryz.ntmps125
 go_wp2_with fail
 go_loopw [12] (fun i wr => ∃ (c : Nat), c ≤ m ∧ i = .int .i64 c ∧ Hid (∀ (i : Nat) (v : List Int), i < c → L[i]? = some v → ∃ y ∈ prt S v, KnownGe f D y) ∧ Hid (Loc wr w.heap.size 84 #[.int .i64 ns, .slice A m cap]) ∧ Hid (Loc wr (w.heap.size + 1) 186 #[.map (some b)]) ∧ Hid (Loc wr (w.heap.size + 1 + 1) 222 #[.int .i64 (S : Int), .int .i64 D]) ∧ Below w.heap.size w wr) (fun i _ => m - (intOf i).toNat)
 case atStart => exact ⟨0, by omega, rfl, Lib.hid (fun i v hi => absurd hi (by omega)), Lib.hid L1.to, Lib.hid L2.to, Lib.hid L3.to, bel⟩
 case round =>
  clear L1 L2 L3
  obtain ⟨c, hc, rfl, hall, hL1, hL2, hL3, hB⟩ := hrel
  obtain ⟨wo, rfl⟩ : ∃ wo : World, wo = wr := ⟨_, rfl⟩
  have y5 := hB.size; (try simp only [zs] at y5)
  by_cases hlt : c < m
  ·obtain ⟨v, he⟩ : ∃ l, L[c]? = some l := ⟨_, List.getElem?_eq_getElem (by rw [HM.out]; exact hlt)⟩
   obtain ⟨a, E, d, rfl, hab, hcell, hnum, l5, l6⟩ := (H2.out.keep (.of_below hB)).at he
   have HE := Lib.hid he
   have HNUM := Lib.hid hnum
   have hvm := HMN.out.2.2 v (List.mem_of_getElem? he)
   have hns := HMN.out.1
   have HVL : Hid (v.length ≤ 62) := by show _ ≤ _; omega
   have HVL1 : Hid (1 ≤ v.length) := by show _ ≤ _; omega
   have HCG : Hid (canGo 0 v) := hvm.2
   have k0 : (0 : Int) ≤ (c : Int) := by omega
   have k1 : (c : Int) < (m : Int) := by omega
   obtain ⟨e1, f1, -⟩ := Loc.all hL3.out (w' := wo)
   clear he hnum hvm hns
   go_wp2_with fail
   refine (parts_any _ _ v S (HNUM.out.keep kp) HVL1.out HVL.out HCG.out hS).mono ?_
   rintro e w2 ⟨⟨v2, rfl, hv2⟩, hb2⟩
   have y2 := hb2.size; (try simp only [zs] at y2)
   have HB2 : Hid (Below w.heap.size w w2) := hB.trans (hb2.mono (by omega))
   have HL1 : Hid (Loc w2 w.heap.size 84 #[.int .i64 ns, .slice (some a) m cap]) := Loc.below hL1.out hb2
   have HL2 : Hid (Loc w2 (w.heap.size + 1) 186 #[.map (some b)]) := Loc.below hL2.out hb2
   have HL3 : Hid (Loc w2 (w.heap.size + 1 + 1) 222 #[.int .i64 (S : Int), .int .i64 D]) := Loc.below hL3.out hb2
   clear e1 f1
   have HALL : Hid ((∃ y ∈ prt S v, KnownGe f D y) → ∀ (i : Nat) (v : List Int), i < c + 1 → L[i]? = some v → ∃ y ∈ prt S v, KnownGe f D y) := fun hq i v' hi hv' => by
    by_cases hh : i < c
    ·exact hall.out i v' hh hv'
    ·obtain rfl : i = c := by omega
     rw [HE.out] at hv'
     injection hv' with hv'
     subst hv'
     exact hq
   have HBAD : Hid (¬ (∃ y ∈ prt S v, KnownGe f D y) → ¬ P) := fun hq hp => hq (HP.out.1 hp v (List.mem_of_getElem? HE.out))
   have HIFF : Hid ((∃ y ∈ parts v S ((lmax v).toNat + 1) v.length, y ≠ 0 ∧ KnownGe f D y) ↔ ∃ y ∈ prt S v, KnownGe f D y) := prt_iff HCG.out _
   have HMP2 : Hid (∀ W, Below w2.heap.size w2 W → MapF W 3 b n0 c0 f ∧ W.cell? ⟨w.heap.size + 1, 0, none⟩ = some (.map (some b)) ∧ W.cell? ⟨w.heap.size + 1 + 1, 1, none⟩ = some (.int .i64 D)) := fun W hW => ⟨HMP.out.below (HB2.out.trans (hW.mono (by omega))) hbw, Loc.cell (Loc.below HL2.out hW) 0, Loc.cell (Loc.below HL3.out hW) 1⟩
   go_wp2_with fail
   refine (containsZ_any _ 260 #[.pointer (some ⟨w.heap.size + 1, 0, none⟩), .pointer (some ⟨w.heap.size + 1 + 1, 0, none⟩)] (fun y => y ≠ 0 ∧ KnownGe f D y) _ (parts v S ((lmax v).toNat + 1) v.length) hv2.out (enters Tryz.func260 (by kernel_rfl) (by kernel_rfl)) (fun W z hW hz => needed1_any W z D b n0 c0 (w.heap.size + 1) (w.heap.size + 1 + 1) f (HMP2.out W hW).1 (HMP2.out W hW).2.1 (HMP2.out W hW).2.2 (by obtain ⟨_, _, _, _, _, _, h6⟩ := hv2.out; exact h6 z hz) hD)).mono ?_
   rintro e w3 ⟨⟨b9, rfl, hb9⟩, hb3⟩
   have y3 := hb3.size; (try simp only [zs] at y3)
   cases b9
   ·have HV := Lib.hid (HBAD.out (fun h => by have := hb9.out.2 (HIFF.out.2 h); cases this))
    clear hb9
    go_wp2_with fail
    go_ret
    exact ⟨Tells.no HV.out, bel⟩
   ·have HNX := Lib.hid (HALL.out (HIFF.out.1 (hb9.out.1 rfl)))
    clear hb9
    go_wp2_with fail
    go_roundw
    case rel => exact ⟨c + 1, by omega, by go_num, HNX, Lib.hid (Loc.below HL1.out hb3), Lib.hid (Loc.below HL2.out hb3), Lib.hid (Loc.below HL3.out hb3), bel⟩
    case measure => simp only [intOf]; omega
  ·obtain rfl : c = m := by omega
   have HV : Hid P := HP.out.2 (fun v hv => by
    obtain ⟨j, hj, rfl⟩ := List.getElem_of_mem hv
    exact hall.out j _ (by rw [← HM.out]; exact hj) (List.getElem?_eq_getElem hj))
   go_wp2_with fail
   go_ret
   exact ⟨Tells.yes HV.out, hB⟩

/- adaptive.together, partition.Of. -/

/-- Numbers of a list that is grown by append. -/
theorem Own1.intsV {w : World} {base : Nat} {v : Value} {zs : List Int} (h : Own1 w base 3 v (zs.map (Value.int .i64))) (hz : ∀ z ∈ zs, -9223372036854775808 ≤ z ∧ z ≤ 9223372036854775807) : IntsV w v zs := by
 have h0 := h
 rcases h0.2 with ⟨h', hn⟩ | ⟨g', cap', cur, h', h3, hg', h1, h2, hsz, htake⟩
 ·have : zs = [] := by simpa using hn
  subst this
  exact ⟨none, 0, h', Nat.le_refl _, Nat.zero_le _, fun h => absurd rfl h, fun z hz => by simp at hz⟩
 ·rcases h.op with ⟨h8, h9⟩ | ⟨g, cap, cur2, e, -, h4, hl, hc⟩
  ·rw [h8] at h'; cases h'
  ·rw [h'] at e
   injection e with e1 e2 e3
   injection e1 with e1
   injection e1 with e1
   subst e1 e3
   rw [List.length_map] at h' h1
   exact ⟨_, _, h', h1, h2, fun _ => ⟨_, rfl, hl.lt, fun i z hi => by
    rw [add0, Loc.cell hl]
    exact hc i _ (by rw [List.getElem?_map, hi]; rfl)⟩, hz⟩

/-- One number appended. -/
theorem wpList_pushZ {ops : Array Oper} {rest : List Oper} {o : Oper} {a : Act} {Q : Exit → Act → World → Prop} (w : World) (hgd : o.guard = none) (s x : Operand) (ho : o.op = .call { callee := .builtin .append, args := #[s, x], argTypes := #[27, 27] })
 (base : Nat) (v : Value) (us : List Value) (hs : a.eval s = v) (hown : Own1 w base 3 v us) (H : Nat) (u : Value) (hx : a.eval x = .slice (some ⟨H, 0, none⟩) 1 1) (hH : w.heap[H]? = some (.cells #[u] 3 (0, 0))) (hu : u.oneCell' = true)
 (hn : us.length ≤ 1000) (hbase : base ≤ w.heap.size)
 (h : ∀ g cap w', Own1 w' base 3 (.slice (some ⟨g, 0, none⟩) (us.length + 1) cap) (us ++ [u]) → w.grownBy w' v.ownBlock → (v.ownBlock = some g ∨ g = w.heap.size) → g < w'.heap.size → wpList Tryz.prog ops Q rest (a.put o.dst (.slice (some ⟨g, 0, none⟩) (us.length + 1) cap)) w') : wpList Tryz.prog ops Q (o :: rest) a w :=
 wpList_plain hgd fun _ hK => wp_push1 w s x ho Tryz.underlying27 info_int1 rfl (by decide) base v us hs hown H u hx hH hu hn hbase fun g cap w' h1 h2 h3 h4 => hK _ _ (h g cap w' h1 h2 h3 h4)

theorem bits_one {x : Nat} (hx : x < 9223372036854775808) : bits .and .i64 (x : Int) 1 = ((x % 2 : Nat) : Int) := by
 have := bits_and hx (y := 1) (by decide)
 rw [Nat.and_one_is_mod] at this
 exact this
theorem shr_bit (S c : Nat) : S / 2 ^ c % 2 = if S.testBit c then 1 else 0 := by
 rw [Nat.testBit_eq_decide_div_mod_eq]
 by_cases h : S / 2 ^ c % 2 = 1
 ·simp [h]
 ·have : S / 2 ^ c % 2 < 2 := Nat.mod_lt _ (by decide)
  simp [h]
  omega

/-- The members of a set are in one class. -/
def TogP (J : List Int) (S : Nat) : Prop := ∀ (s t : Nat) (x y : Int), J[s]? = some x → J[t]? = some y → S.testBit s = true → S.testBit t = true → x = y
/-- The class of the members among the first c, -1 if there are none. -/
def TogI (J : List Int) (S c : Nat) (cl : Int) : Prop := (cl = -1 ∧ ∀ s, s < c → S.testBit s = false) ∨ (0 ≤ cl ∧ (∃ s, s < c ∧ J[s]? = some cl ∧ S.testBit s = true) ∧ ∀ (s : Nat) (x : Int), s < c → J[s]? = some x → S.testBit s = true → x = cl)

set_option maxRecDepth 100000 in
set_option maxHeartbeats 8000000 in
theorem together_any (w : World) (v : Value) (J : List Int) (S : Nat) (h : IntsV w v J) (hl : J.length ≤ 62) (hJ : ∀ z ∈ J, 0 ≤ z) (hS : S < 4611686018427387904) :
 Calls Tryz.prog 124 #[v, .int .i64 (S : Int)] w fun e w' => Tells (TogP J S) e ∧ Below w.heap.size w w' := by
 have H := Lib.hid h
 have HJ := Lib.hid hJ
 obtain ⟨A, cap, rfl, h, l1, l2⟩ := h.op
 clear h hJ
 obtain ⟨n, hn⟩ : ∃ n, J.length = n := ⟨_, rfl⟩
 have HN := Lib.hid hn
 have H2 : Hid (IntsV w (.slice A n cap) J) := by have h9 := H.out; rw [hn] at h9; exact h9
 rw [hn] at l1 hl ⊢
 clear hn H
 obtain ⟨P, hP⟩ : ∃ P, TogP J S = P := ⟨_, rfl⟩
 rw [hP]
 have HP : Hid (P ↔ TogP J S) := by rw [← hP]; exact Iff.rfl
 clear hP
 go_enter Tryz.func124, Tryz.ntmps124
 go_wp2_with fail
 go_loopw [5, 10] (fun cv i wr => ∃ (c : Nat) (cl : Int), c ≤ n ∧ i = .int .i64 c ∧ cv = .int .i64 cl ∧ -1 ≤ cl ∧ Hid (TogI J S c cl) ∧ Below w.heap.size w wr) (fun _ i _ => n - (intOf i).toNat)
 case atStart => exact ⟨0, -1, by omega, rfl, rfl, by omega, Lib.hid (.inl ⟨rfl, fun s hs => absurd hs (by omega)⟩), bel⟩
 case round =>
  obtain ⟨c, cl, hc, rfl, rfl, hcl, hI, hB⟩ := hrel
  obtain ⟨wo, rfl⟩ : ∃ wo : World, wo = wr := ⟨_, rfl⟩
  have y5 := hB.size; (try simp only [zs] at y5)
  by_cases hlt : c < n
  ·obtain ⟨z, hz⟩ : ∃ z, J[c]? = some z := ⟨_, List.getElem?_eq_getElem (by rw [HN.out]; exact hlt)⟩
   obtain ⟨a, rfl, hab, hcell, -, -⟩ := (H2.out.keep (.of_below hB)).at hz
   have HZ := Lib.hid hz
   have hz0 := HJ.out z (List.mem_of_getElem? hz)
   have k0 : (0 : Int) ≤ (c : Int) := by omega
   have k1 : (c : Int) < (n : Int) := by omega
   have k2 : (c : Int) ≤ 64 := by omega
   have hb := shr_bit S c
   have e1 : ((S : Int) / 2 ^ c) = ((S / 2 ^ c : Nat) : Int) := by norm_cast
   have hqb : S / 2 ^ c < 9223372036854775808 := Nat.lt_of_le_of_lt (Nat.div_le_self _ _) (by omega)
   have s2 := bits_one hqb
   obtain ⟨q, hq⟩ : ∃ q : Nat, S / 2 ^ c = q := ⟨_, rfl⟩
   rw [hq] at hb e1 s2
   obtain ⟨B, hBt⟩ : ∃ B, S.testBit c = B := ⟨_, rfl⟩
   rw [hBt] at hb
   have HBT := Lib.hid hBt
   rw [hb] at s2
   clear hz hq hb hBt hqb
   cases B
   ·have s3 : bits .and .i64 (q : Int) 1 = 0 := s2
    have HNX : Hid (TogI J S (c + 1) cl) := by
     rcases hI.out with ⟨h1, h2⟩ | ⟨h1, ⟨s, s1, s4, s5⟩, h3⟩
     ·refine .inl ⟨h1, fun s hs => ?_⟩
      by_cases e : s = c
      ·subst e; exact HBT.out
      ·exact h2 s (by omega)
     ·refine .inr ⟨h1, ⟨s, by omega, s4, s5⟩, fun s x hs hx hb => ?_⟩
      by_cases e : s = c
      ·subst e; rw [HBT.out] at hb; cases hb
      ·exact h3 s x (by omega) hx hb
    clear s2
    go_wp2_with fail
    go_roundw
    case rel => exact ⟨c + 1, cl, by omega, by go_num, rfl, hcl, HNX, bel⟩
    case measure => simp only [intOf]; omega
   ·have s3 : bits .and .i64 (q : Int) 1 = 1 := s2
    clear s2
    have HSET : Hid (cl = -1 ∨ z = cl → TogI J S (c + 1) z) := fun hq => by
     refine .inr ⟨hz0, ⟨c, by omega, HZ.out, HBT.out⟩, fun s x hs hx hb => ?_⟩
     by_cases e : s = c
     ·subst e
      rw [HZ.out] at hx
      injection hx with hx
      exact hx.symm
     ·rcases hI.out with ⟨h1, h2⟩ | ⟨h1, -, h3⟩
      ·rw [h2 s (by omega)] at hb; cases hb
      ·rcases hq with hq | hq
       ·omega
       ·rw [hq]; exact h3 s x (by omega) hx hb
    by_cases z0 : cl = -1
    ·have HNX := Lib.hid (HSET.out (.inl z0))
     clear HSET
     have d1 : decide ((0 : Int) ≤ cl) = false := decide_eq_false (by omega)
     clear z0
     go_wp2_with fail
     go_roundw
     case rel => exact ⟨c + 1, z, by omega, by go_num, rfl, by omega, HNX, bel⟩
     case measure => simp only [intOf]; omega
    have d1 : decide ((0 : Int) ≤ cl) = true := decide_eq_true (by omega)
    by_cases z1 : z = cl
    ·have HNX := Lib.hid (HSET.out (.inr z1))
     clear HSET
     have d2 : (z == cl) = true := beq_iff_eq.2 z1
     have d3 : (z != cl) = false := by simp only [bne, d2]; rfl
     clear z0 z1
     go_wp2_with fail
     go_roundw
     case rel => exact ⟨c + 1, z, by omega, by go_num, rfl, by omega, HNX, bel⟩
     case measure => simp only [intOf]; omega
    ·have HV : Hid (¬ P) := fun h => by
      rcases hI.out with ⟨h1, h2⟩ | ⟨h1, ⟨s, s1, s4, s5⟩, h3⟩
      ·exact z0 h1
      ·exact z1 (HP.out.1 h c s z cl HZ.out s4 HBT.out s5)
     have d2 : (z == cl) = false := beq_eq_false_iff_ne.2 z1
     have d3 : (z != cl) = true := bne_iff_ne.2 z1
     clear z0 z1 HSET
     go_wp2_with fail
     go_ret
     exact ⟨Tells.no HV.out, bel⟩
  ·obtain rfl : c = n := by omega
   have HV : Hid P := HP.out.2 (fun s t x y hx hy hs ht => by
    have h1 := (List.getElem?_eq_some_iff.1 hx).1
    have h2 := (List.getElem?_eq_some_iff.1 hy).1
    rw [HN.out] at h1 h2
    rcases hI.out with ⟨-, h3⟩ | ⟨-, -, h3⟩
    ·rw [h3 s h1] at hs; cases hs
    ·rw [h3 s x h1 hx hs, h3 t y h2 hy ht])
   go_wp2_with fail
   go_ret
   exact ⟨Tells.yes HV.out, hB⟩
end Go.Proofs.YtbdcjhoedhhabaaGreat

