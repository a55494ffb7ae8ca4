/- Contracts of the functions that the statements reach, part 31. -/
import Derived.Test.YtbdcjhoedhhabaaGreatRows
import Derived.Test.YtbdcjhoedhhabaaGreatE26
set_option linter.unusedSimpArgs false
set_option linter.unusedVariables false

/- checker.simple: a path without repeated nodes. -/
namespace Go.Proofs.YtbdcjhoedhhabaaGreat
open Go.RowKit
attribute [local go_sem ↓] Go.wp_at_zero Go.wp_at_succ

/-- The first nodes of a path are right. -/
def PathTo (es : List (Int × Int)) (p : List Int) (c : Nat) : Prop := (p.take c).Nodup ∧ ∀ (i : Nat) (u v : Int), i + 1 < c → p[i]? = some u → p[i + 1]? = some v → (u, v) ∈ es
theorem PathTo.zero (es : List (Int × Int)) (p : List Int) : PathTo es p 0 := ⟨by simp, fun i u v h => absurd h (by omega)⟩
theorem PathTo.next {es : List (Int × Int)} {p : List Int} {c : Nat} (h : PathTo es p c) {v : Int} (hv : p[c]? = some v) (hm : v ∉ p.take c) (he : ∀ (j : Nat) (u : Int), c = j + 1 → p[j]? = some u → (u, v) ∈ es) : PathTo es p (c + 1) := by
 refine ⟨?_, fun i u x hi hu hx => ?_⟩
 ·rw [List.take_add_one, hv]
  rw [Option.toList_some, List.nodup_append]
  refine ⟨h.1, by simp, fun a ha b hb e => hm ?_⟩
  have hb' : b = v := by simpa using hb
  rw [← hb', ← e]; exact ha
 ·by_cases e : i + 1 < c
  ·exact h.2 i u x e hu hx
  ·obtain rfl : c = i + 1 := by omega
   rw [hv] at hx
   injection hx with hx
   subst hx
   exact he i u rfl hu
theorem PathTo.all {es : List (Int × Int)} {p : List Int} (h : PathTo es p p.length) : p.Nodup ∧ ∀ (i : Nat) (u v : Int), p[i]? = some u → p[i + 1]? = some v → (u, v) ∈ es := by
 refine ⟨by have := h.1; rwa [List.take_length] at this, fun i u v hu hv => h.2 i u v (List.getElem?_eq_some_iff.1 hv).1 hu hv⟩
theorem nodup_notin {p : List Int} (h : p.Nodup) {c : Nat} {v : Int} (hv : p[c]? = some v) : v ∉ p.take c := fun hm => by
 obtain ⟨i, hi, e⟩ := List.getElem_of_mem hm
 rw [List.length_take] at hi
 rw [List.getElem_take] at e
 obtain ⟨hc, e2⟩ := List.getElem?_eq_some_iff.1 hv
 exact (List.pairwise_iff_getElem.1 h i c (by omega) hc (by omega)) (e.trans e2.symm)
theorem IntsV.take {w : World} {A : Option Addr} {n cap : Nat} {zs : List Int} (h : IntsV w (.slice A n cap) zs) {i : Nat} (hi : i ≤ n) : IntsV w (.slice A i cap) (zs.take i) := by
 obtain ⟨A', cap', hv, h1, h2, h3, h4⟩ := h
 injection hv with e1 e2 e3
 subst e1 e3
 have hl : (zs.take i).length = i := by rw [List.length_take]; omega
 refine ⟨A, cap, by rw [hl], by rw [hl]; omega, h2, fun hn => ?_, fun z hz => h4 z (List.mem_of_mem_take hz)⟩
 rw [hl] at hn
 obtain ⟨a, ha, hb, hc⟩ := h3 (by omega)
 exact ⟨a, ha, hb, fun j z hz => hc j z (by rw [List.getElem?_take] at hz; split at hz; exact hz; cases hz)⟩
/-- The keys of edges. -/
def edgeK (es : List (Int × Int)) (c : Nat) (kl : Lit) : Prop := ∃ e ∈ es.take c, kl = keyL e.1 e.2

set_option maxRecDepth 100000 in
set_option maxHeartbeats 16000000 in
theorem simple_any (w : World) (n : Int) (bM nM : Nat) (vF vT vP : Value) (es : List (Int × Int)) (s t p : List Int) (hM : MapB w 200 bM nM (edgeK es es.length)) (hF : IntsV w vF s) (hT : IntsV w vT t) (hP : IntsV w vP p)
 (hE : ∀ e ∈ es, (-9223372036854775808 ≤ e.1 ∧ e.1 ≤ 9223372036854775807) ∧ (-9223372036854775808 ≤ e.2 ∧ e.2 ≤ 9223372036854775807)) :
 Calls Tryz.prog 156 #[.map (some bM), vF, vT, vP] w fun e w' => Tells (PathOk es s t p) e ∧ Below w.heap.size w w' := by
 have HM := Lib.hid hM
 have HF := Lib.hid hF
 have HT := Lib.hid hT
 have HP0 := Lib.hid hP
 have HE := Lib.hid hE
 have hbM : bM < w.heap.size := hM.lt
 obtain ⟨AF, cF, rfl, -, f1, f2⟩ := hF.op
 obtain ⟨AT, cT, rfl, -, t1, t2⟩ := hT.op
 obtain ⟨AP, cP, rfl, -, p1, p2⟩ := hP.op
 obtain ⟨m, hm⟩ : ∃ m, p.length = m := ⟨_, rfl⟩
 have HML := Lib.hid hm
 have HP : Hid (IntsV w (.slice AP m cP) p) := by have h9 := HP0.out; rw [hm] at h9; exact h9
 obtain ⟨mf, hmf⟩ : ∃ m, s.length = m := ⟨_, rfl⟩
 obtain ⟨mt, hmt⟩ : ∃ m, t.length = m := ⟨_, rfl⟩
 rw [hmf] at HF f1 ⊢
 rw [hmt] at HT t1 ⊢
 rw [hm] at p1 ⊢
 have lm : m ≤ 9223372036854775807 := by unfold maxLen at p2; omega
 obtain ⟨R, hR⟩ : ∃ R, PathOk es s t p = R := ⟨_, rfl⟩
 have HR : Hid (R ↔ PathOk es s t p) := by show _ ↔ _; rw [← hR]
 rw [hR]
 clear hM hF hT hP hE hm hmf hmt hR HP0
 by_cases hm0 : m = 0
 ·have HV : Hid (¬ R) := fun h => by have := (HR.out.1 h).pos; rw [HML.out] at this; omega
  subst hm0
  have d1 : ((0 : Int) == 0) = true := rfl
  go_enter Tryz.func156, Tryz.ntmps156
  go_wp2_with fail
  go_ret
  exact ⟨Tells.no HV.out, bel⟩
 obtain ⟨a0, ha0⟩ : ∃ z, p[0]? = some z := ⟨_, List.getElem?_eq_getElem (by rw [HML.out]; omega)⟩
 obtain ⟨q, hq⟩ : ∃ q, m = q + 1 := ⟨m - 1, by omega⟩
 obtain ⟨aL, haL⟩ : ∃ z, p[q]? = some z := ⟨_, List.getElem?_eq_getElem (by rw [HML.out]; omega)⟩
 obtain ⟨a, rfl, hab, hc0, -, -⟩ := HP.out.at ha0
 obtain ⟨a', ea, hab', hcL0, -, -⟩ := HP.out.at haL
 injection ea with ea
 subst ea
 rw [add_zero'] at hc0
 have HA0 := Lib.hid ha0
 have HAL := Lib.hid haL
 have HQ := Lib.hid hq
 have HcL := Lib.hid hcL0
 have d1 : ((m : Int) == 0) = false := beq_eq_false_iff_ne.2 (by omega)
 have k1 : IntKind.i64.wrap ((m : Int) - 1) = (q : Int) := by rw [IntKind.wrap_i64]; omega
 have k2 : (0 : Int) ≤ (q : Int) := by omega
 have k3 : (q : Int) < (m : Int) := by omega
 have k4 : (0 : Int) < (m : Int) := by omega
 clear ha0 haL hq hm0 hcL0
 go_enter Tryz.func156, Tryz.ntmps156
 go_wp2_with fail
 refine (containsV_any _ a0 _ s HF.out).mono ?_
 rintro e w1 ⟨⟨b, rfl, hb⟩, hb1⟩
 have y1 := hb1.size; (try simp only [zs] at y1)
 have HB1 : Hid (Below w.heap.size w w1) := hb1
 cases b
 case false =>
  have HV : Hid (¬ R) := fun h => by
   obtain ⟨⟨x, hx, hxs⟩, -⟩ := HR.out.1 h
   rw [HA0.out] at hx
   injection hx with hx
   subst hx
   have := hb.out.2 hxs
   cases this
  clear hb
  go_wp2_with fail
  go_ret
  exact ⟨Tells.no HV.out, HB1.out⟩
 have HS0 : Hid (a0 ∈ s) := hb.out.1 rfl
 have hcL : w1.cell? (a.add q) = some (.int .i64 aL) := cell_keep (X := fun _ => False) HcL.out (by rw [add_block]; exact hab) id (.of_below hb1)
 clear hb
 go_wp2_with fail
 refine (containsV_any _ aL _ t (HT.out.keep (.of_below HB1.out))).mono ?_
 rintro e w2 ⟨⟨b, rfl, hb⟩, hb2⟩
 have y2 := hb2.size; (try simp only [zs] at y2)
 have HB2 : Hid (Below w.heap.size w w2) := HB1.out.trans (hb2.mono y1)
 cases b
 case false =>
  have HV : Hid (¬ R) := fun h => by
   obtain ⟨-, ⟨x, hx, hxs⟩, -⟩ := HR.out.1 h
   rw [HML.out, show m - 1 = q by have := HQ.out; omega, HAL.out] at hx
   injection hx with hx
   subst hx
   have := hb.out.2 hxs
   cases this
  clear hb
  go_wp2_with fail
  go_ret
  exact ⟨Tells.no HV.out, HB2.out⟩
 have HT0 : Hid (aL ∈ t) := hb.out.1 rfl
 clear hb hcL
 go_wp2_with fail
 go_loopw [35] (fun i wr => ∃ (c : Nat), c ≤ m ∧ i = .int .i64 c ∧ Hid (PathTo es p c) ∧ Below w.heap.size w wr) (fun i _ => m - (intOf i).toNat)
 case atStart => exact ⟨0, by omega, rfl, PathTo.zero _ _, HB2.out⟩
 case round =>
  clear HB1 HB2
  obtain ⟨c, hc, rfl, hPT, hB⟩ := hrel
  obtain ⟨wo, rfl⟩ : ∃ wo : World, wo = wr := ⟨_, rfl⟩
  have y5 := hB.size; (try simp only [zs] at y5)
  by_cases hlt : c < m
  ·obtain ⟨v, hv⟩ : ∃ z, p[c]? = some z := ⟨_, List.getElem?_eq_getElem (by rw [HML.out]; exact hlt)⟩
   obtain ⟨a', ea, hab', hcell, zb1, zb2⟩ := (HP.out.keep (.of_below hB)).at hv
   injection ea with ea
   subst ea
   have HV := Lib.hid hv
   have HZB : Hid (-9223372036854775808 ≤ v ∧ v ≤ 9223372036854775807) := ⟨zb1, zb2⟩
   have k5 : (0 : Int) ≤ (c : Int) := by omega
   have k6 : (c : Int) < (m : Int) := by omega
   have k7 : (c : Int) ≤ (cP : Int) := by omega
   clear hv
   go_wp2_with fail
   refine (containsV_any _ v _ (p.take c) ((HP.out.keep (.of_below hB)).take hc)).mono ?_
   rintro e w3 ⟨⟨b, rfl, hb⟩, hb3⟩
   have y3 := hb3.size; (try simp only [zs] at y3)
   have HB3 : Hid (Below w.heap.size w w3) := hB.trans (hb3.mono y5)
   cases b
   case true =>
    have HX : Hid (¬ R) := fun h => nodup_notin (HR.out.1 h).2.2.1 HV.out (hb.out.1 rfl)
    clear hb
    go_wp2_with fail
    go_ret
    exact ⟨Tells.no HX.out, HB3.out⟩
   have HNI : Hid (v ∉ p.take c) := fun h => by have := hb.out.2 h; cases this
   clear hb hcell
   by_cases hc0 : c = 0
   ·subst hc0
    have HNX : Hid (PathTo es p (0 + 1)) := hPT.out.next HV.out HNI.out (fun j u e => absurd e (by omega))
    have d3 : decide ((0 : Int) < 0) = false := rfl
    go_wp2_with fail
    go_roundw
    case rel => exact ⟨1, by omega, by first | rfl | go_num, HNX, HB3.out⟩
    case measure => simp only [intOf]; omega
   ·obtain ⟨r, hr⟩ : ∃ r, c = r + 1 := ⟨c - 1, by omega⟩
    obtain ⟨u, hu⟩ : ∃ z, p[r]? = some z := ⟨_, List.getElem?_eq_getElem (by rw [HML.out]; omega)⟩
    obtain ⟨a', ea, hab', hcu, ub1, ub2⟩ := (HP.out.keep (.of_below HB3.out)).at hu
    injection ea with ea
    subst ea
    have HU := Lib.hid hu
    have HRC := Lib.hid hr
    obtain ⟨x, hrun, hx⟩ := (HM.out.below HB3.out hbM).look keyed_arr Tryz.underlying255 (key_arr ⟨ub1, ub2⟩ HZB.out)
    have HX : Hid (x = true ↔ (u, v) ∈ es) := hx.trans ⟨fun ⟨e, he, hk⟩ => by
     rw [List.take_length] at he
     obtain ⟨q1, q2⟩ := keyL_inj ⟨ub1, ub2⟩ HZB.out (HE.out e he).1 (HE.out e he).2 hk
     rw [q1, q2]
     exact he, fun h => ⟨(u, v), by rw [List.take_length]; exact h, rfl⟩⟩
    have k8 : IntKind.i64.wrap ((c : Int) - 1) = (r : Int) := by rw [IntKind.wrap_i64]; omega
    have k9 : (0 : Int) ≤ (r : Int) := by omega
    have k10 : (r : Int) < (m : Int) := by omega
    have d3 : decide ((0 : Int) < (c : Int)) = true := decide_eq_true (by omega)
    have d3' : decide (0 < c) = true := decide_eq_true (by omega)
    have d3'' : 0 < c := by omega
    clear hu hr hc0 hx
    cases x
    case false =>
     have HY : Hid (¬ R) := fun h => by
      have := HX.out.2 ((HR.out.1 h).2.2.2 r u v HU.out (by rw [← HRC.out]; exact HV.out))
      cases this
     go_wp2_with fail
     go_ret
     exact ⟨Tells.no HY.out, HB3.out⟩
    have HNX : Hid (PathTo es p (c + 1)) := hPT.out.next HV.out HNI.out (fun j u' e hu' => by
     obtain rfl : j = r := by have := HRC.out; omega
     rw [HU.out] at hu'
     injection hu' with hu'
     rw [← hu']
     exact HX.out.1 rfl)
    go_wp2_with fail
    go_roundw
    case rel => exact ⟨c + 1, by omega, by go_num, HNX, HB3.out⟩
    case measure => simp only [intOf]; omega
  ·obtain rfl : c = m := by omega
   have HX : Hid R := HR.out.2 (by
    have h9 := hPT.out
    rw [← HML.out] at h9
    exact ⟨⟨a0, HA0.out, HS0.out⟩, ⟨aL, by rw [HML.out, show c - 1 = q by have := HQ.out; omega]; exact HAL.out, HT0.out⟩, h9.all⟩)
   go_wp2_with fail
   go_ret
   exact ⟨Tells.yes HX.out, hB⟩
end Go.Proofs.YtbdcjhoedhhabaaGreat

