/- For every input the law returns true: the law's walk, and the statement out of it. -/
import Derived.Test.YtdambnieminnfaaGreatRows
import Derived.Test.YtdambnieminnfaaGreatV3
import Derived.Test.YtdambnieminnfaaGreatV20
import Derived.Test.YtdambnieminnfaaGreatV31
import Derived.Test.YtdambnieminnfaaGreatV32
import Derived.Test.YtdambnieminnfaaGreatV46
import Derived.Test.YtdambnieminnfaaGreatV47
set_option linter.unusedSimpArgs false
set_option linter.unusedVariables false

/- RefinementDecides: the law's walk. -/
namespace Go.Proofs.YtdambnieminnfaaGreat
open Go.RowKit
attribute [local go_sem ↓] Go.wp_at_zero Go.wp_at_succ
attribute [local go_sem] beq_self_eq_true

/-- What Decide's proof is, its sizes. -/
theorem Few40.prf {L1 L2 : List (List Int)} (h1 : Few40 L1) (h2 : Few40 L2) {b : Bool} {m Kn : Nat} {F G : Nat → Nat → Rat} (h : DecSays L1 L2 0 b m F Kn G) : PRF L1 L2 b m (fun _ => wid L2) F Kn (fun _ => L1.length) G ∧ m ≤ 5 ∧ Kn ≤ 5 := by
 obtain ⟨hp, hm, hk⟩ := h.2.2.2.2.1 rfl
 have a := h1.wd
 have c := h2.wd
 refine ⟨hp, ?_, ?_⟩
 ·rcases hp with h | h
  ·have := hm h.1; omega
  ·have := h.2.1; omega
 ·rcases hp with h | h
  ·have := h.2.1; omega
  ·have := hk h.1; omega
theorem Few40.kw {L1 L2 : List (List Int)} (h1 : Few40 L1) (h2 : Few40 L2) : 188 * neq L1 L2 + 41 ≤ 5681 := by
 have a := h1.wd
 have c := h2.wd
 have d : L1.length * wid L2 ≤ 5 * 5 := Nat.mul_le_mul h1.1 c
 unfold neq
 omega
theorem Mat.more {w : World} {X : Nat → Prop} {v : Value} {m k k' : Nat} {N : Nat → Nat} {F : Nat → Nat → Rat} (h : Mat k w X v m N F) (hk : k ≤ k') : Mat k' w X v m N F := by
 obtain ⟨us, A, cap, h1, h2, h3, h4, h5, h6⟩ := h
 refine ⟨us, A, cap, h1, h2, h3, h4, h5, fun i u hu => ?_⟩
 obtain ⟨rs, A', cap', g1, g2, g3, g4, g5, g6⟩ := h6 i u hu
 exact ⟨rs, A', cap', g1, g2, g3, g4, g5, fun j r hr => (g6 j r hr).mono hk⟩

set_option maxRecDepth 100000 in
set_option maxHeartbeats 16000000 in
theorem decides_walk (w : World) (v1 v2 : Value) (L1 L2 : List (List Int)) (h1 : IMat w v1 L1) (h2 : IMat w v2 L2) :
 Calls Tryz.prog 4 #[.agg #[v1], .agg #[v2]] w fun e w' => e = .returned (.bool true) ∧ Below w.heap.size w w' := by
 have H1 := Lib.hid h1
 have H2 := Lib.hid h2
 obtain ⟨A1, c1, rfl, -, -, -⟩ := h1.op
 obtain ⟨A2, c2, rfl, -, -, -⟩ := h2.op
 obtain ⟨r1, hr1⟩ : ∃ r, L1.length = r := ⟨_, rfl⟩
 obtain ⟨r2, hr2⟩ : ∃ r, L2.length = r := ⟨_, rfl⟩
 have HR1 := Lib.hid hr1
 rw [hr1] at H1
 rw [hr2] at H2
 rw [hr1, hr2]
 have B1 := made1 w #[.slice A1 r1 c1] 24
 have B2 := made2 w (.cells #[.slice A1 r1 c1] 24) #[.slice A2 r2 c2] 24
 clear h1 h2 hr1 hr2
 go_enter Tryz.func4, Tryz.ntmps4
 go_wp2_with fail
 refine (known40_any _).mono ?_
 rintro e w1 ⟨rfl, hb1⟩
 obtain ⟨z1, z2⟩ := sz2 hb1
 have B11 : Loc w1 w.heap.size _ _ := B1.to
 have B21 : Loc w1 (w.heap.size + 1) _ _ := B2.to
 have HB1 : Hid (Below w.heap.size w w1) := bel
 clear B1 B2 hb1
 obtain ⟨e1, f1, -⟩ := B11.all (w' := w1)
 go_wp2_with fail
 refine (few40_any _ _ L1 (H1.out.keep (.of_below HB1.out))).mono ?_
 rintro e w2 ⟨⟨bf, rfl, hf⟩, hb2⟩
 have y2 := hb2.size; (try simp only [zs] at y2)
 have HB2 : Hid (Below w.heap.size w w2) := HB1.out.trans (hb2.mono (by omega))
 cases bf
 case false =>
  clear e1 f1 hf
  go_wp2_with fail
  go_ret
  exact ⟨rfl, HB2.out⟩
 have HF1 : Hid (Few40 L1) := hf.out.1 rfl
 have B22 : Loc w2 (w.heap.size + 1) _ _ := B21.to
 clear hf e1 f1
 obtain ⟨e1, f1, -⟩ := B22.all (w' := w2)
 go_wp2_with fail
 refine (few40_any _ _ L2 (H2.out.keep (.of_below HB2.out))).mono ?_
 rintro e w3 ⟨⟨bf, rfl, hf⟩, hb3⟩
 have y3 := hb3.size; (try simp only [zs] at y3)
 have HB3 : Hid (Below w.heap.size w w3) := HB2.out.trans (hb3.mono (by omega))
 cases bf
 case false =>
  clear e1 f1 hf
  go_wp2_with fail
  go_ret
  exact ⟨rfl, HB3.out⟩
 have HF2 : Hid (Few40 L2) := hf.out.1 rfl
 have C1 : Loc w3 w.heap.size _ _ := B11.to
 have C2 : Loc w3 (w.heap.size + 1) _ _ := B22.to
 clear hf e1 f1 B11 B21 B22
 obtain ⟨e1, f1, -⟩ := C1.all (w' := w3)
 obtain ⟨e2, f2, -⟩ := C2.all (w' := w3)
 go_wp2_with fail
 refine (decide_any _ _ _ L1 L2 (H1.out.keep (.of_below HB3.out)) (H2.out.keep (.of_below HB3.out)) (HF1.out.sz HF2.out)).mono ?_
 rintro e w4 ⟨b, vW, vG, m, K, F, G, code, rfl, hmm, hd, hb4⟩
 have y4 := hb4.size; (try simp only [zs] at y4)
 have HB4 : Hid (Below w.heap.size w w4) := HB3.out.trans (hb4.mono (by omega))
 have HM1 := Lib.hid hmm.out.1
 have HM2 := Lib.hid hmm.out.2
 obtain ⟨AW, cW, rfl, -, -, -⟩ := hmm.out.1.op
 obtain ⟨AG, cG, rfl, -, -, -⟩ := hmm.out.2.op
 have D1 : Loc w4 w.heap.size _ _ := C1.to
 have D2 : Loc w4 (w.heap.size + 1) _ _ := C2.to
 have T4 := made1 w4 #[.bool b, .slice AW m cW, .slice AG K cG] 27
 have HB4a : Hid (Below w.heap.size w (w4.alloc (.cells #[.bool b, .slice AW m cW, .slice AG K cG] 27))) := HB4.out.trans ((below1 w4 _).mono (by omega))
 have HD := Lib.hid hd.out
 clear e1 f1 e2 f2 hmm hd hb4 C1 C2
 obtain ⟨e1, f1, -⟩ := D1.all (w' := w4.alloc (.cells #[.bool b, .slice AW m cW, .slice AG K cG] 27))
 obtain ⟨e2, f2, -⟩ := D2.all (w' := w4.alloc (.cells #[.bool b, .slice AW m cW, .slice AG K cG] 27))
 go_wp2_with fail
 refine (decided_any _ _ _ L1 L2 (H1.out.keep (.of_below HB4a.out)) (H2.out.keep (.of_below HB4a.out))).mono ?_
 rintro e w5 ⟨code2, rfl, hc2, hb5⟩
 obtain rfl := hc2.out.uniq HD.out.dcode
 have y5 := hb5.size; (try simp only [zs] at y5)
 have HB5 : Hid (Below w.heap.size w w5) := HB4a.out.trans (hb5.mono (by simp only [World.size_alloc]; omega))
 have HB45 : Hid (Below w4.heap.size w4 w5) := (below1 w4 _).trans (hb5.mono (by simp only [World.size_alloc]; omega))
 have E1 : Loc w5 w.heap.size _ _ := D1.to
 have E2 : Loc w5 (w.heap.size + 1) _ _ := D2.to
 have T5 : Loc w5 w4.heap.size _ _ := T4.to
 clear e1 f1 e2 f2 D1 D2 T4 hc2 hb5
 obtain ⟨e1, f1, -⟩ := E1.all (w' := w5)
 obtain ⟨e2, f2, -⟩ := E2.all (w' := w5)
 obtain ⟨e3, f3, -⟩ := T5.all (w' := w5)
 by_cases h0 : code2 = 0
 case neg =>
  obtain ⟨rfl, rfl, rfl⟩ := HD.out.2.2.2.2.2 h0
  have d1 : (code2 != 0) = true := bne_iff_ne.2 h0
  have d2 : (code2 == code2) = true := beq_self_eq_true _
  clear h0
  go_wp2_with fail
  go_ret
  exact ⟨rfl, HB5.out⟩
 subst h0
 obtain ⟨hp, hm5, hk5⟩ := HF1.out.prf HF2.out HD.out
 have HP := Lib.hid hp
 have HKW := Lib.hid (HF1.out.kw HF2.out)
 have HM1' : Hid (Mat 44 w5 (fun _ => False) (.slice AW m cW) m (fun _ => wid L2) F) := HM1.out.keep (.of_below HB45.out)
 have HM2' : Hid (Mat 5681 w5 (fun _ => False) (.slice AG K cG) K (fun _ => L1.length) G) := (HM2.out.keep (.of_below HB45.out)).more HKW.out
 have hw1 : wid L1 ≤ 5 := HF1.out.wd
 have hw2 : wid L2 ≤ 5 := HF2.out.wd
 have hl1 : L1.length ≤ 5 := HF1.out.1
 have HBB : Hid ((2 + 5681 + 1) * L1.length + 2 ≤ 28422) := by show _ ≤ _; omega
 have HBC : Hid ((28422 + 1) * wid L1 + 2 ≤ 900000 ∧ (28422 + 1) * wid L2 + 2 ≤ 900000) := ⟨by omega, by omega⟩
 have HNN : Hid (∀ i, i < m → (fun _ : Nat => wid L2) i ≤ 200) := fun _ _ => by show wid L2 ≤ 200; omega
 have k1 : m ≤ 200 := by omega
 have k2 : K ≤ 200 := by omega
 have k3 : wid L1 ≤ 200 := by omega
 have k4 : wid L2 ≤ 200 := by omega
 clear hp hw1 hw2 hl1
 go_wp2_with fail
 refine (proves_any _ _ _ _ _ b L1 L2 m K 44 5681 28422 (fun _ => wid L2) (fun _ => L1.length) F G (H1.out.keep (.of_below HB5.out)) (H2.out.keep (.of_below HB5.out)) HM1'.out HM2'.out k1 HNN.out k2 k3 k4 (by decide) (by decide) (by decide) (by decide) HBB.out HBC.out.1 HBC.out.2).mono ?_
 rintro e w6 ⟨he, hb6⟩
 have he := he.eq (b := true) ⟨fun _ => HP.out, fun _ => rfl⟩
 subst he
 have y6 := hb6.size; (try simp only [zs] at y6)
 have HB6 : Hid (Below w.heap.size w w6) := HB5.out.trans (hb6.mono (by omega))
 have HB56 := Lib.hid hb6
 have E1' : Loc w6 w.heap.size _ _ := E1.to
 have E2' : Loc w6 (w.heap.size + 1) _ _ := E2.to
 have T6 : Loc w6 w4.heap.size _ _ := T5.to
 clear e1 f1 e2 f2 e3 f3 E1 E2 T5 hb6
 obtain ⟨e1, f1, -⟩ := E1'.all (w' := w6)
 obtain ⟨e2, f2, -⟩ := E2'.all (w' := w6)
 obtain ⟨e3, f3, -⟩ := T6.all (w' := w6)
 go_wp2_with fail
 refine (check40_any _ _ _ _ _ b L1 L2 m K 44 5681 28422 (fun _ => wid L2) (fun _ => L1.length) F G (H1.out.keep (.of_below HB6.out)) (H2.out.keep (.of_below HB6.out)) (HM1'.out.keep (.of_below HB56.out)) (HM2'.out.keep (.of_below HB56.out)) k1 HNN.out k2 k3 k4 (by decide) (by decide) (by decide) (by decide) HBB.out (by decide)).mono ?_
 rintro e w7 ⟨he, hb7⟩
 have he := he.eq (b := true) ⟨fun _ => HP.out, fun _ => rfl⟩
 subst he
 have y7 := hb7.size; (try simp only [zs] at y7)
 have HB7 : Hid (Below w.heap.size w w7) := HB6.out.trans (hb7.mono (by omega))
 go_wp2_with fail
 go_ret
 exact ⟨rfl, HB7.out⟩
end Go.Proofs.YtdambnieminnfaaGreat

/- The statement 'RefinementDecides' out of its walk. The frame is the guide's own (proof-skeleton), printed by lawgen.py. -/
namespace Go.Proofs.YtdambnieminnfaaGreat.refinementDecides
open Go.ChangeShapes Go.WideShapes Go.ChangeAt Go.RowKit Go.Proofs.YtdambnieminnfaaGreat
open Go.ChangeMaps (open_string shut_string)
set_option linter.unusedVariables false

set_option maxRecDepth 100000 in
theorem lifted (os : Os) (started : os.Started) (H : Type) (enc : TypeId × Value → H) :
 ReturnsInHanded {} Tryz.checked os 4 .any (Rows.refinementDecidesSpec.pre6 enc Tryz.prog Tryz.f4 Rows.refinementDecidesRow.domain false) (Rows.refinementDecidesSpec.post enc Tryz.prog Tryz.f4 false true false false) := by
 refine returnsInHanded_of_change (C := Tryz.checked) own started (by kernel_rfl) Tryz.func4
  (ChangeSpec.witness6 (enc := enc) (C := Tryz.checked) false ⟨#[], #[.agg #[.slice none 0 0], .agg #[.slice none 0 0]], []⟩ 8 (by kernel_rfl) (by kernel_rfl) (by kernel_rfl) (by kernel_rfl)) ?_
 intro W base args ds gs before hval0 hW hcnd _
 have hval : ∀ (j : Nat) t v, Tryz.f4.params[j]? = some t → args[j]? = some v → Value.okWide Tryz.prog W .any base t v := hval0
 have hW' := hW
 obtain ⟨p, q, hA0, hV, rfl, hfz, hnd⟩ := hW
 have hA : DataW.TrodAll enc Tryz.prog W 0 (fun _ => true) true Tryz.f4.params.toList args.toList ds p := hA0
 rw [Tryz.params4] at hA hval
 obtain ⟨v0, vs0, d0, ds0, p0, q0, hargs, rfl, rfl, h0, r0⟩ := trodAll_cons hA
 obtain ⟨v1, vs1, d1, ds1, p1, q1, rfl, rfl, rfl, h1, r1⟩ := trodAll_cons r0
 obtain ⟨rfl, rfl, rfl⟩ := trodAll_nil r1
 obtain rfl : args = #[v0, v1] := by cases args; simp_all
 obtain ⟨rfl, rfl⟩ := trodVars_none hV
 have lt0 : ∀ x ∈ p0, x.block < W.heap.size := by obtain ⟨m, hm⟩ := h0; exact DataW.trod_lt m _ _ _ hm
 have k0 := fun (W' : World) (bel : Below W.heap.size W W') => Below.trod laidOut (by kernel_rfl) (of_decide_eq_true (by kernel_rfl)) h0 bel lt0
 obtain ⟨va0, L0, e0, ha0⟩ := open_Channel (hval 0 24 v0 rfl rfl) h0
 have lt1 : ∀ x ∈ p1, x.block < W.heap.size := by obtain ⟨m, hm⟩ := h1; exact DataW.trod_lt m _ _ _ hm
 have k1 := fun (W' : World) (bel : Below W.heap.size W W') => Below.trod laidOut (by kernel_rfl) (of_decide_eq_true (by kernel_rfl)) h1 bel lt1
 obtain ⟨va1, L1, e1, ha1⟩ := open_Channel (hval 1 24 v1 rfl rfl) h1
 subst e0
 subst e1
 refine (decides_walk _ _ _ _ _ ha0 ha1).mono fun e W' ⟨he, bel⟩ => ?_
 subst he
 exact ⟨_, rfl, _, _, _, [], _, [], hW', trodAll_mk1 (shut_bool Tryz.underlying4 _), (trodAll_cons_mk (k0 _ bel) (trodAll_cons_mk (k1 _ bel) trodAll_mk0)), rfl, bel.frame _, fun h => by cases h⟩

theorem over : Rows.refinementDecidesRow.holds Tryz.pinned (OpenSpec.ofChange Rows.refinementDecidesSpec) :=
 OpenClaim.holds_of_wide 4 Tryz.f4 rfl rfl rfl rfl rfl rfl rfl ⟨rfl, rfl, rfl, rfl, rfl⟩ rfl rfl rfl rfl rfl (by kernel_rfl) Tryz.func4 (by kernel_rfl)
  (of_decide_eq_true (by kernel_rfl)) (by unfold Func.isWrapper; first | (rw [if_pos (by decide +kernel)]; kernel_rfl) | (rw [if_neg (by decide +kernel)]; exact ⟨rfl, rfl⟩))
  (fun os started H enc _ => lifted os started H enc)

/-- The statement: for every input the law returns true; each argument reads behind the call as it read before. -/
theorem proved : Rows.RefinementDecidesSaid := over
end Go.Proofs.YtdambnieminnfaaGreat.refinementDecides

