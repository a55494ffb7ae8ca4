/- For every input the law returns true: the law's walk, and the statement out of it. -/
import Derived.Test.YtdambnieminnfaaGreatRows
import Derived.Test.YtdambnieminnfaaGreatZ3
import Derived.Test.YtdambnieminnfaaGreatZ20
import Derived.Test.YtdambnieminnfaaGreatZ25
import Derived.Test.YtdambnieminnfaaGreatZ39
import Derived.Test.YtdambnieminnfaaGreatZ40
import Derived.Test.YtdambnieminnfaaGreatZ46
set_option linter.unusedSimpArgs false
set_option linter.unusedVariables false

/- RefinementEquivalent: the law's walk. -/
namespace Go.Proofs.YtdambnieminnfaaGreat
open Go.RowKit
attribute [local go_sem ↓] Go.wp_at_zero Go.wp_at_succ
attribute [local go_sem] beq_self_eq_true

/-- Decide holds exactly if there is a witness. -/
theorem dec_iff {L1 L2 : List (List Int)} {b : Bool} {m Kn : Nat} {F G : Nat → Nat → Rat} (h : DecSays L1 L2 0 b m F Kn G) (v1 : VC L1) (v2 : VC L2) (hl : L1.length = L2.length) : b = true ↔ ∃ W, Wit L1.length (wid L1) (wid L2) (ce L1) ((tot L1 : Int) : Rat) (ce L2) ((tot L2 : Int) : Rat) W := by
 refine ⟨fun hb => ?_, fun ⟨W, hW⟩ => dec_true h (wit_in v1 v2 hl hW)⟩
 rcases (h.2.2.2.2.1 rfl).1 with h | h
 ·exact ⟨_, wit_out h.2.2⟩
 ·rw [hb] at h; cases h.1
theorem dec_ok {L1 L2 : List (List Int)} {b : Bool} {m Kn : Nat} {F G : Nat → Nat → Rat} (h : DecSays L1 L2 0 b m F Kn G) : VC L1 ∧ VC L2 ∧ L1.length = L2.length := by
 rcases (h.2.2.2.2.1 rfl).1 with h | h
 ·exact ⟨h.2.2.1, h.2.2.2.1, h.2.2.2.2.1⟩
 ·exact ⟨h.2.2.1, h.2.2.2.1, h.2.2.2.2.1⟩
/-- What Equivalent tells, and the law asks. -/
theorem eqv_law {L1 L2 : List (List Int)} {is : Bool} {code d1 d2 : Int} (h : EqSays L1 L2 is code) (h1 : DCode L1 L2 d1) (h2 : DCode L2 L1 d2) :
 (d1 ≠ 0 → is = false ∧ code = d1) ∧ (d1 = 0 → d2 ≠ 0 → is = false ∧ code = d2) ∧ (d1 = 0 → d2 = 0 → code = 0 ∧ VC L1 ∧ VC L2 ∧ ∀ R1 R2 A1 A2 : List (List Int), GI L1.length (ce L1) (wid L1) A1 → GI L2.length (ce L2) (wid L2) A2 → R1.Perm (redL A1) → R2.Perm (redL A2) → R1.Pairwise geL → R2.Pairwise geL → (is = true ↔ R1 = R2)) := by
 obtain ⟨c1, b1, m1, K1, F1, G1, hd1, hn, h0⟩ := h
 obtain rfl := h1.uniq hd1.dcode
 refine ⟨fun hne => hn hne, fun he hne => ?_, fun he he2 => ?_⟩
 ·obtain ⟨c2, b2, m2, K2, F2, G2, hd2, hn2, -⟩ := h0 he
  obtain rfl := h2.uniq hd2.dcode
  exact hn2 hne
 ·obtain ⟨c2, b2, m2, K2, F2, G2, hd2, -, h3⟩ := h0 he
  obtain rfl := h2.uniq hd2.dcode
  obtain ⟨hcode, his⟩ := h3 he2
  subst he
  subst he2
  obtain ⟨v1, v2, hl⟩ := dec_ok hd1
  refine ⟨hcode, v1, v2, fun R1 R2 A1 A2 g1 g2 p1 p2 s1 s2 => ?_⟩
  have i1 := dec_iff hd1 v1 v2 hl
  have i2 := dec_iff hd2 v2 v1 hl.symm
  have hC2 := v2.chan
  rw [← hl] at g2 hC2 i2
  have key := eqv_iff (le := geL) (P := tot L1) (Q := tot L2) geL_anti g1 g2 v1.chan hC2 rfl rfl p1 p2 s1 s2
  rw [key, his]
  show (b1 && b2) = true ↔ (∃ W, Wit L1.length (wid L1) (wid L2) (ce L1) ((tot L1 : Int) : Rat) (ce L2) ((tot L2 : Int) : Rat) W) ∧ ∃ V, Wit L1.length (wid L2) (wid L1) (ce L2) ((tot L2 : Int) : Rat) (ce L1) ((tot L1 : Int) : Rat) V
  rw [← i1, ← i2, Bool.and_eq_true]

set_option maxRecDepth 100000 in
set_option maxHeartbeats 16000000 in
theorem equivalent_walk (w : World) (v1 v2 : Value) (L1 L2 : List (List Int)) (h1 : IMat w v1 L1) (h2 : IMat w v2 L2) :
 Calls Tryz.prog 12 #[.agg #[v1], .agg #[v2]] w fun e w' => e = .returned (.bool true) ∧ Below w.heap.size w w' := by
 have H1 := Lib.hid h1
 have H2 := Lib.hid h2
 obtain ⟨A1, c1, rfl, -, -, -⟩ := h1.op
 obtain ⟨A2, c2, rfl, -, -, -⟩ := h2.op
 obtain ⟨r1, hr1⟩ : ∃ r, L1.length = r := ⟨_, rfl⟩
 obtain ⟨r2, hr2⟩ : ∃ r, L2.length = r := ⟨_, rfl⟩
 rw [hr1] at H1
 rw [hr2] at H2
 rw [hr1, hr2]
 have B1 := made1 w #[.slice A1 r1 c1] 24
 have B2 := made2 w (.cells #[.slice A1 r1 c1] 24) #[.slice A2 r2 c2] 24
 clear h1 h2 hr1 hr2
 go_enter Tryz.func12, Tryz.ntmps12
 go_wp2_with fail
 refine (known40_any _).mono ?_
 rintro e w1 ⟨rfl, hb1⟩
 obtain ⟨z1, z2⟩ := sz2 hb1
 have B11 : Loc w1 w.heap.size _ _ := B1.to
 have B21 : Loc w1 (w.heap.size + 1) _ _ := B2.to
 have HB1 : Hid (Below w.heap.size w w1) := bel
 clear B1 B2 hb1
 obtain ⟨e1, f1, -⟩ := B11.all (w' := w1)
 go_wp2_with fail
 refine (few40_any _ _ L1 (H1.out.keep (.of_below HB1.out))).mono ?_
 rintro e w2 ⟨⟨bf, rfl, hf⟩, hb2⟩
 have y2 := hb2.size; (try simp only [zs] at y2)
 have HB2 : Hid (Below w.heap.size w w2) := HB1.out.trans (hb2.mono (by omega))
 cases bf
 case false =>
  clear e1 f1 hf
  go_wp2_with fail
  go_ret
  exact ⟨rfl, HB2.out⟩
 have HF1 : Hid (Few40 L1) := hf.out.1 rfl
 have B22 : Loc w2 (w.heap.size + 1) _ _ := B21.to
 clear hf e1 f1
 obtain ⟨e1, f1, -⟩ := B22.all (w' := w2)
 go_wp2_with fail
 refine (few40_any _ _ L2 (H2.out.keep (.of_below HB2.out))).mono ?_
 rintro e w3 ⟨⟨bf, rfl, hf⟩, hb3⟩
 have y3 := hb3.size; (try simp only [zs] at y3)
 have HB3 : Hid (Below w.heap.size w w3) := HB2.out.trans (hb3.mono (by omega))
 cases bf
 case false =>
  clear e1 f1 hf
  go_wp2_with fail
  go_ret
  exact ⟨rfl, HB3.out⟩
 have HF2 : Hid (Few40 L2) := hf.out.1 rfl
 have C1 : Loc w3 w.heap.size _ _ := B11.to
 have C2 : Loc w3 (w.heap.size + 1) _ _ := B22.to
 clear hf e1 f1 B11 B21 B22
 obtain ⟨e1, f1, -⟩ := C1.all (w' := w3)
 obtain ⟨e2, f2, -⟩ := C2.all (w' := w3)
 go_wp2_with fail
 refine (equivalent_any _ _ _ L1 L2 (H1.out.keep (.of_below HB3.out)) (H2.out.keep (.of_below HB3.out)) (HF1.out.sz HF2.out) (HF2.out.sz HF1.out)).mono ?_
 rintro e w4 ⟨is, code, rfl, heq, hb4⟩
 have y4 := hb4.size; (try simp only [zs] at y4)
 have HB4 : Hid (Below w.heap.size w w4) := HB3.out.trans (hb4.mono (by omega))
 have HEQ := Lib.hid heq.out
 have D1 : Loc w4 w.heap.size _ _ := C1.to
 have D2 : Loc w4 (w.heap.size + 1) _ _ := C2.to
 clear e1 f1 e2 f2 heq hb4 C1 C2
 obtain ⟨e1, f1, -⟩ := D1.all (w' := w4)
 obtain ⟨e2, f2, -⟩ := D2.all (w' := w4)
 go_wp2_with fail
 refine (decided_any _ _ _ L1 L2 (H1.out.keep (.of_below HB4.out)) (H2.out.keep (.of_below HB4.out))).mono ?_
 rintro e w5 ⟨q1, rfl, hc1, hb5⟩
 have y5 := hb5.size; (try simp only [zs] at y5)
 have HB5 : Hid (Below w.heap.size w w5) := HB4.out.trans (hb5.mono (by omega))
 have HC1 := Lib.hid hc1.out
 have E1 : Loc w5 w.heap.size _ _ := D1.to
 have E2 : Loc w5 (w.heap.size + 1) _ _ := D2.to
 clear e1 f1 e2 f2 hc1 hb5 D1 D2
 obtain ⟨e1, f1, -⟩ := E1.all (w' := w5)
 obtain ⟨e2, f2, -⟩ := E2.all (w' := w5)
 by_cases hq1 : q1 = 0
 case neg =>
  -- the second code is told by the first's facts alone
  have hx : is = false ∧ code = q1 := by
   obtain ⟨c1', b1', m1, K1, F1, G1, hd1, hn, -⟩ := HEQ.out
   obtain rfl := HC1.out.uniq hd1.dcode
   exact hn hq1
  obtain ⟨rfl, rfl⟩ := hx
  have d1 : (code != 0) = true := bne_iff_ne.2 hq1
  have d2 : (code == code) = true := beq_self_eq_true _
  clear hq1
  go_wp2_with fail
  go_ret
  exact ⟨rfl, HB5.out⟩
 subst hq1
 go_wp2_with fail
 refine (decided_any _ _ _ L2 L1 (H2.out.keep (.of_below HB5.out)) (H1.out.keep (.of_below HB5.out))).mono ?_
 rintro e w6 ⟨q2, rfl, hc2, hb6⟩
 have y6 := hb6.size; (try simp only [zs] at y6)
 have HB6 : Hid (Below w.heap.size w w6) := HB5.out.trans (hb6.mono (by omega))
 have hlaw := eqv_law HEQ.out HC1.out hc2.out
 have F1 : Loc w6 w.heap.size _ _ := E1.to
 have F2 : Loc w6 (w.heap.size + 1) _ _ := E2.to
 clear e1 f1 e2 f2 hc2 hb6 E1 E2
 by_cases hq2 : q2 = 0
 case neg =>
  obtain ⟨rfl, rfl⟩ := hlaw.2.1 rfl hq2
  have d1 : (code != 0) = true := bne_iff_ne.2 hq2
  have d2 : (code == code) = true := beq_self_eq_true _
  clear hq2 hlaw
  go_wp2_with fail
  go_ret
  exact ⟨rfl, HB6.out⟩
 subst hq2
 obtain ⟨rfl, hv1, hv2, hR⟩ := hlaw.2.2 rfl rfl
 have HV1 := Lib.hid hv1
 have HV2 := Lib.hid hv2
 have HR := Lib.hid hR
 clear hlaw hv1 hv2 hR
 go_upto_region 12 with fail
 refine wp_region_noPanic ?_
 refine wp_region_held_drew (S := (fun W => W.cell? ⟨w.heap.size, 0, none⟩ = some (.slice A1 r1 c1) ∧ W.cell? ⟨w.heap.size + 1, 0, none⟩ = some (.slice A2 r2 c2))) (by kernel_rfl) ?_ (fun hHeld => ?_)
 ·exact ⟨Loc.cell F1 0, Loc.cell F2 0⟩
 refine takeT 0 hHeld ?_
 (try simp only [Act.put, ly])
 refine takeT 1 hHeld ?_
 (try simp only [Act.put, ly])
 refine takeT 2 hHeld ?_
 (try simp only [Act.put, ly])
 refine takeT 3 hHeld ?_
 (try simp only [Act.put, ly])
 refine takeT 4 hHeld ?_
 (try simp only [Act.put, ly])
 refine takeT 6 hHeld ?_
 (try simp only [Act.put, ly])
 refine wpAnyH_ready (rs := [5]) (by kernel_rfl) (by simp) ?_
 refine AllReadyH.cons rfl (fun K hK => ?_) AllReadyH.nil
 go_simp
 refine (reduced_any _ _ L1 (H1.out.keep (.of_below (HB6.out.trans (Below.mono (bel : Below w6.heap.size w6 _) (by omega))))) HF1.out HV1.out).mono ?_
 rintro e u1 ⟨x1, R1, P1, rfl, hr1, hb7⟩
 have y7 := hb7.size; (try simp only [zs] at y7)
 have hB7 : Below w6.heap.size w6 u1 := bel
 obtain ⟨X1, e1, rfl, -, -, -⟩ := hr1.out.1.op
 have HX1 := Lib.hid hr1.out
 (try go_wp2_with fail)
 refine hK.out _ _ ?_ (fun hHeld => ?_)
 ·(try dsimp only)
  exact ⟨Loc.cell (F1.below hB7) 0, Loc.cell (F2.below hB7) 0⟩
 clear hK K
 (try simp only [Act.put, ly])
 have HB7 := Lib.hid hB7
 clear hr1 hB7
 refine wpAnyH_ready (rs := [7]) (by kernel_rfl) (by simp) ?_
 refine AllReadyH.cons rfl (fun K hK => ?_) AllReadyH.nil
 go_simp
 refine (reduced_any _ _ L2 (H2.out.keep (.of_below (HB6.out.trans (Below.mono (bel : Below w6.heap.size w6 _) (by omega))))) HF2.out HV2.out).mono ?_
 rintro e u2 ⟨x2, R2, P2, rfl, hr2, hb8⟩
 have y8 := hb8.size; (try simp only [zs] at y8)
 have hB8 : Below u1.heap.size u1 u2 := bel
 obtain ⟨X2, e2, rfl, -, -, -⟩ := hr2.out.1.op
 have HX2 := Lib.hid hr2.out
 have hB9 : Below w6.heap.size w6 u2 := HB7.out.trans (hB8.mono (by omega))
 (try go_wp2_with fail)
 refine hK.out _ _ ?_ (fun hHeld => ?_)
 ·(try dsimp only)
  exact ⟨Loc.cell (F1.below hB9) 0, Loc.cell (F2.below hB9) 0⟩
 clear hK K
 (try simp only [Act.put, ly])
 have HB8 := Lib.hid hB8
 have HB9 := Lib.hid hB9
 clear hr2 hB8 hB9
 have HM1 : Hid (IMat u2 (.slice X1 R1.length e1) R1) := HX1.out.1.keep (.of_below HB8.out)
 obtain ⟨n1, hn1⟩ : ∃ n, R1.length = n := ⟨_, rfl⟩
 obtain ⟨n2, hn2⟩ : ∃ n, R2.length = n := ⟨_, rfl⟩
 rw [hn1] at HM1 ⊢
 have HM2 : Hid (IMat u2 (.slice X2 n2 e2) R2) := by show IMat _ _ _; rw [← hn2]; exact HX2.out.1
 rw [hn2]
 clear hn1 hn2
 refine wpAnyH_ready (rs := [8]) (by kernel_rfl) (by simp) ?_
 refine AllReadyH.cons rfl (fun K hK => ?_) AllReadyH.nil
 go_simp
 refine (eqMatI_any _ _ _ R1 R2 (HM1.out.keep (.of_below (bel : Below u2.heap.size u2 _))) (HM2.out.keep (.of_below (bel : Below u2.heap.size u2 _)))).mono ?_
 rintro e u3 ⟨he, hb9⟩
 have he := he.eq (b := is) (HR.out R1 R2 P1 P2 HX1.out.2.1 HX2.out.2.1 HX1.out.2.2.1 HX2.out.2.2.1 HX1.out.2.2.2 HX2.out.2.2.2)
 subst he
 have y9 := hb9.size; (try simp only [zs] at y9)
 have hB10 : Below w6.heap.size w6 u3 := HB9.out.trans (Below.mono (bel : Below u2.heap.size u2 u3) (by omega))
 (try go_wp2_with fail)
 refine hK.out _ _ ?_ (fun hHeld => ?_)
 ·(try dsimp only)
  exact ⟨Loc.cell (F1.below hB10) 0, Loc.cell (F2.below hB10) 0⟩
 clear hK K
 (try simp only [Act.put, ly])
 have HBU : Hid (Below w.heap.size w u3) := HB6.out.trans (hB10.mono (by omega))
 have d3 : (is == is) = true := beq_self_eq_true _
 refine takeT 9 hHeld ?_
 (try simp only [Act.put, ly])
 refine takeT 10 hHeld ?_
 (try simp only [Act.put, ly])
 refine takeT 11 hHeld ?_
 (try simp only [Act.put, ly])
 refine wpAnyH_done (by kernel_rfl) ?_ _
 refine NoPanic.normal ?_
 clear hHeld
 go_wp2_with fail
 go_ret
 exact ⟨rfl, HBU.out⟩
end Go.Proofs.YtdambnieminnfaaGreat

/- The statement 'RefinementEquivalent' out of its walk. The frame is the guide's own (proof-skeleton), printed by lawgen.py. -/
namespace Go.Proofs.YtdambnieminnfaaGreat.refinementEquivalent
open Go.ChangeShapes Go.WideShapes Go.ChangeAt Go.RowKit Go.Proofs.YtdambnieminnfaaGreat
open Go.ChangeMaps (open_string shut_string)
set_option linter.unusedVariables false

set_option maxRecDepth 100000 in
theorem lifted (os : Os) (started : os.Started) (H : Type) (enc : TypeId × Value → H) :
 ReturnsInHanded {} Tryz.checked os 12 .any (Rows.refinementEquivalentSpec.pre6 enc Tryz.prog Tryz.f12 Rows.refinementEquivalentRow.domain false) (Rows.refinementEquivalentSpec.post enc Tryz.prog Tryz.f12 false true false false) := by
 refine returnsInHanded_of_change (C := Tryz.checked) own started (by kernel_rfl) Tryz.func12
  (ChangeSpec.witness6 (enc := enc) (C := Tryz.checked) false ⟨#[], #[.agg #[.slice none 0 0], .agg #[.slice none 0 0]], []⟩ 8 (by kernel_rfl) (by kernel_rfl) (by kernel_rfl) (by kernel_rfl)) ?_
 intro W base args ds gs before hval0 hW hcnd _
 have hval : ∀ (j : Nat) t v, Tryz.f12.params[j]? = some t → args[j]? = some v → Value.okWide Tryz.prog W .any base t v := hval0
 have hW' := hW
 obtain ⟨p, q, hA0, hV, rfl, hfz, hnd⟩ := hW
 have hA : DataW.TrodAll enc Tryz.prog W 0 (fun _ => true) true Tryz.f12.params.toList args.toList ds p := hA0
 rw [Tryz.params12] at hA hval
 obtain ⟨v0, vs0, d0, ds0, p0, q0, hargs, rfl, rfl, h0, r0⟩ := trodAll_cons hA
 obtain ⟨v1, vs1, d1, ds1, p1, q1, rfl, rfl, rfl, h1, r1⟩ := trodAll_cons r0
 obtain ⟨rfl, rfl, rfl⟩ := trodAll_nil r1
 obtain rfl : args = #[v0, v1] := by cases args; simp_all
 obtain ⟨rfl, rfl⟩ := trodVars_none hV
 have lt0 : ∀ x ∈ p0, x.block < W.heap.size := by obtain ⟨m, hm⟩ := h0; exact DataW.trod_lt m _ _ _ hm
 have k0 := fun (W' : World) (bel : Below W.heap.size W W') => Below.trod laidOut (by kernel_rfl) (of_decide_eq_true (by kernel_rfl)) h0 bel lt0
 obtain ⟨va0, L0, e0, ha0⟩ := open_Channel (hval 0 24 v0 rfl rfl) h0
 have lt1 : ∀ x ∈ p1, x.block < W.heap.size := by obtain ⟨m, hm⟩ := h1; exact DataW.trod_lt m _ _ _ hm
 have k1 := fun (W' : World) (bel : Below W.heap.size W W') => Below.trod laidOut (by kernel_rfl) (of_decide_eq_true (by kernel_rfl)) h1 bel lt1
 obtain ⟨va1, L1, e1, ha1⟩ := open_Channel (hval 1 24 v1 rfl rfl) h1
 subst e0
 subst e1
 refine (equivalent_walk _ _ _ _ _ ha0 ha1).mono fun e W' ⟨he, bel⟩ => ?_
 subst he
 exact ⟨_, rfl, _, _, _, [], _, [], hW', trodAll_mk1 (shut_bool Tryz.underlying4 _), (trodAll_cons_mk (k0 _ bel) (trodAll_cons_mk (k1 _ bel) trodAll_mk0)), rfl, bel.frame _, fun h => by cases h⟩

theorem over : Rows.refinementEquivalentRow.holds Tryz.pinned (OpenSpec.ofChange Rows.refinementEquivalentSpec) :=
 OpenClaim.holds_of_wide 12 Tryz.f12 rfl rfl rfl rfl rfl rfl rfl ⟨rfl, rfl, rfl, rfl, rfl⟩ rfl rfl rfl rfl rfl (by kernel_rfl) Tryz.func12 (by kernel_rfl)
  (of_decide_eq_true (by kernel_rfl)) (by unfold Func.isWrapper; first | (rw [if_pos (by decide +kernel)]; kernel_rfl) | (rw [if_neg (by decide +kernel)]; exact ⟨rfl, rfl⟩))
  (fun os started H enc _ => lifted os started H enc)

/-- The statement: for every input the law returns true; each argument reads behind the call as it read before. -/
theorem proved : Rows.RefinementEquivalentSaid := over
end Go.Proofs.YtdambnieminnfaaGreat.refinementEquivalent

