/- For every input the law returns true: the law's walk, and the statement out of it. -/
import Derived.Test.YtdambnieminnfaaGreatRows
import Derived.Test.YtdambnieminnfaaGreatV3
import Derived.Test.YtdambnieminnfaaGreatV20
import Derived.Test.YtdambnieminnfaaGreatV32
import Derived.Test.YtdambnieminnfaaGreatV46
import Derived.Test.YtdambnieminnfaaGreatV47
set_option linter.unusedSimpArgs false
set_option linter.unusedVariables false

/- RefinementExclusive: the law's walk. -/
namespace Go.Proofs.YtdambnieminnfaaGreat
open Go.RowKit
attribute [local go_sem ↓] Go.wp_at_zero Go.wp_at_succ
attribute [local go_sem] beq_self_eq_true

set_option maxRecDepth 100000 in
set_option maxHeartbeats 16000000 in
theorem exclusive_walk (w : World) (v1 v2 vw vg : Value) (b : Bool) (L1 L2 : List (List Int)) (M1 M2 : List (List RF)) (h1 : IMat w v1 L1) (h2 : IMat w v2 L2) (h3 : RMat w vw M1) (h4 : RMat w vg M2) :
 Calls Tryz.prog 6 #[.agg #[v1], .agg #[v2], .agg #[.bool b, vw, vg]] w fun e w' => e = .returned (.bool true) ∧ Below w.heap.size w w' := by
 have H1 := Lib.hid h1
 have H2 := Lib.hid h2
 have H3 := Lib.hid h3
 have H4 := Lib.hid h4
 obtain ⟨A1, c1, rfl, -, -, -⟩ := h1.op
 obtain ⟨A2, c2, rfl, -, -, -⟩ := h2.op
 obtain ⟨A3, c3, rfl, -, -, -⟩ := h3.op
 obtain ⟨A4, c4, rfl, -, -, -⟩ := h4.op
 obtain ⟨r1, hr1⟩ : ∃ r, L1.length = r := ⟨_, rfl⟩
 obtain ⟨r2, hr2⟩ : ∃ r, L2.length = r := ⟨_, rfl⟩
 obtain ⟨r3, hr3⟩ : ∃ r, M1.length = r := ⟨_, rfl⟩
 obtain ⟨r4, hr4⟩ : ∃ r, M2.length = r := ⟨_, rfl⟩
 have HR1 := Lib.hid hr1
 have HR3 := Lib.hid hr3
 have HR4 := Lib.hid hr4
 rw [hr1] at H1
 rw [hr2] at H2
 rw [hr3] at H3
 rw [hr4] at H4
 rw [hr1, hr2, hr3, hr4]
 have B1 := made1 w #[.slice A1 r1 c1] 24
 have B2 := made2 w (.cells #[.slice A1 r1 c1] 24) #[.slice A2 r2 c2] 24
 have B3 := made3 w (.cells #[.slice A1 r1 c1] 24) (.cells #[.slice A2 r2 c2] 24) #[.bool b, .slice A3 r3 c3, .slice A4 r4 c4] 27
 clear h1 h2 h3 h4 hr1 hr2 hr3 hr4
 go_enter Tryz.func6, Tryz.ntmps6
 go_wp2_with fail
 refine (known40_any _).mono ?_
 rintro e w1 ⟨rfl, hb1⟩
 have z1 := sz3 hb1
 have B11 : Loc w1 w.heap.size _ _ := B1.to
 have B21 : Loc w1 (w.heap.size + 1) _ _ := B2.to
 have B31 : Loc w1 (w.heap.size + 1 + 1) _ _ := B3.to
 have HB1 : Hid (Below w.heap.size w w1) := bel
 clear B1 B2 B3 hb1
 obtain ⟨e1, f1, -⟩ := B11.all (w' := w1)
 go_wp2_with fail
 refine (few40_any _ _ L1 (H1.out.keep (.of_below HB1.out))).mono ?_
 rintro e w2 ⟨⟨bf, rfl, hf⟩, hb2⟩
 have y2 := hb2.size; (try simp only [zs] at y2)
 have HB2 : Hid (Below w.heap.size w w2) := HB1.out.trans (hb2.mono (by omega))
 cases bf
 case false =>
  clear e1 f1 hf
  go_wp2_with fail
  go_ret
  exact ⟨rfl, HB2.out⟩
 have HF1 : Hid (Few40 L1) := hf.out.1 rfl
 have B22 : Loc w2 (w.heap.size + 1) _ _ := B21.to
 clear hf e1 f1
 obtain ⟨e1, f1, -⟩ := B22.all (w' := w2)
 go_wp2_with fail
 refine (few40_any _ _ L2 (H2.out.keep (.of_below HB2.out))).mono ?_
 rintro e w3 ⟨⟨bf, rfl, hf⟩, hb3⟩
 have y3 := hb3.size; (try simp only [zs] at y3)
 have HB3 : Hid (Below w.heap.size w w3) := HB2.out.trans (hb3.mono (by omega))
 cases bf
 case false =>
  clear e1 f1 hf
  go_wp2_with fail
  go_ret
  exact ⟨rfl, HB3.out⟩
 have HF2 : Hid (Few40 L2) := hf.out.1 rfl
 have B33 : Loc w3 (w.heap.size + 1 + 1) _ _ := B31.to
 clear hf e1 f1
 obtain ⟨e1, f1, -⟩ := B33.all (w' := w3)
 go_wp2_with fail
 refine (tidy_any _ _ M1 (H3.out.keep (.of_below HB3.out))).mono ?_
 rintro e w4 ⟨⟨bf, rfl, hf⟩, hb4⟩
 have y4 := hb4.size; (try simp only [zs] at y4)
 have HB4 : Hid (Below w.heap.size w w4) := HB3.out.trans (hb4.mono (by omega))
 cases bf
 case false =>
  clear e1 f1 hf
  go_wp2_with fail
  go_ret
  exact ⟨rfl, HB4.out⟩
 have HF3 : Hid (TI M1) := hf.out.1 rfl
 have B34 : Loc w4 (w.heap.size + 1 + 1) _ _ := B33.to
 clear hf e1 f1
 obtain ⟨e1, f1, -⟩ := B34.all (w' := w4)
 go_wp2_with fail
 refine (tidy_any _ _ M2 (H4.out.keep (.of_below HB4.out))).mono ?_
 rintro e w5 ⟨⟨bf, rfl, hf⟩, hb5⟩
 have y5 := hb5.size; (try simp only [zs] at y5)
 have HB5 : Hid (Below w.heap.size w w5) := HB4.out.trans (hb5.mono (by omega))
 cases bf
 case false =>
  clear e1 f1 hf
  go_wp2_with fail
  go_ret
  exact ⟨rfl, HB5.out⟩
 have HF4 : Hid (TI M2) := hf.out.1 rfl
 have C1 : Loc w5 w.heap.size _ _ := B11.to
 have C2 : Loc w5 (w.heap.size + 1) _ _ := B21.to
 have C3 : Loc w5 (w.heap.size + 1 + 1) _ _ := B34.to
 clear hf e1 f1 B11 B21 B31 B22 B33 B34
 obtain ⟨hm1, hm2, hm3⟩ := H3.out.tidy HF3.out
 obtain ⟨hg1, hg2, hg3⟩ := H4.out.tidy HF4.out
 rw [HR3.out] at hm1 hm2 hm3
 rw [HR4.out] at hg1 hg2 hg3
 have HM := Lib.hid hm1
 have HG := Lib.hid hg1
 have HMN := Lib.hid hm3
 have hmN : ∀ i, i < r3 → lens M1 i ≤ 200 := fun i hi => Nat.le_trans (HMN.out i hi) (by decide)
 have HMN2 := Lib.hid hmN
 have hw1 : wid L1 ≤ 5 := HF1.out.wd
 have hw2 : wid L2 ≤ 5 := HF2.out.wd
 have hl1 : L1.length ≤ 5 := HF1.out.1
 have HBB : Hid ((2 + 2 + 1) * L1.length + 2 ≤ 100) := by show _ ≤ _; omega
 obtain ⟨t1, ht1⟩ := tell (WIT L1 L2 r3 (lens M1) (qm M1))
 obtain ⟨t2, ht2⟩ := tell (GN L1 L2 r4 (lens M2) (qm M2))
 have HLS : Hid (∀ W, Below w5.heap.size w5 W → (W.cell? ⟨w.heap.size, 0, none⟩ = some (.slice A1 r1 c1) ∧ W.cell? ⟨w.heap.size + 1, 0, none⟩ = some (.slice A2 r2 c2)) ∧ W.cell? ⟨w.heap.size + 1 + 1, 1, none⟩ = some (.slice A3 r3 c3) ∧ W.cell? ⟨w.heap.size + 1 + 1, 2, none⟩ = some (.slice A4 r4 c4)) := fun W hW => ⟨⟨Loc.cell (C1.below hW) 0, Loc.cell (C2.below hW) 0⟩, Loc.cell (C3.below hW) 1, Loc.cell (C3.below hW) 2⟩
 have HBW : Hid (∀ W, Below w5.heap.size w5 W → Below w.heap.size w W) := fun W hW => HB5.out.trans (hW.mono (by omega))
 have k1 : r3 ≤ 200 := by omega
 have k2 : r4 ≤ 200 := by omega
 have k3 : wid L1 ≤ 200 := by omega
 have k4 : wid L2 ≤ 200 := by omega
 clear hm1 hm3 hg1 hg3 hmN hb2 hb3 hb4 hb5
 go_wp2_with fail
 refine wp_region_noPanic ?_
 refine wp_region_held_drew (S := (fun W => (W.cell? ⟨w.heap.size, 0, none⟩ = some (.slice A1 r1 c1) ∧ W.cell? ⟨w.heap.size + 1, 0, none⟩ = some (.slice A2 r2 c2)) ∧ W.cell? ⟨w.heap.size + 1 + 1, 1, none⟩ = some (.slice A3 r3 c3) ∧ W.cell? ⟨w.heap.size + 1 + 1, 2, none⟩ = some (.slice A4 r4 c4))) (by kernel_rfl) ?_ (fun hHeld => ?_)
 ·exact HLS.out _ bel
 refine takeT 0 hHeld ?_
 (try simp only [Act.put, ly])
 refine takeT 1 hHeld ?_
 (try simp only [Act.put, ly])
 refine takeT 2 hHeld ?_
 (try simp only [Act.put, ly])
 refine takeT 3 hHeld ?_
 (try simp only [Act.put, ly])
 refine takeT 5 hHeld ?_
 (try simp only [Act.put, ly])
 refine takeT 6 hHeld ?_
 (try simp only [Act.put, ly])
 refine takeT 7 hHeld ?_
 (try simp only [Act.put, ly])
 refine takeT 8 hHeld ?_
 (try simp only [Act.put, ly])
 refine wpAnyH_ready (rs := [4]) (by kernel_rfl) (by simp) ?_
 refine AllReadyH.cons rfl (fun K hK => ?_) AllReadyH.nil
 go_simp
 refine (checkWitness_any _ _ _ _ L1 L2 r3 2 (lens M1) (qm M1) (H1.out.keep (.of_below (HBW.out _ bel))) (H2.out.keep (.of_below (HBW.out _ bel))) (HM.out.keep (.of_below (HBW.out _ bel))) k1 HMN2.out (by decide) (by decide)).mono ?_
 rintro e u1 ⟨he, hb1⟩
 have he := he.eq ht1.out
 subst he
 have y6 := hb1.size; (try simp only [zs] at y6)
 (try go_wp2_with fail)
 refine hK.out _ _ ?_ (fun hHeld => ?_)
 ·(try dsimp only)
  exact HLS.out _ bel
 clear hK K
 (try simp only [Act.put, ly])
 refine wpAnyH_ready (rs := [9]) (by kernel_rfl) (by simp) ?_
 refine AllReadyH.cons rfl (fun K hK => ?_) AllReadyH.nil
 go_simp
 refine (checkGain_any _ _ _ _ L1 L2 r4 2 100 (lens M2) (qm M2) (H1.out.keep (.of_below (HBW.out _ bel))) (H2.out.keep (.of_below (HBW.out _ bel))) (HG.out.keep (.of_below (HBW.out _ bel))) k2 k3 k4 (by decide) HBB.out (by decide)).mono ?_
 rintro e u3 ⟨he, hb3⟩
 have he := he.eq ht2.out
 subst he
 have y8 := hb3.size; (try simp only [zs] at y8)
 have HBF : Hid (Below w5.heap.size w5 u3) := bel
 (try go_wp2_with fail)
 refine hK.out _ _ ?_ (fun hHeld => ?_)
 ·(try dsimp only)
  exact HLS.out _ bel
 clear hK K
 (try simp only [Act.put, ly])
 refine takeT 10 hHeld ?_
 (try simp only [Act.put, ly])
 refine takeT 11 hHeld ?_
 (try simp only [Act.put, ly])
 refine wpAnyH_done (by kernel_rfl) ?_ _
 refine NoPanic.normal ?_
 have HX : Hid (t1 = true → t2 = true → False) := fun h1 h2 => wit_gn (ht1.out.1 h1) (ht2.out.1 h2)
 have y9 := HBF.out.size
 have D1 : Loc u3 w.heap.size _ _ := C1.below HBF.out
 have D2 : Loc u3 (w.heap.size + 1) _ _ := C2.below HBF.out
 have KC : Hid (∀ (code : Int) (b : Bool) (m Kn : Nat) (F G : Nat → Nat → Rat), DecSays L1 L2 code b m F Kn G → (t1 = true → code = 0 ∧ b = true) ∧ (t2 = true → code = 0 ∧ b = false)) := fun code b m Kn F G h =>
  ⟨fun ht => HF1.out.dec_wit HF2.out h (ht1.out.1 ht), fun ht => HF1.out.dec_gn HF2.out h (ht2.out.1 ht)⟩
 clear C1 C2 C3 hb1 hb3
 obtain ⟨e1, f1, -⟩ := D1.all (w' := u3)
 obtain ⟨e2, f2, -⟩ := D2.all (w' := u3)
 cases t1
 case false =>
  cases t2
  case false =>
   go_wp2_with fail
   refine (decide_any _ _ _ L1 L2 (H1.out.keep (.of_below (HBW.out _ HBF.out))) (H2.out.keep (.of_below (HBW.out _ HBF.out))) (HF1.out.sz HF2.out)).mono ?_
   rintro e w6 ⟨b1, vW, vG, m1, K1, F1, G1, code1, rfl, hmm, hd1, hb6⟩
   have y10 := hb6.size; (try simp only [zs] at y10)
   obtain ⟨AW, cW, rfl, -, -, -⟩ := hmm.out.1.op
   obtain ⟨AG, cG, rfl, -, -, -⟩ := hmm.out.2.op
   have HBE : Hid (Below w.heap.size w w6) := HBW.out _ (HBF.out.trans (hb6.mono y9))
   have y11 := HBE.out.size
   clear hmm hd1 hb6 e1 f1 e2 f2
   go_wp2_with fail
   go_ret
   exact ⟨rfl, HBE.out.trans ((below1 w6 _).mono y11)⟩
  case true =>
   go_wp2_with fail
   refine (decide_any _ _ _ L1 L2 (H1.out.keep (.of_below (HBW.out _ HBF.out))) (H2.out.keep (.of_below (HBW.out _ HBF.out))) (HF1.out.sz HF2.out)).mono ?_
   rintro e w6 ⟨b1, vW, vG, m1, K1, F1, G1, code1, rfl, hmm, hd1, hb6⟩
   obtain ⟨rfl, rfl⟩ := (KC.out _ _ _ _ _ _ hd1.out).2 (by trivial)
   have y10 := hb6.size; (try simp only [zs] at y10)
   obtain ⟨AW, cW, rfl, -, -, -⟩ := hmm.out.1.op
   obtain ⟨AG, cG, rfl, -, -, -⟩ := hmm.out.2.op
   have HBE : Hid (Below w.heap.size w w6) := HBW.out _ (HBF.out.trans (hb6.mono y9))
   have y11 := HBE.out.size
   clear hmm hd1 hb6 e1 f1 e2 f2
   go_wp2_with fail
   go_ret
   exact ⟨rfl, HBE.out.trans ((below1 w6 _).mono y11)⟩
 case true =>
  cases t2
  case false =>
   go_wp2_with fail
   refine (decide_any _ _ _ L1 L2 (H1.out.keep (.of_below (HBW.out _ HBF.out))) (H2.out.keep (.of_below (HBW.out _ HBF.out))) (HF1.out.sz HF2.out)).mono ?_
   rintro e w6 ⟨b1, vW, vG, m1, K1, F1, G1, code1, rfl, hmm, hd1, hb6⟩
   obtain ⟨rfl, rfl⟩ := (KC.out _ _ _ _ _ _ hd1.out).1 (by trivial)
   have y10 := hb6.size; (try simp only [zs] at y10)
   obtain ⟨AW, cW, rfl, -, -, -⟩ := hmm.out.1.op
   obtain ⟨AG, cG, rfl, -, -, -⟩ := hmm.out.2.op
   have HBE : Hid (Below w.heap.size w w6) := HBW.out _ (HBF.out.trans (hb6.mono y9))
   have y11 := HBE.out.size
   clear hmm hd1 hb6 e1 f1 e2 f2
   go_wp2_with fail
   go_ret
   exact ⟨rfl, HBE.out.trans ((below1 w6 _).mono y11)⟩
  case true => exact (HX.out rfl rfl).elim
end Go.Proofs.YtdambnieminnfaaGreat

/- The statement 'RefinementExclusive' out of its walk. The frame is the guide's own (proof-skeleton), printed by lawgen.py. -/
namespace Go.Proofs.YtdambnieminnfaaGreat.refinementExclusive
open Go.ChangeShapes Go.WideShapes Go.ChangeAt Go.RowKit Go.Proofs.YtdambnieminnfaaGreat
open Go.ChangeMaps (open_string shut_string)
set_option linter.unusedVariables false

set_option maxRecDepth 100000 in
theorem lifted (os : Os) (started : os.Started) (H : Type) (enc : TypeId × Value → H) :
 ReturnsInHanded {} Tryz.checked os 6 .any (Rows.refinementExclusiveSpec.pre6 enc Tryz.prog Tryz.f6 Rows.refinementExclusiveRow.domain false) (Rows.refinementExclusiveSpec.post enc Tryz.prog Tryz.f6 false true false false) := by
 refine returnsInHanded_of_change (C := Tryz.checked) own started (by kernel_rfl) Tryz.func6
  (ChangeSpec.witness6 (enc := enc) (C := Tryz.checked) false ⟨#[], #[.agg #[.slice none 0 0], .agg #[.slice none 0 0], .agg #[.bool false, .slice none 0 0, .slice none 0 0]], []⟩ 8 (by kernel_rfl) (by kernel_rfl) (by kernel_rfl) (by kernel_rfl)) ?_
 intro W base args ds gs before hval0 hW hcnd _
 have hval : ∀ (j : Nat) t v, Tryz.f6.params[j]? = some t → args[j]? = some v → Value.okWide Tryz.prog W .any base t v := hval0
 have hW' := hW
 obtain ⟨p, q, hA0, hV, rfl, hfz, hnd⟩ := hW
 have hA : DataW.TrodAll enc Tryz.prog W 0 (fun _ => true) true Tryz.f6.params.toList args.toList ds p := hA0
 rw [Tryz.params6] at hA hval
 obtain ⟨v0, vs0, d0, ds0, p0, q0, hargs, rfl, rfl, h0, r0⟩ := trodAll_cons hA
 obtain ⟨v1, vs1, d1, ds1, p1, q1, rfl, rfl, rfl, h1, r1⟩ := trodAll_cons r0
 obtain ⟨v2, vs2, d2, ds2, p2, q2, rfl, rfl, rfl, h2, r2⟩ := trodAll_cons r1
 obtain ⟨rfl, rfl, rfl⟩ := trodAll_nil r2
 obtain rfl : args = #[v0, v1, v2] := by cases args; simp_all
 obtain ⟨rfl, rfl⟩ := trodVars_none hV
 have lt0 : ∀ x ∈ p0, x.block < W.heap.size := by obtain ⟨m, hm⟩ := h0; exact DataW.trod_lt m _ _ _ hm
 have k0 := fun (W' : World) (bel : Below W.heap.size W W') => Below.trod laidOut (by kernel_rfl) (of_decide_eq_true (by kernel_rfl)) h0 bel lt0
 obtain ⟨va0, L0, e0, ha0⟩ := open_Channel (hval 0 24 v0 rfl rfl) h0
 have lt1 : ∀ x ∈ p1, x.block < W.heap.size := by obtain ⟨m, hm⟩ := h1; exact DataW.trod_lt m _ _ _ hm
 have k1 := fun (W' : World) (bel : Below W.heap.size W W') => Below.trod laidOut (by kernel_rfl) (of_decide_eq_true (by kernel_rfl)) h1 bel lt1
 obtain ⟨va1, L1, e1, ha1⟩ := open_Channel (hval 1 24 v1 rfl rfl) h1
 have lt2 : ∀ x ∈ p2, x.block < W.heap.size := by obtain ⟨m, hm⟩ := h2; exact DataW.trod_lt m _ _ _ hm
 have k2 := fun (W' : World) (bel : Below W.heap.size W W') => Below.trod laidOut (by kernel_rfl) (of_decide_eq_true (by kernel_rfl)) h2 bel lt2
 obtain ⟨b2, va2, vb2, L2, M2, e2, ha2, hb2⟩ := open_Refining (hval 2 27 v2 rfl rfl) h2
 subst e0
 subst e1
 subst e2
 refine (exclusive_walk _ _ _ _ _ _ _ _ _ _ ha0 ha1 ha2 hb2).mono fun e W' ⟨he, bel⟩ => ?_
 subst he
 exact ⟨_, rfl, _, _, _, [], _, [], hW', trodAll_mk1 (shut_bool Tryz.underlying4 _), (trodAll_cons_mk (k0 _ bel) (trodAll_cons_mk (k1 _ bel) (trodAll_cons_mk (k2 _ bel) trodAll_mk0))), rfl, bel.frame _, fun h => by cases h⟩

theorem over : Rows.refinementExclusiveRow.holds Tryz.pinned (OpenSpec.ofChange Rows.refinementExclusiveSpec) :=
 OpenClaim.holds_of_wide 6 Tryz.f6 rfl rfl rfl rfl rfl rfl rfl ⟨rfl, rfl, rfl, rfl, rfl⟩ rfl rfl rfl rfl rfl (by kernel_rfl) Tryz.func6 (by kernel_rfl)
  (of_decide_eq_true (by kernel_rfl)) (by unfold Func.isWrapper; first | (rw [if_pos (by decide +kernel)]; kernel_rfl) | (rw [if_neg (by decide +kernel)]; exact ⟨rfl, rfl⟩))
  (fun os started H enc _ => lifted os started H enc)

/-- The statement: for every input the law returns true; each argument reads behind the call as it read before. -/
theorem proved : Rows.RefinementExclusiveSaid := over
end Go.Proofs.YtdambnieminnfaaGreat.refinementExclusive

