/- For every input the law returns true: the law's walk, and the statement out of it. -/
import Derived.Test.YtooheapikhdllaaRows
import Derived.Test.YtooheapikhdllaaM7
set_option linter.unusedSimpArgs false
set_option linter.unusedVariables false

/- A fraction's text is parsed as the fraction: the plain law. -/
namespace Go.Proofs.Ytooheapikhdllaa
open Go.RowKit

/-- The decimal digits of a number; 0 has one. -/
def dB (n : Nat) : List UInt8 := if n = 0 then [48] else decB n
theorem dB_good (n : Nat) : ∀ c ∈ dB n, good c := by
  unfold dB
  split
  · intro c hc
    have : c = 48 := by simpa using hc
    subst this; decide
  · exact decB_good n
theorem dB_pval (n : Nat) : pval (dB n) = n := by
  unfold dB
  split
  · rename_i h; rw [h]; decide
  · exact decB_pval n
theorem dB_cons (n : Nat) : ∃ c bs, dB n = c :: bs ∧ good c ∧ (0 < n → c ≠ 48) ∧ (n = 0 → bs = []) := by
  by_cases h : n = 0
  · exact ⟨48, [], by simp [dB, h], by decide, fun h' => by omega, fun _ => rfl⟩
  · obtain ⟨c, bs, e, hc⟩ := decB_head n (by omega)
    refine ⟨c, bs, by simp [dB, h, e], decB_good n c (by rw [e]; simp), fun _ => hc, fun h' => absurd h' h⟩
theorem dB_ok (n : Nat) : decOk (dB n) = true := by
  obtain ⟨c, bs, e, hg, h1, h2⟩ := dB_cons n
  have hgd := dB_good n
  rw [e] at hgd ⊢
  refine decOk_ok (by simp) (fun hl _ => ?_) (fun j hj => hgd _ (List.getElem_mem hj))
  rcases Nat.eq_zero_or_pos n with h | h
  · rw [h2 h] at hl; simp at hl
  · exact h1 h
theorem dB_ne48 {n : Nat} (h : 0 < n) : dB n ≠ [48] := by
  obtain ⟨c, bs, e, _, h1, _⟩ := dB_cons n
  rw [e]
  intro h2
  injection h2 with h3 _
  exact h1 h h3
theorem textB_dB (z : Int) : textB z = (if z < 0 then [45] else []) ++ dB z.natAbs := by
  rcases (by omega : z = 0 ∨ 0 < z ∨ z < 0) with rfl | hz | hz
  · decide
  · obtain ⟨n, rfl⟩ : ∃ n : Nat, z = (n : Int) := ⟨z.natAbs, by omega⟩
    rw [if_neg (by omega), Int.natAbs_natCast, textB_pos n (by omega)]
    unfold dB
    rw [if_neg (by omega)]; rfl
  · obtain ⟨n, rfl⟩ : ∃ n : Nat, z = -(n : Int) := ⟨z.natAbs, by omega⟩
    rw [if_pos (by omega), Int.natAbs_neg, Int.natAbs_natCast, textB_neg n (by omega)]
    unfold dB
    rw [if_neg (by omega)]
    simp [decB, bytesOf, List.map_reverse]
theorem good_slash {c : UInt8} (h : good c) : c ≠ 47 := by rintro rfl; revert h; decide
theorem good_minus {c : UInt8} (h : good c) : (c == 45) = false := by
  rw [beq_eq_false_iff_ne]; rintro rfl; revert h; decide
theorem textB_slash (z : Int) : ∀ c ∈ textB z, c ≠ 47 := by
  rw [textB_dB]
  intro c hc
  rw [List.mem_append] at hc
  rcases hc with h | h
  · split at h
    · have : c = 45 := by simpa using h
      subst this; decide
    · simp at h
  · exact good_slash (dB_good _ c h)
theorem textB_isNeg (z : Int) : isNeg (textB z) = decide (z < 0) ∧ strip (textB z) = dB z.natAbs := by
  obtain ⟨c, bs, e, hg, _⟩ := dB_cons z.natAbs
  rw [textB_dB]
  by_cases h : z < 0
  · rw [if_pos h]
    have hn : isNeg ([45] ++ dB z.natAbs) = true := by rw [List.singleton_append, isNeg_cons]; rfl
    rw [hn, decide_eq_true h, strip_neg hn]
    exact ⟨rfl, rfl⟩
  · rw [if_neg h, List.nil_append]
    have hn : isNeg (dB z.natAbs) = false := by rw [e, isNeg_cons]; exact good_minus hg
    rw [hn, decide_eq_false h, strip_pos hn]
    exact ⟨rfl, rfl⟩
theorem slash_app (a b : List UInt8) (h : ∀ c ∈ a, c ≠ 47) : slash (a ++ 47 :: b) = a.length :=
  slash_at (by simp) (by simp) (fun j hj h2 => by rw [List.getElem_append_left hj]; exact h _ (List.getElem_mem hj))
theorem slash_free (a : List UInt8) (h : ∀ c ∈ a, c ≠ 47) : slash a = a.length := slash_none (fun j hj => h _ (List.getElem_mem hj))

theorem rpNum_text (z : Int) : rpNum (decide (z < 0)) (dB z.natAbs) = z := by
  unfold rpNum
  rw [dB_pval]
  by_cases h : z < 0 <;> simp [h] <;> omega
theorem rpBad_text (z : Int) (us : List UInt8) (dv : Bool) (h : dv = true → decOk us = true) : rpBad (decide (z < 0)) (dB z.natAbs) us dv = false := by
  unfold rpBad
  rw [dB_ok]
  by_cases hz : z < 0
  · rw [decide_eq_false (dB_ne48 (n := z.natAbs) (by omega))]
    cases dv
    · simp
    · rw [h rfl]; simp
  · rw [decide_eq_false hz]
    cases dv
    · simp
    · rw [h rfl]; simp

theorem parsed_rat (q : Rat) (hl : (textR q).length ≤ 8192) : rpCode (textR q) = 0 ∧ rpVal (textR q) = q := by
  have hs := textB_slash q.num
  obtain ⟨hn, hst⟩ := textB_isNeg q.num
  by_cases hd : q.den = 1
  · have ht : textR q = textB q.num := by unfold textR; rw [if_pos hd]
    have e1 : rpTop (textR q) = textB q.num := by unfold rpTop; rw [ht, slash_free _ hs, List.take_length]
    have e2 : rpDiv (textR q) = false := by unfold rpDiv; rw [ht, slash_free _ hs]; simp
    constructor
    · unfold rpCode
      rw [if_neg (by omega), e1, e2, hn, hst]
      unfold rpCode'
      rw [rpBad_text _ _ _ (fun h => by cases h)]
      rfl
    · unfold rpVal
      rw [e1, e2, hn, hst, rpNum_text]
      have : ((rpDen (rpBot (textR q)) false : Nat) : Int) = (q.den : Int) := by unfold rpDen; rw [hd]; rfl
      rw [this, Rat.num_divInt_den]
  · have ht : textR q = textB q.num ++ 47 :: textB (q.den : Int) := by unfold textR; rw [if_neg hd]
    have e0 := slash_app (textB q.num) (textB (q.den : Int)) hs
    have e1 : rpTop (textR q) = textB q.num := by unfold rpTop; rw [ht, e0, List.take_left']; rfl
    have e2 : rpDiv (textR q) = true := by unfold rpDiv; rw [ht, e0]; simp
    have e3 : rpBot (textR q) = dB q.den := by
      unfold rpBot
      rw [ht, e0, List.drop_append, List.drop_eq_nil_of_le (by omega)]
      have : textB (q.den : Int) = dB q.den := by rw [textB_dB, if_neg (by omega), Int.natAbs_natCast]; rfl
      rw [this]
      simp
    constructor
    · unfold rpCode
      rw [if_neg (by omega), e1, e2, e3, hn, hst]
      unfold rpCode'
      rw [rpBad_text _ _ _ (fun _ => dB_ok _)]
      have : rpDen (dB q.den) true ≠ 0 := by unfold rpDen; rw [dB_pval]; exact q.den_nz
      simp [this]
    · unfold rpVal
      rw [e1, e2, e3, hn, hst, rpNum_text]
      have : ((rpDen (dB q.den) true : Nat) : Int) = (q.den : Int) := by unfold rpDen; simp [dB_pval]
      rw [this, Rat.num_divInt_den]
theorem textR_len {q : Rat} {k : Nat} (h : Rsz k q) : (textR q).length ≤ 20 * k + 5 := by
  have h1 := textB_len q.num
  have h2 := textB_len (q.den : Int)
  have h3 := h.1
  have h4 := h.2
  unfold textR
  split
  · omega
  · rw [List.length_append, List.length_cons]; omega
end Go.Proofs.Ytooheapikhdllaa

/- RationalText: the law's walk. -/
namespace Go.Proofs.Ytooheapikhdllaa
open Go.RowKit
attribute [local go_sem ↓] Go.wp_at_zero Go.wp_at_succ
attribute [local go_sem] beq_self_eq_true

set_option maxHeartbeats 8000000 in
theorem text_walk (w : World) (v : Value) (n1 n2 : Bool) (xs ys : List Nat) (h : RatR w (fun _ => False) v n1 xs n2 ys) :
    Calls Try.prog 5 #[v] w fun e w' => e = .returned (.bool true) ∧ Below w.heap.size w w' := by
  have k1 := h
  obtain ⟨A, c, B, d, rfl, -, -⟩ := h
  have L1 := made1 w #[.bool n1, .slice A xs.length c, .bool n2, .slice B ys.length d] 27
  go_enter Try.func5, Try.ntmps5
  go_wp2_with fail
  refine (rknown_any _).mono ?_
  rintro e w1 ⟨rfl, hb1⟩
  have z1 := sz1 hb1
  obtain ⟨e1, f1, l1⟩ := L1.all (w' := w1)
  go_wp2_with fail
  refine (few_any _ (fun _ => False) _ _ _ _ _ k1.to).mono ?_
  rintro e w2 ⟨he, hb2⟩
  have y2 := hb2.size; (try simp only [World.size_alloc, size_set, size_drew, size_drewN] at y2)
  clear e1 f1
  obtain ⟨e1, f1, l1⟩ := L1.all (w' := w2)
  by_cases hf1 : xs.length ≤ 4 ∧ ys.length ≤ 4
  · rw [decide_eq_true hf1] at he
    subst he
    have r1 := k1.few hf1
    have HX := Lib.hid (r1.rsz (by omega))
    clear hf1
    obtain ⟨x, hx⟩ : ∃ x, rv n1 xs n2 ys = x := ⟨_, rfl⟩
    rw [hx] at r1 HX
    clear hx
    have hl := textR_len HX.out
    obtain ⟨hp0, hp1⟩ := parsed_rat x (by omega)
    have HT := Lib.hid (rfl : textR x = textR x)
    obtain ⟨t, ht⟩ : ∃ t, textR x = t := ⟨_, rfl⟩
    rw [ht] at hl hp0 hp1
    have HTX := Lib.hid ht
    have HP0 := Lib.hid hp0
    have HP1 := Lib.hid hp1
    clear ht hp0 hp1 HT
    go_wp2_with fail
    refine (text_rat _ (fun _ => False) _ x (r1.mono (by omega)).to).mono ?_
    rintro e w3 ⟨he, hb3⟩
    rw [HTX.out] at he
    subst he
    have y3 := hb3.size; (try simp only [World.size_alloc, size_set, size_drew, size_drewN] at y3)
    clear e1 f1
    go_wp2_with fail
    refine (ratparse_any _ t (by omega)).mono ?_
    rintro e w4 ⟨v4, he, h4, hb4⟩
    rw [HP0.out] at he h4
    rw [HP1.out] at h4
    subst he
    replace h4 : RatV w4 (Old w3) v4 x := h4
    obtain ⟨b3, A3, m3, c3, b3', A3', m3', c3', rfl, h3, -, -⟩ := h4.op
    have y4 := hb4.size; (try simp only [World.size_alloc, size_set, size_drew, size_drewN] at y4)
    have M := made1 w4 #[.bool b3, .slice A3 m3 c3, .bool b3', .slice A3' m3' c3'] 27
    go_wp2_with fail
    go_region_held3 (fun W => ((W.cell? ⟨w.heap.size, 0, none⟩ = some (.bool n1) ∧ W.cell? ⟨w.heap.size, 1, none⟩ = some (.slice A xs.length c)) ∧ W.cell? ⟨w.heap.size, 2, none⟩ = some (.bool n2) ∧ W.cell? ⟨w.heap.size, 3, none⟩ = some (.slice B ys.length d)) ∧ (W.cell? ⟨w4.heap.size, 0, none⟩ = some (.bool b3) ∧ W.cell? ⟨w4.heap.size, 1, none⟩ = some (.slice A3 m3 c3)) ∧ W.cell? ⟨w4.heap.size, 2, none⟩ = some (.bool b3') ∧ W.cell? ⟨w4.heap.size, 3, none⟩ = some (.slice A3' m3' c3'))
      (exact ⟨⟨⟨Loc.c 0 L1, Loc.c 1 L1⟩, Loc.c 2 L1, Loc.c 3 L1⟩, ⟨Loc.c 0 M, Loc.c 1 M⟩, Loc.c 2 M, Loc.c 3 M⟩)
      (first
        | (go_at_call 23; refine (rtext_rat _ (fun _ => False) _ x (r1.mono (by omega)).to).mono ?_; rintro e u0 ⟨he, hb5⟩; rw [HTX.out] at he; subst he; have y5 := hb5.size; (try simp only [World.size_alloc, size_set, size_drew, size_drewN] at y5))
        | (go_at_call 24; refine (rclean_rat _ (fun _ => False) _ x (r1.mono (by omega)).to).mono ?_; rintro e u1 ⟨v6, rfl, h6, hb6⟩; obtain ⟨b6, A6, m6, c6, b6', A6', m6', c6', rfl, h6, -, -⟩ := h6.op; have y6 := hb6.size; (try simp only [World.size_alloc, size_set, size_drew, size_drewN] at y6))
        | (go_at_call_of 17 (Value.slice A6 m6 c6); refine (rsame_VV _ (fun _ => False) (fun _ => False) _ _ _ _ (RatV.to h3) (RatV.to h6) rfl).mono ?_; rintro e u2 ⟨rfl, hb7⟩; have y7 := hb7.size; (try simp only [World.size_alloc, size_set, size_drew, size_drewN] at y7)))
    all_goals
      go_wp2_with fail
      go_ret
      exact ⟨rfl, bel⟩
  · rw [decide_eq_false hf1] at he
    subst he
    go_wp2_with fail
    go_ret
    exact ⟨rfl, bel⟩
end Go.Proofs.Ytooheapikhdllaa

/- The statement 'RationalText' out of its walk. The frame is the guide's own (proof-skeleton), printed by lawgen.py. -/
namespace Go.Proofs.Ytooheapikhdllaa.rationalText
open Go.ChangeShapes Go.WideShapes Go.ChangeAt Go.RowKit Go.Proofs.Ytooheapikhdllaa
open Go.ChangeMaps (open_string shut_string)
set_option linter.unusedVariables false

set_option maxRecDepth 100000 in
theorem lifted (os : Os) (started : os.Started) (H : Type) (enc : TypeId × Value → H) :
    ReturnsInHanded {} Try.checked os 5 .any (Rows.rationalTextSpec.pre6 enc Try.prog Try.f5 Rows.rationalTextRow.domain false) (Rows.rationalTextSpec.post enc Try.prog Try.f5 false true false false) := by
  refine returnsInHanded_of_change (C := Try.checked) own started (by kernel_rfl) Try.func5
    (ChangeSpec.witness6 (enc := enc) (C := Try.checked) false ⟨#[], #[.agg #[.bool false, .slice none 0 0, .bool false, .slice none 0 0]], []⟩ 8 (by kernel_rfl) (by kernel_rfl) (by kernel_rfl) (by kernel_rfl)) ?_
  intro W base args ds gs before hval0 hW hcnd _
  have hval : ∀ (j : Nat) t v, Try.f5.params[j]? = some t → args[j]? = some v → Value.okWide Try.prog W .any base t v := hval0
  have hW' := hW
  obtain ⟨p, q, hA0, hV, rfl, hfz, hnd⟩ := hW
  have hA : DataW.TrodAll enc Try.prog W 0 (fun _ => true) true Try.f5.params.toList args.toList ds p := hA0
  rw [Try.params5] at hA hval
  obtain ⟨v0, vs0, d0, ds0, p0, q0, hargs, rfl, rfl, h0, r0⟩ := trodAll_cons hA
  obtain ⟨rfl, rfl, rfl⟩ := trodAll_nil r0
  obtain rfl : args = #[v0] := by cases args; simp_all
  obtain ⟨rfl, rfl⟩ := trodVars_none hV
  have lt0 : ∀ x ∈ p0, x.block < W.heap.size := by obtain ⟨m, hm⟩ := h0; exact DataW.trod_lt m _ _ _ hm
  have k0 := fun (W' : World) (bel : Below W.heap.size W W') => Below.trod laidOut (by kernel_rfl) (of_decide_eq_true (by kernel_rfl)) h0 bel lt0
  obtain ⟨n0, x0, m0, y0, o0⟩ := open_Rat (hval 0 27 v0 rfl rfl) h0
  refine (text_walk W v0 n0 m0 x0 y0 o0).mono fun e W' ⟨he, bel⟩ => ?_
  subst he
  exact ⟨_, rfl, _, _, _, [], _, [], hW', trodAll_mk1 (shut_bool Try.underlying4 _), (trodAll_cons_mk (k0 _ bel) trodAll_mk0), rfl, bel.frame _, fun h => by cases h⟩

theorem over : Rows.rationalTextRow.holds Try.pinned (OpenSpec.ofChange Rows.rationalTextSpec) :=
  OpenClaim.holds_of_wide 5 Try.f5 rfl rfl rfl rfl rfl rfl rfl ⟨rfl, rfl, rfl, rfl, rfl⟩ rfl rfl rfl rfl rfl (by kernel_rfl) Try.func5 (by kernel_rfl)
    (of_decide_eq_true (by kernel_rfl)) (by unfold Func.isWrapper; first | (rw [if_pos (by decide +kernel)]; kernel_rfl) | (rw [if_neg (by decide +kernel)]; exact ⟨rfl, rfl⟩))
    (fun os started H enc _ => lifted os started H enc)

/-- The statement: for every input the law returns true; each argument reads behind the call as it read before. -/
theorem proved : Rows.RationalTextSaid := over
end Go.Proofs.Ytooheapikhdllaa.rationalText

