/- For every input the law returns true: the law's walk, and the statement out of it. -/
import Derived.Test.YtooheapikhdllaaRows
import Derived.Test.YtooheapikhdllaaM7
set_option linter.unusedSimpArgs false
set_option linter.unusedVariables false

/- RationalClean: the law's walk. -/
namespace Go.Proofs.Ytooheapikhdllaa
open Go.RowKit
attribute [local go_sem ↓] Go.wp_at_zero Go.wp_at_succ
attribute [local go_sem] beq_self_eq_true

theorem sameR_self (n : Bool) (xs : List Nat) : sameR n xs n xs = true := by simp [sameR]
theorem canR_V (q : Rat) : canR (decide (q.num < 0)) (dig q.num.natAbs) (decide ((q.den : Int) < 0)) (dig (q.den : Int).natAbs) = true := by
  unfold canR
  rw [rv_canon, sameR_self, sameR_self]; rfl

set_option maxHeartbeats 8000000 in
theorem clean_walk (w : World) (v : Value) (n1 n2 : Bool) (xs ys : List Nat) (h : RatR w (fun _ => False) v n1 xs n2 ys) :
    Calls Try.prog 12 #[v] w fun e w' => e = .returned (.bool true) ∧ Below w.heap.size w w' := by
  have k1 := h
  obtain ⟨A, c, B, d, rfl, -, -⟩ := h
  have L1 := made1 w #[.bool n1, .slice A xs.length c, .bool n2, .slice B ys.length d] 27
  go_enter Try.func12, Try.ntmps12
  go_wp2_with fail
  refine (rknown_any _).mono ?_
  rintro e w1 ⟨rfl, hb1⟩
  have z1 := sz1 hb1
  obtain ⟨e1, f1, l1⟩ := L1.all (w' := w1)
  go_wp2_with fail
  refine (few_any _ (fun _ => False) _ _ _ _ _ k1.to).mono ?_
  rintro e w2 ⟨he, hb2⟩
  have y2 := hb2.size; (try simp only [World.size_alloc, size_set, size_drew, size_drewN] at y2)
  clear e1 f1
  obtain ⟨e1, f1, l1⟩ := L1.all (w' := w2)
  by_cases hf1 : xs.length ≤ 4 ∧ ys.length ≤ 4
  · rw [decide_eq_true hf1] at he
    subst he
    have r1 := k1.few hf1
    have l4 : xs.length ≤ 4 := hf1.1
    have l5 : ys.length ≤ 4 := hf1.2
    have HX := Lib.hid (r1.rsz (by omega))
    clear hf1
    obtain ⟨x, hx⟩ : ∃ x, rv n1 xs n2 ys = x := ⟨_, rfl⟩
    obtain ⟨cr, hcr⟩ : ∃ b, canR n1 xs n2 ys = b := ⟨_, rfl⟩
    have HCR := Lib.hid hcr
    have HCR2 : Hid ((sameR n1 xs (decide (x.num < 0)) (dig x.num.natAbs) && sameR n2 ys (decide ((x.den : Int) < 0)) (dig (x.den : Int).natAbs)) = cr) := by show _ = _; rw [← hcr]; unfold canR; rw [hx]
    rw [hx] at r1 HX
    clear hx hcr
    go_wp2_with fail
    refine (clean_rat _ (fun _ => False) _ x (r1.mono (by omega)).to).mono ?_
    rintro e w3 ⟨v3, rfl, h3, hb3⟩
    obtain ⟨b3, A3, m3, c3, b3', A3', m3', c3', rfl, h3, -, -⟩ := h3.op
    have y3 := hb3.size; (try simp only [World.size_alloc, size_set, size_drew, size_drewN] at y3)
    have M := made1 w3 #[.bool b3, .slice A3 m3 c3, .bool b3', .slice A3' m3' c3'] 27
    clear e1 f1
    go_wp2_with fail
    go_region_held3 (fun W => ((W.cell? ⟨w.heap.size, 0, none⟩ = some (.bool n1) ∧ W.cell? ⟨w.heap.size, 1, none⟩ = some (.slice A xs.length c)) ∧ W.cell? ⟨w.heap.size, 2, none⟩ = some (.bool n2) ∧ W.cell? ⟨w.heap.size, 3, none⟩ = some (.slice B ys.length d)) ∧ (W.cell? ⟨w3.heap.size, 0, none⟩ = some (.bool b3) ∧ W.cell? ⟨w3.heap.size, 1, none⟩ = some (.slice A3 m3 c3)) ∧ W.cell? ⟨w3.heap.size, 2, none⟩ = some (.bool b3') ∧ W.cell? ⟨w3.heap.size, 3, none⟩ = some (.slice A3' m3' c3'))
      (exact ⟨⟨⟨Loc.c 0 L1, Loc.c 1 L1⟩, Loc.c 2 L1, Loc.c 3 L1⟩, ⟨Loc.c 0 M, Loc.c 1 M⟩, Loc.c 2 M, Loc.c 3 M⟩)
      (first
        | (go_at_call 24; refine (rclean_rat _ (fun _ => False) _ x (r1.mono (by omega)).to).mono ?_; rintro e u1 ⟨v5, rfl, h5, hb5⟩; obtain ⟨b5, A5, m5, k5, b5', A5', m5', k5', rfl, h5, -, -⟩ := h5.op; have y5 := hb5.size; (try simp only [World.size_alloc, size_set, size_drew, size_drewN] at y5))
        | (go_at_call_of 17 (Value.slice A5 m5 k5); refine (rsame_VV _ (fun _ => False) (fun _ => False) _ _ _ _ (RatV.to h3) (RatV.to h5) rfl).mono ?_; rintro e u2 ⟨rfl, hb6⟩; have y6 := hb6.size; (try simp only [World.size_alloc, size_set, size_drew, size_drewN] at y6))
        | (go_at_call_of 48 (Value.slice A3 m3 c3); refine (valid_rat _ (fun _ => False) _ _ _ _ _ (RatV.to h3) (Nat.le_trans HX.out.1 (by omega)) (Nat.le_trans HX.out.2 (by omega))).mono ?_; rintro e u3 ⟨he, hb7⟩; rw [canR_V] at he; subst he; have y7 := hb7.size; (try simp only [World.size_alloc, size_set, size_drew, size_drewN] at y7))
        | (go_at_call_of 48 (Value.slice A xs.length c); refine (valid_rat _ (fun _ => False) _ _ _ _ _ k1.to (by omega) (by omega)).mono ?_; rintro e u4 ⟨he, hb8⟩; rw [HCR.out] at he; subst he; have y8 := hb8.size; (try simp only [World.size_alloc, size_set, size_drew, size_drewN] at y8))
        | (go_at_call_of 17 (Value.slice A xs.length c); refine (rsame_any _ (fun _ => False) _ _ _ _ _ _ _ _ _ _ k1.to (RatV.to h3)).mono ?_; rintro e u5 ⟨he, hb9⟩; rw [HCR2.out] at he; subst he; have y9 := hb9.size; (try simp only [World.size_alloc, size_set, size_drew, size_drewN] at y9))
        | (go_at_call 35; refine (clean_rat _ (fun _ => False) _ x (RatL.mono (RatL.to (h3.len HX.out)) (by omega))).mono ?_; rintro e u6 ⟨v10, rfl, h10, hb10⟩; obtain ⟨b10, A10, m10, k10, b10', A10', m10', k10', rfl, h10, -, -⟩ := h10.op; have y10 := hb10.size; (try simp only [World.size_alloc, size_set, size_drew, size_drewN] at y10))
        | (go_at_call_of 17 (Value.slice A10 m10 k10); refine (rsame_VV _ (fun _ => False) (fun _ => False) _ _ _ _ (RatV.to h10) (RatV.to h3) rfl).mono ?_; rintro e u7 ⟨rfl, hb11⟩; have y11 := hb11.size; (try simp only [World.size_alloc, size_set, size_drew, size_drewN] at y11)))
    all_goals
      go_wp2_with fail
      go_ret
      exact ⟨rfl, bel⟩
  · rw [decide_eq_false hf1] at he
    subst he
    go_wp2_with fail
    go_ret
    exact ⟨rfl, bel⟩
end Go.Proofs.Ytooheapikhdllaa

/- The statement 'RationalClean' out of its walk. The frame is the guide's own (proof-skeleton), printed by lawgen.py. -/
namespace Go.Proofs.Ytooheapikhdllaa.rationalClean
open Go.ChangeShapes Go.WideShapes Go.ChangeAt Go.RowKit Go.Proofs.Ytooheapikhdllaa
open Go.ChangeMaps (open_string shut_string)
set_option linter.unusedVariables false

set_option maxRecDepth 100000 in
theorem lifted (os : Os) (started : os.Started) (H : Type) (enc : TypeId × Value → H) :
    ReturnsInHanded {} Try.checked os 12 .any (Rows.rationalCleanSpec.pre6 enc Try.prog Try.f12 Rows.rationalCleanRow.domain false) (Rows.rationalCleanSpec.post enc Try.prog Try.f12 false true false false) := by
  refine returnsInHanded_of_change (C := Try.checked) own started (by kernel_rfl) Try.func12
    (ChangeSpec.witness6 (enc := enc) (C := Try.checked) false ⟨#[], #[.agg #[.bool false, .slice none 0 0, .bool false, .slice none 0 0]], []⟩ 8 (by kernel_rfl) (by kernel_rfl) (by kernel_rfl) (by kernel_rfl)) ?_
  intro W base args ds gs before hval0 hW hcnd _
  have hval : ∀ (j : Nat) t v, Try.f12.params[j]? = some t → args[j]? = some v → Value.okWide Try.prog W .any base t v := hval0
  have hW' := hW
  obtain ⟨p, q, hA0, hV, rfl, hfz, hnd⟩ := hW
  have hA : DataW.TrodAll enc Try.prog W 0 (fun _ => true) true Try.f12.params.toList args.toList ds p := hA0
  rw [Try.params12] at hA hval
  obtain ⟨v0, vs0, d0, ds0, p0, q0, hargs, rfl, rfl, h0, r0⟩ := trodAll_cons hA
  obtain ⟨rfl, rfl, rfl⟩ := trodAll_nil r0
  obtain rfl : args = #[v0] := by cases args; simp_all
  obtain ⟨rfl, rfl⟩ := trodVars_none hV
  have lt0 : ∀ x ∈ p0, x.block < W.heap.size := by obtain ⟨m, hm⟩ := h0; exact DataW.trod_lt m _ _ _ hm
  have k0 := fun (W' : World) (bel : Below W.heap.size W W') => Below.trod laidOut (by kernel_rfl) (of_decide_eq_true (by kernel_rfl)) h0 bel lt0
  obtain ⟨n0, x0, m0, y0, o0⟩ := open_Rat (hval 0 27 v0 rfl rfl) h0
  refine (clean_walk W v0 n0 m0 x0 y0 o0).mono fun e W' ⟨he, bel⟩ => ?_
  subst he
  exact ⟨_, rfl, _, _, _, [], _, [], hW', trodAll_mk1 (shut_bool Try.underlying4 _), (trodAll_cons_mk (k0 _ bel) trodAll_mk0), rfl, bel.frame _, fun h => by cases h⟩

theorem over : Rows.rationalCleanRow.holds Try.pinned (OpenSpec.ofChange Rows.rationalCleanSpec) :=
  OpenClaim.holds_of_wide 12 Try.f12 rfl rfl rfl rfl rfl rfl rfl ⟨rfl, rfl, rfl, rfl, rfl⟩ rfl rfl rfl rfl rfl (by kernel_rfl) Try.func12 (by kernel_rfl)
    (of_decide_eq_true (by kernel_rfl)) (by unfold Func.isWrapper; first | (rw [if_pos (by decide +kernel)]; kernel_rfl) | (rw [if_neg (by decide +kernel)]; exact ⟨rfl, rfl⟩))
    (fun os started H enc _ => lifted os started H enc)

/-- The statement: for every input the law returns true; each argument reads behind the call as it read before. -/
theorem proved : Rows.RationalCleanSaid := over
end Go.Proofs.Ytooheapikhdllaa.rationalClean

