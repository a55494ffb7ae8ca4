/- For every input the law returns true: the law's walk, and the statement out of it. -/
import Derived.Test.YtooheapikhdllaaRows
import Derived.Test.YtooheapikhdllaaM7
/- RationalNew, RationalOf: the laws' walks. -/
namespace Go.Proofs.Ytooheapikhdllaa
open Go.RowKit
attribute [local go_sem ↓] Go.wp_at_zero Go.wp_at_succ

theorem RatR.zero (w : World) (X : Nat → Prop) : RatR w X (.agg #[.bool false, .slice none 0 0, .bool false, .slice none 0 0]) false [] false [] :=
  ⟨none, 0, none, 0, rfl, ⟨_, rfl, Words.nil _ _⟩, ⟨_, rfl, Words.nil _ _⟩⟩
theorem rsame_zero (w : World) :
    Calls Try.prog 17 #[.agg #[.bool false, .slice none 0 0, .bool false, .slice none 0 0], .agg #[.bool false, .slice none 0 0, .bool false, .slice none 0 0]] w fun e w' => e = .returned (.bool true) ∧ Below w.heap.size w w' :=
  (rsame_any w (fun _ => False) _ _ _ _ _ _ _ _ _ _ (RatR.zero _ _) (RatR.zero _ _)).mono fun e w' h => h
theorem rsame_VV (w : World) (X Y : Nat → Prop) (v1 v2 : Value) (x y : Rat) (h1 : RatV w X v1 x) (h2 : RatV w Y v2 y) (e : x = y) :
    Calls Try.prog 17 #[v1, v2] w fun e w' => e = .returned (.bool true) ∧ Below w.heap.size w w' :=
  (rsame_V w X Y v1 v2 x y h1 h2).mono fun e' w' h => by rw [decide_eq_true e] at h; exact h

set_option maxHeartbeats 4000000 in
theorem new_walk (w : World) (v1 v2 : Value) (n1 n2 : Bool) (xs ys : List Nat) (h1 : IntR w (fun _ => False) v1 n1 xs) (h2 : IntR w (fun _ => False) v2 n2 ys) :
    Calls Try.prog 3 #[v1, v2] w fun e w' => e = .returned (.bool true) ∧ Below w.heap.size w w' := by
  obtain ⟨A, c, rfl, h1⟩ := h1.op
  obtain ⟨B, d, rfl, h2⟩ := h2.op
  have L1 := made1 w #[.bool n1, .slice A xs.length c] 24
  have L2 := made2 w (.cells #[.bool n1, .slice A xs.length c] 24) #[.bool n2, .slice B ys.length d] 24
  go_enter Try.func3, Try.ntmps3
  go_wp2_with fail
  refine (rknown_any _).mono ?_
  rintro e w1 ⟨rfl, hb1⟩
  obtain ⟨z1, z2⟩ := sz2 hb1
  obtain ⟨e1, f1, l1⟩ := L1.all (w' := w1)
  obtain ⟨e2, f2, l2⟩ := L2.all (w' := w1)
  by_cases hx : 4 < xs.length
  · go_wp2_with fail
    go_ret
    exact ⟨rfl, bel⟩
  · by_cases hy : 4 < ys.length
    · go_wp2_with fail
      go_ret
      exact ⟨rfl, bel⟩
    · by_cases hz : val ys = 0
      · have HZ := Lib.hid hz
        clear hz
        go_wp2_with fail
        refine (new_zero _ (fun _ => False) _ _ n1 n2 xs ys h1.to h2.to HZ.out).mono ?_
        rintro e w2 ⟨rfl, hb2⟩
        have y2 := hb2.size; (try simp only [World.size_alloc, size_set, size_drew, size_drewN] at y2)
        clear e1 f1 e2 f2
        obtain ⟨e1, f1, l1⟩ := L1.all (w' := w2)
        obtain ⟨e2, f2, l2⟩ := L2.all (w' := w2)
        have M1 := made1 w2 #[.bool false, .slice none 0 0, .bool false, .slice none 0 0] 27
        go_wp2_with fail
        refine (rnew_zero _ (fun _ => False) _ _ n1 n2 xs ys h1.to h2.to HZ.out (by omega) (by omega)).mono ?_
        rintro e w3 ⟨rfl, hb3⟩
        have y3 := hb3.size; (try simp only [World.size_alloc, size_set, size_drew, size_drewN] at y3)
        clear e1 f1 e2 f2
        obtain ⟨e3, f3, l3⟩ := M1.all (w' := w3)
        go_wp2_with fail
        refine (rsame_zero _).mono ?_
        rintro e w4 ⟨rfl, hb4⟩
        have y4 := hb4.size; (try simp only [World.size_alloc, size_set, size_drew, size_drewN] at y4)
        go_wp2_with fail
        go_ret
        exact ⟨rfl, bel⟩
      · have HZ := Lib.hid hz
        clear hz
        go_wp2_with fail
        refine (new_any _ (fun _ => False) _ _ n1 n2 xs ys h1.to h2.to HZ.out (by omega) (by omega)).mono ?_
        rintro e w2 ⟨v3, rfl, h3, hb2⟩
        obtain ⟨b3, A3, m3, c3, b3', A3', m3', c3', rfl, h3, -, -⟩ := h3.op
        have y2 := hb2.size; (try simp only [World.size_alloc, size_set, size_drew, size_drewN] at y2)
        clear e1 f1 e2 f2
        obtain ⟨e1, f1, l1⟩ := L1.all (w' := w2)
        obtain ⟨e2, f2, l2⟩ := L2.all (w' := w2)
        have M1 := made1 w2 #[.bool b3, .slice A3 m3 c3, .bool b3', .slice A3' m3' c3'] 27
        go_wp2_with fail
        refine (rnew_any _ (fun _ => False) _ _ n1 n2 xs ys h1.to h2.to HZ.out (by omega) (by omega)).mono ?_
        rintro e w3 ⟨v4, rfl, h4, hb3⟩
        obtain ⟨b4, A4, m4, c4, b4', A4', m4', c4', rfl, h4, -, -⟩ := h4.op
        have y3 := hb3.size; (try simp only [World.size_alloc, size_set, size_drew, size_drewN] at y3)
        clear e1 f1 e2 f2
        obtain ⟨e3, f3, l3⟩ := M1.all (w' := w3)
        go_wp2_with fail
        refine (rsame_VV _ (fun _ => False) (fun _ => False) _ _ _ _ (RatV.to h3) (RatV.to h4) rfl).mono ?_
        rintro e w4 ⟨rfl, hb4⟩
        have y4 := hb4.size; (try simp only [World.size_alloc, size_set, size_drew, size_drewN] at y4)
        go_wp2_with fail
        go_ret
        exact ⟨rfl, bel⟩

set_option maxHeartbeats 4000000 in
theorem of_walk (w : World) (n d : Int) (h0 : -9223372036854775808 ≤ n) (h1 : n ≤ 9223372036854775807) (h2 : -9223372036854775808 ≤ d) (h3 : d ≤ 9223372036854775807) :
    Calls Try.prog 4 #[.int .i64 n, .int .i64 d] w fun e w' => e = .returned (.bool true) ∧ Below w.heap.size w w' := by
  have H0 := Lib.hid h0
  have H1 := Lib.hid h1
  have H2 := Lib.hid h2
  have H3 := Lib.hid h3
  by_cases hd : d = 0
  · subst hd
    clear h0 h1 h2 h3
    go_enter Try.func4, Try.ntmps4
    go_wp2_with fail
    refine (rknown_any _).mono ?_
    rintro e w1 ⟨rfl, hb1⟩
    have y1 := hb1.size; (try simp only [World.size_alloc, size_set, size_drew, size_drewN] at y1)
    go_wp2_with fail
    refine (ratof_zero _ n H0.out H1.out).mono ?_
    rintro e w2 ⟨rfl, hb2⟩
    have y2 := hb2.size; (try simp only [World.size_alloc, size_set, size_drew, size_drewN] at y2)
    have M1 := made1 w2 #[.bool false, .slice none 0 0, .bool false, .slice none 0 0] 27
    go_wp2_with fail
    refine (rratof_zero _ n H0.out H1.out).mono ?_
    rintro e w3 ⟨rfl, hb3⟩
    have y3 := hb3.size; (try simp only [World.size_alloc, size_set, size_drew, size_drewN] at y3)
    obtain ⟨e3, f3, l3⟩ := M1.all (w' := w3)
    go_wp2_with fail
    refine (rsame_zero _).mono ?_
    rintro e w4 ⟨rfl, hb4⟩
    have y4 := hb4.size; (try simp only [World.size_alloc, size_set, size_drew, size_drewN] at y4)
    go_wp2_with fail
    go_ret
    exact ⟨rfl, bel⟩
  · have HD := Lib.hid hd
    clear hd h0 h1 h2 h3
    go_enter Try.func4, Try.ntmps4
    go_wp2_with fail
    refine (rknown_any _).mono ?_
    rintro e w1 ⟨rfl, hb1⟩
    have y1 := hb1.size; (try simp only [World.size_alloc, size_set, size_drew, size_drewN] at y1)
    go_wp2_with fail
    refine (ratof_any _ n d HD.out H0.out H1.out H2.out H3.out).mono ?_
    rintro e w2 ⟨v3, rfl, h3, hb2⟩
    obtain ⟨b3, A3, m3, c3, b3', A3', m3', c3', rfl, h3, -, -⟩ := h3.op
    have y2 := hb2.size; (try simp only [World.size_alloc, size_set, size_drew, size_drewN] at y2)
    have M1 := made1 w2 #[.bool b3, .slice A3 m3 c3, .bool b3', .slice A3' m3' c3'] 27
    go_wp2_with fail
    refine (rratof_any _ n d HD.out H0.out H1.out H2.out H3.out).mono ?_
    rintro e w3 ⟨v4, rfl, h4, hb3⟩
    obtain ⟨b4, A4, m4, c4, b4', A4', m4', c4', rfl, h4, -, -⟩ := h4.op
    have y3 := hb3.size; (try simp only [World.size_alloc, size_set, size_drew, size_drewN] at y3)
    obtain ⟨e3, f3, l3⟩ := M1.all (w' := w3)
    go_wp2_with fail
    refine (rsame_VV _ (fun _ => False) (fun _ => False) _ _ _ _ (RatV.to h3) (RatV.to h4) rfl).mono ?_
    rintro e w4 ⟨rfl, hb4⟩
    have y4 := hb4.size; (try simp only [World.size_alloc, size_set, size_drew, size_drewN] at y4)
    go_wp2_with fail
    go_ret
    exact ⟨rfl, bel⟩
end Go.Proofs.Ytooheapikhdllaa

/- The statement 'RationalNew' out of its walk. The frame is the guide's own (proof-skeleton), printed by lawgen.py. -/
namespace Go.Proofs.Ytooheapikhdllaa.rationalNew
open Go.ChangeShapes Go.WideShapes Go.ChangeAt Go.RowKit Go.Proofs.Ytooheapikhdllaa
open Go.ChangeMaps (open_string shut_string)
set_option linter.unusedVariables false

set_option maxRecDepth 100000 in
theorem lifted (os : Os) (started : os.Started) (H : Type) (enc : TypeId × Value → H) :
    ReturnsInHanded {} Try.checked os 3 .any (Rows.rationalNewSpec.pre6 enc Try.prog Try.f3 Rows.rationalNewRow.domain false) (Rows.rationalNewSpec.post enc Try.prog Try.f3 false true false false) := by
  refine returnsInHanded_of_change (C := Try.checked) own started (by kernel_rfl) Try.func3
    (ChangeSpec.witness6 (enc := enc) (C := Try.checked) false ⟨#[], #[.agg #[.bool false, .slice none 0 0], .agg #[.bool false, .slice none 0 0]], []⟩ 8 (by kernel_rfl) (by kernel_rfl) (by kernel_rfl) (by kernel_rfl)) ?_
  intro W base args ds gs before hval0 hW hcnd _
  have hval : ∀ (j : Nat) t v, Try.f3.params[j]? = some t → args[j]? = some v → Value.okWide Try.prog W .any base t v := hval0
  have hW' := hW
  obtain ⟨p, q, hA0, hV, rfl, hfz, hnd⟩ := hW
  have hA : DataW.TrodAll enc Try.prog W 0 (fun _ => true) true Try.f3.params.toList args.toList ds p := hA0
  rw [Try.params3] at hA hval
  obtain ⟨v0, vs0, d0, ds0, p0, q0, hargs, rfl, rfl, h0, r0⟩ := trodAll_cons hA
  obtain ⟨v1, vs1, d1, ds1, p1, q1, rfl, rfl, rfl, h1, r1⟩ := trodAll_cons r0
  obtain ⟨rfl, rfl, rfl⟩ := trodAll_nil r1
  obtain rfl : args = #[v0, v1] := by cases args; simp_all
  obtain ⟨rfl, rfl⟩ := trodVars_none hV
  have lt0 : ∀ x ∈ p0, x.block < W.heap.size := by obtain ⟨m, hm⟩ := h0; exact DataW.trod_lt m _ _ _ hm
  have k0 := fun (W' : World) (bel : Below W.heap.size W W') => Below.trod laidOut (by kernel_rfl) (of_decide_eq_true (by kernel_rfl)) h0 bel lt0
  obtain ⟨n0, x0, o0⟩ := open_Int (hval 0 24 v0 rfl rfl) h0
  have lt1 : ∀ x ∈ p1, x.block < W.heap.size := by obtain ⟨m, hm⟩ := h1; exact DataW.trod_lt m _ _ _ hm
  have k1 := fun (W' : World) (bel : Below W.heap.size W W') => Below.trod laidOut (by kernel_rfl) (of_decide_eq_true (by kernel_rfl)) h1 bel lt1
  obtain ⟨n1, x1, o1⟩ := open_Int (hval 1 24 v1 rfl rfl) h1
  refine (new_walk W v0 v1 n0 n1 x0 x1 o0 o1).mono fun e W' ⟨he, bel⟩ => ?_
  subst he
  exact ⟨_, rfl, _, _, _, [], _, [], hW', trodAll_mk1 (shut_bool Try.underlying4 _), (trodAll_cons_mk (k0 _ bel) (trodAll_cons_mk (k1 _ bel) trodAll_mk0)), rfl, bel.frame _, fun h => by cases h⟩

theorem over : Rows.rationalNewRow.holds Try.pinned (OpenSpec.ofChange Rows.rationalNewSpec) :=
  OpenClaim.holds_of_wide 3 Try.f3 rfl rfl rfl rfl rfl rfl rfl ⟨rfl, rfl, rfl, rfl, rfl⟩ rfl rfl rfl rfl rfl (by kernel_rfl) Try.func3 (by kernel_rfl)
    (of_decide_eq_true (by kernel_rfl)) (by unfold Func.isWrapper; first | (rw [if_pos (by decide +kernel)]; kernel_rfl) | (rw [if_neg (by decide +kernel)]; exact ⟨rfl, rfl⟩))
    (fun os started H enc _ => lifted os started H enc)

/-- The statement: for every input the law returns true; each argument reads behind the call as it read before. -/
theorem proved : Rows.RationalNewSaid := over
end Go.Proofs.Ytooheapikhdllaa.rationalNew

