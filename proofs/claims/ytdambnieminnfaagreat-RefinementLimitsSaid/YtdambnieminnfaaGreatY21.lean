/- Contracts of the functions that the statements reach, part 21. -/
import Derived.Test.YtdambnieminnfaaGreatRows
import Derived.Test.YtdambnieminnfaaGreatY13
import Derived.Test.YtdambnieminnfaaGreatY15
import Derived.Test.YtdambnieminnfaaGreatY20
set_option linter.unusedSimpArgs false
set_option linter.unusedVariables false

/- Of the reference: Clean, Of, Sign, Neg, Mul. -/
namespace Go.Proofs.YtdambnieminnfaaGreat
open Go.RowKit
attribute [local go_sem ↓] Go.wp_at_zero Go.wp_at_succ

theorem IntV.neg_eq {w : World} {X : Nat → Prop} {b : Bool} {s : Value} {z : Int} (h : IntV w X (.agg #[.bool b, s]) z) : b = decide (z < 0) := by
 obtain ⟨A, c, e, _⟩ := IntR.open_ h
 simp only [Value.agg.injEq, Array.mk.injEq, List.cons.injEq, Value.bool.injEq, and_true] at e
 exact e.1

set_option maxHeartbeats 2000000 in
theorem rclean_rat (w : World) (X : Nat → Prop) (v : Value) (q : Rat) (h : RatL 10000000 w X v q) :
 Calls Tryz.prog 67 #[v] w fun e w' => ∃ v', e = .returned v' ∧ RatV w' (Old w) v' q ∧ Below w.heap.size w w' := by
 obtain ⟨n1, A, m, c, n2, B, m', d, rfl, -, xs, ys, i1, i2, l1, l2, HE⟩ := h.op
 clear h
 by_cases hz : val ys = 0
 ·have hq0 : q = 0 := by rw [← HE.out]; unfold rv; rw [(sv_zero_iff n2 ys).2 hz, Rat.divInt_zero]
  subst hq0
  go_enter Tryz.func67, Tryz.ntmps67
  go_wp2_with fail
  refine (rnew_zero _ (fun _ => False) _ _ n1 n2 xs ys i1.to i2.to hz l1 l2).mono ?_
  rintro e w1 ⟨rfl, hb1⟩
  obtain ⟨z1, z2⟩ := sz2 hb1
  go_wp2_with fail
  refine (rzero_rat _).mono ?_
  rintro e w2 ⟨v2, rfl, h2, hb2⟩
  obtain ⟨b2, A2, m2, c2, b3, A3, m3, c3, rfl, h2, -, -⟩ := h2.op
  have y2 := hb2.size; (try simp only [zs] at y2)
  obtain ⟨e4, g4, -⟩ := (made2 w _ #[.bool false, .slice none 0 0, .bool false, .slice none 0 0] 60).all (w' := w2)
  go_wp2_with fail
  refine bodyPost_ret (by simp [results, Tryz.results67, go_sem, e4, g4] <;> rfl) rfl ⟨_, rfl, h2.out, bel⟩
 ·go_enter Tryz.func67, Tryz.ntmps67
  go_wp2_with fail
  refine (rnew_any _ (fun _ => False) _ _ n1 n2 xs ys i1.to i2.to hz l1 l2).mono ?_
  rintro e w1 ⟨v2, rfl, h2, hb1⟩
  have hq : Rat.divInt (sv n1 xs) (sv n2 ys) = q := HE.out
  rw [hq] at h2
  clear hq
  obtain ⟨z1, z2⟩ := sz2 hb1
  obtain ⟨b2, A2, m2, c2, b3, A3, m3, c3, rfl, h2, -, -⟩ := h2.op
  obtain ⟨e4, g4, -⟩ := (made2 w _ #[.bool false, .slice none 0 0, .bool false, .slice none 0 0] 60).all (w' := w1)
  go_wp2_with fail
  refine bodyPost_ret (by simp [results, Tryz.results67, go_sem, e4, g4, z1, z2] <;> rfl) rfl ⟨_, rfl, h2.out, bel⟩

set_option maxHeartbeats 2000000 in
theorem rratof_any (w : World) (n d : Int) (hd : d ≠ 0) (h0 : -9223372036854775808 ≤ n) (h1 : n ≤ 9223372036854775807) (h2 : -9223372036854775808 ≤ d) (h3 : d ≤ 9223372036854775807) :
 Calls Tryz.prog 84 #[.int .i64 n, .int .i64 d] w fun e w' => ∃ v', e = .returned (.tuple #[v', .int .i64 0]) ∧ RatV w' (Old w) v' (Rat.divInt n d) ∧ Below w.heap.size w w' := by
 have HN := Lib.hid (dig_i64 n h0 h1)
 have HD := Lib.hid (dig_i64 d h2 h3)
 go_enter Tryz.func84, Tryz.ntmps84
 go_wp2_with fail
 refine (rsmallI _ n h0 h1).mono ?_
 rintro e w1 ⟨v1, rfl, i1, hb1⟩
 obtain ⟨b1, A1, m1, c1, rfl, i1⟩ := i1.op
 have z1 := sz1 hb1
 go_wp2_with fail
 refine (rsmallI _ d h2 h3).mono ?_
 rintro e w2 ⟨v2, rfl, i2, hb2⟩
 obtain ⟨b2, A2, m2, c2, rfl, i2⟩ := i2.op
 have y2 := hb2.size; (try simp only [zs] at y2)
 go_wp2_with fail
 refine (rnew_any _ (fun _ => False) _ _ _ _ _ _ i1.to i2.to (by rw [val_dig]; omega) (Nat.le_trans HN.out (by omega)) (Nat.le_trans HD.out (by omega))).mono ?_
 rintro e w3 ⟨v3, rfl, h3, hb3⟩
 rw [sv_dig, sv_dig] at h3
 have y3 := hb3.size; (try simp only [zs] at y3)
 obtain ⟨b2, A2, m2, c2, b3, A3, m3, c3, rfl, h3, -, -⟩ := h3.op
 obtain ⟨e4, g4, -⟩ := (made1 w #[.bool false, .slice none 0 0, .bool false, .slice none 0 0] 60).all (w' := w3)
 go_wp2_with fail
 refine bodyPost_ret (by simp [results, Tryz.results84, go_sem, e4, g4] <;> rfl) rfl ⟨_, rfl, h3.out, bel⟩

set_option maxHeartbeats 2000000 in
theorem rsign_rat (w : World) (X : Nat → Prop) (v : Value) (q : Rat) (h : RatL 10000000 w X v q) :
 Calls Tryz.prog 60 #[v] w fun e w' => e = .returned (.int .i64 q.num.sign) ∧ Below w.heap.size w w' := by
 have HR := Lib.hid (h.rsz (by omega))
 obtain ⟨n1, A, m, c, n2, B, m', d, rfl, h, -⟩ := h.op
 obtain ⟨s, hs⟩ : ∃ s, q.num.sign = s := ⟨_, rfl⟩
 rw [hs]
 have HS := Lib.hid hs
 clear hs
 go_enter Tryz.func60, Tryz.ntmps60
 go_wp2_with fail
 refine (rclean_rat _ (fun _ => False) _ q h.to).mono ?_
 rintro e w1 ⟨v1, rfl, h1, hb1⟩
 obtain ⟨b2, A2, m2, c2, b3, A3, m3, c3, rfl, h1, j1, j2⟩ := h1.op
 have z1 := sz1 hb1
 have M := made1 w1 #[.bool b2, .slice A2 m2 c2, .bool b3, .slice A3 m3 c3] 60
 have HB := Lib.hid j1.neg_eq
 go_wp2_with fail
 refine (isZero_any _ (fun _ => False) _ _ _ j1.to (Nat.le_trans HR.out.1 (by omega))).mono ?_
 rintro e w2 ⟨he, hb2⟩
 rw [sv_dig] at he
 by_cases hz : q.num = 0
 ·rw [decide_eq_true hz] at he
  subst he
  have hs0 : s = 0 := by rw [← HS.out, hz]; rfl
  subst hs0
  clear hz
  go_wp2_with fail
  go_ret
  exact ⟨rfl, bel⟩
 ·rw [decide_eq_false hz] at he
  subst he
  obtain ⟨e6, f6, -⟩ := Loc.all M (w' := w2)
  have hb := HB.out
  rcases Int.lt_or_lt_of_ne hz with hl | hl
  ·rw [decide_eq_true hl] at hb
   subst hb
   have hs0 : s = -1 := by rw [← HS.out]; exact Int.sign_eq_neg_one_of_neg hl
   subst hs0
   clear hz hl
   go_wp2_with fail
   go_ret
   exact ⟨rfl, bel⟩
  ·rw [decide_eq_false (by omega)] at hb
   subst hb
   have hs0 : s = 1 := by rw [← HS.out]; exact Int.sign_eq_one_of_pos hl
   subst hs0
   clear hz hl
   go_wp2_with fail
   go_ret
   exact ⟨rfl, bel⟩

set_option maxHeartbeats 4000000 in
theorem rneg_rat (w : World) (X : Nat → Prop) (v : Value) (q : Rat) (h : RatL 10000000 w X v q) :
 Calls Tryz.prog 136 #[v] w fun e w' => ∃ v', e = .returned v' ∧ RatV w' (Old w) v' (-q) ∧ Below w.heap.size w w' := by
 have HR := Lib.hid (h.rsz (by omega))
 have HV : Hid (val (dig ((q.den : Nat) : Int).natAbs) ≠ 0) := by show _ ≠ _; rw [val_dig, Int.natAbs_natCast]; exact q.den_nz
 have HE : Hid (Rat.divInt (-q.num) (q.den : Int) = -q) := by show _ = _; rw [← Rat.neg_num, ← Rat.neg_den, Rat.num_divInt_den]
 obtain ⟨n1, A, m, c, n2, B, m', d, rfl, h, -⟩ := h.op
 go_enter Tryz.func136, Tryz.ntmps136
 go_wp2_with fail
 refine (rclean_rat _ (fun _ => False) _ q h.to).mono ?_
 rintro e w1 ⟨v1, rfl, h1, hb1⟩
 obtain ⟨b2, A2, m2, c2, b3, A3, m3, c3, rfl, h1, j1, j2⟩ := h1.op
 obtain ⟨z1, z2⟩ := sz2 hb1
 have L1 := made2 w (.cells #[.bool n1, .slice A m c, .bool n2, .slice B m' d] 60) #[.bool false, .slice none 0 0, .bool false, .slice none 0 0] 60
 have M := made1 w1 #[.bool b2, .slice A2 m2 c2, .bool b3, .slice A3 m3 c3] 60
 go_wp2_with fail
 go_region_held3 (fun W => (W.cell? ⟨w1.heap.size, 0, none⟩ = some (.bool b2) ∧ W.cell? ⟨w1.heap.size, 1, none⟩ = some (.slice A2 m2 c2)) ∧ W.cell? ⟨w1.heap.size, 2, none⟩ = some (.bool b3) ∧ W.cell? ⟨w1.heap.size, 3, none⟩ = some (.slice A3 m3 c3))
  (exact ⟨⟨Loc.c 0 M, Loc.c 1 M⟩, Loc.c 2 M, Loc.c 3 M⟩)
  (first
   | (go_at_call 116; refine (rneg_any _ (fun _ => False) _ _ _ j1.to (Nat.le_trans HR.out.1 (by omega))).mono ?_; rintro e u1 ⟨v5, rfl, h5, hb5⟩; rw [sv_dig] at h5; obtain ⟨b5, A5, m5, k5, rfl, h5⟩ := h5.op; have y5 := hb5.size; (try simp only [zs] at y5))
   | (go_at_call 70; refine (rnew_any _ (fun _ => False) _ _ _ _ _ _ h5.to j2.to HV.out (by rw [Int.natAbs_neg]; exact HR.out.1) HR.out.2).mono ?_; rintro e u2 ⟨v6, rfl, h6, hb6⟩; rw [sv_dig, sv_dig, HE.out] at h6; obtain ⟨b6, A6, m6, k6, b6', A6', m6', k6', rfl, h6, -, -⟩ := h6.op; have y6 := hb6.size; (try simp only [zs] at y6); obtain ⟨e5, g5, l5⟩ := Loc.all L1 (w' := u2); have l52 : w.heap.size < u2.heap.size := (by omega); (first
    | (have q7 := (made2 w1 (.cells #[.bool b2, .slice A2 m2 c2, .bool b3, .slice A3 m3 c3] 60) #[.bool false, .slice none 0 0, .bool false, .slice none 0 0] 60).all (w' := u2); obtain ⟨e7, g7, l7⟩ := q7; have n7 : w.heap.size + 1 ≠ w1.heap.size + 1 := (by omega); have n8 : w.heap.size ≠ w1.heap.size := by omega)
    | (have q7 := (made1 u1 #[.bool false, .slice none 0 0, .bool false, .slice none 0 0] 60).all (w' := u2); obtain ⟨e7, g7, l7⟩ := q7; have n7 : w.heap.size + 1 ≠ u1.heap.size := by omega)
    | skip)))
 all_goals
  go_wp2_with fail
  refine bodyPost_ret (by simp [results, Tryz.results136, go_sem, *] <;> rfl) rfl ⟨_, rfl, h6.out, bel⟩

/- Of the reference: Mul, Add, Sub, Divide, Compare. -/

theorem den_mul_ne (x y : Rat) : Hid (val (dig (((x.den : Nat) : Int) * ((y.den : Nat) : Int)).natAbs) ≠ 0) := by
 show _ ≠ _
 rw [val_dig, Int.natAbs_mul]
 exact Nat.mul_ne_zero (by have := x.den_nz; omega) (by have := y.den_nz; omega)

set_option maxHeartbeats 4000000 in
theorem rmul_rat (w : World) (X : Nat → Prop) (v1 v2 : Value) (x y : Rat) (h1 : RatL 1000000 w X v1 x) (h2 : RatL 1000000 w X v2 y) :
 Calls Tryz.prog 34 #[v1, v2] w fun e w' => ∃ v', e = .returned v' ∧ RatV w' (Old w) v' (x * y) ∧ Below w.heap.size w w' := by
 have HX := Lib.hid (h1.rsz (by omega))
 have HY := Lib.hid (h2.rsz (by omega))
 have HV := den_mul_ne x y
 have HE : Hid (Rat.divInt (x.num * y.num) ((x.den : Int) * (y.den : Int)) = x * y) := rat_mul x y
 obtain ⟨n1, A, m, c, n2, B, m', d, rfl, h1, -⟩ := h1.op
 obtain ⟨o1, C, p, e, o2, D, p', f, rfl, h2, -⟩ := h2.op
 have L2 := made2 w (.cells #[.bool n1, .slice A m c, .bool n2, .slice B m' d] 60) #[.bool o1, .slice C p e, .bool o2, .slice D p' f] 60
 have L3 := made3 w (.cells #[.bool n1, .slice A m c, .bool n2, .slice B m' d] 60) (.cells #[.bool o1, .slice C p e, .bool o2, .slice D p' f] 60) #[.bool false, .slice none 0 0, .bool false, .slice none 0 0] 60
 go_enter Tryz.func34, Tryz.ntmps34
 go_wp2_with fail
 refine (rclean_rat _ (fun _ => False) _ x (h1.mono (by omega)).to).mono ?_
 rintro e w1 ⟨v3, rfl, h3, hb1⟩
 obtain ⟨b3, A3, m3, c3, b3', A3', m3', c3', rfl, h3, i1, i2⟩ := h3.op
 obtain ⟨z1, z2, z3⟩ := sz3 hb1
 obtain ⟨e2, f2, -⟩ := Loc.all L2 (w' := w1)
 have M1 := made1 w1 #[.bool b3, .slice A3 m3 c3, .bool b3', .slice A3' m3' c3'] 60
 go_wp2_with fail
 refine (rclean_rat _ (fun _ => False) _ y (h2.mono (by omega)).to).mono ?_
 rintro e w2 ⟨v4, rfl, h4, hb2⟩
 obtain ⟨b4, A4, m4, c4, b4', A4', m4', c4', rfl, h4, j1, j2⟩ := h4.op
 have y2 := hb2.size; (try simp only [zs] at y2)
 have M2 := made1 w2 #[.bool b4, .slice A4 m4 c4, .bool b4', .slice A4' m4' c4'] 60
 clear e2 f2
 go_wp2_with fail
 go_region_held3 (fun W => ((W.cell? ⟨w1.heap.size, 0, none⟩ = some (.bool b3) ∧ W.cell? ⟨w1.heap.size, 1, none⟩ = some (.slice A3 m3 c3)) ∧ W.cell? ⟨w1.heap.size, 2, none⟩ = some (.bool b3') ∧ W.cell? ⟨w1.heap.size, 3, none⟩ = some (.slice A3' m3' c3')) ∧ (W.cell? ⟨w2.heap.size, 0, none⟩ = some (.bool b4) ∧ W.cell? ⟨w2.heap.size, 1, none⟩ = some (.slice A4 m4 c4)) ∧ W.cell? ⟨w2.heap.size, 2, none⟩ = some (.bool b4') ∧ W.cell? ⟨w2.heap.size, 3, none⟩ = some (.slice A4' m4' c4'))
  (exact ⟨⟨⟨Loc.c 0 M1, Loc.c 1 M1⟩, Loc.c 2 M1, Loc.c 3 M1⟩, ⟨Loc.c 0 M2, Loc.c 1 M2⟩, Loc.c 2 M2, Loc.c 3 M2⟩)
  (first
   | (go_at_call_of 69 (Value.agg #[Value.bool b3, Value.slice A3 m3 c3]); refine (rmul_any _ (fun _ => False) _ _ _ _ _ _ i1.to j1.to (Nat.le_trans HX.out.1 (by omega)) (Nat.le_trans HY.out.1 (by omega))).mono ?_; rintro e u1 ⟨v5, rfl, k1, hb5⟩; rw [sv_dig, sv_dig] at k1; obtain ⟨b5, A5, m5, c5, rfl, k1⟩ := k1.op; have y5 := hb5.size; (try simp only [zs] at y5))
   | (go_at_call_of 69 (Value.agg #[Value.bool b3', Value.slice A3' m3' c3']); refine (rmul_any _ (fun _ => False) _ _ _ _ _ _ i2.to j2.to (Nat.le_trans HX.out.2 (by omega)) (Nat.le_trans HY.out.2 (by omega))).mono ?_; rintro e u2 ⟨v6, rfl, k2, hb6⟩; rw [sv_dig, sv_dig] at k2; obtain ⟨b6, A6, m6, c6, rfl, k2⟩ := k2.op; have y6 := hb6.size; (try simp only [zs] at y6))
   | (go_at_call 70; refine (rnew_any _ (fun _ => False) _ _ _ _ _ _ k1.to k2.to HV.out (Nat.le_trans (len_mulI HX.out.1 HY.out.1) (by omega)) (Nat.le_trans (len_mulI HX.out.2 HY.out.2) (by omega))).mono ?_; rintro e u3 ⟨v7, rfl, h7, hb7⟩; rw [sv_dig, sv_dig, HE.out] at h7; obtain ⟨b7, A7, m7, c7, b7', A7', m7', c7', rfl, h7, -, -⟩ := h7.op; have y7 := hb7.size; (try simp only [zs] at y7); obtain ⟨e5, g5, l5⟩ := Loc.all L3 (w' := u3); have l51 : w.heap.size + 1 < u3.heap.size := (by omega); have l52 : w.heap.size < u3.heap.size := (by omega); (first
    | (have q7 := (made2 w2 (.cells #[.bool b4, .slice A4 m4 c4, .bool b4', .slice A4' m4' c4'] 60) #[.bool false, .slice none 0 0, .bool false, .slice none 0 0] 60).all (w' := u3); obtain ⟨e7, g7, l7⟩ := q7; have n7 : w.heap.size + 1 + 1 ≠ w2.heap.size + 1 := (by omega); have n8 : w.heap.size + 1 ≠ w2.heap.size := (by omega))
    | (have q7 := (made1 u1 #[.bool false, .slice none 0 0, .bool false, .slice none 0 0] 60).all (w' := u3); obtain ⟨e7, g7, l7⟩ := q7; have n7 : w.heap.size + 1 + 1 ≠ u1.heap.size := (by omega))
    | (have q7 := (made1 u2 #[.bool false, .slice none 0 0, .bool false, .slice none 0 0] 60).all (w' := u3); obtain ⟨e7, g7, l7⟩ := q7; have n7 : w.heap.size + 1 + 1 ≠ u2.heap.size := (by omega))
    | skip)))
 all_goals
  go_wp2_with fail
  refine bodyPost_ret (by simp [results, Tryz.results34, go_sem, *] <;> rfl) rfl ⟨_, rfl, h7.out, bel⟩

/- Of the reference: Add, Sub, Divide, Compare; printed by gen_rat11.py. -/

set_option maxHeartbeats 4000000 in
theorem radd_rat (w : World) (X : Nat → Prop) (v1 v2 : Value) (x y : Rat) (h1 : RatL 1000000 w X v1 x) (h2 : RatL 1000000 w X v2 y) :
 Calls Tryz.prog 33 #[v1, v2] w fun e w' => ∃ v', e = .returned v' ∧ RatV w' (Old w) v' (x + y) ∧ Below w.heap.size w w' := by
 have HX := Lib.hid (h1.rsz (by omega))
 have HY := Lib.hid (h2.rsz (by omega))
 have HV := den_mul_ne x y
 have HE : Hid (Rat.divInt (x.num * (y.den : Int) + y.num * (x.den : Int)) ((x.den : Int) * (y.den : Int)) = x + y) := rat_add x y
 have HA := Lib.hid (len_mulI HX.out.1 HY.out.2)
 have HB := Lib.hid (len_mulI HY.out.1 HX.out.2)
 have HS := Lib.hid (len_addI HA.out (Nat.le_trans HB.out (by omega)))
 obtain ⟨n1, A, m, c, n2, B, m', d, rfl, h1, -⟩ := h1.op
 obtain ⟨o1, C, p, e, o2, D, p', f, rfl, h2, -⟩ := h2.op
 have L1 := made1 w #[.bool n1, .slice A m c, .bool n2, .slice B m' d] 60
 have L2 := made2 w (.cells #[.bool n1, .slice A m c, .bool n2, .slice B m' d] 60) #[.bool o1, .slice C p e, .bool o2, .slice D p' f] 60
 have L3 := made3 w (.cells #[.bool n1, .slice A m c, .bool n2, .slice B m' d] 60) (.cells #[.bool o1, .slice C p e, .bool o2, .slice D p' f] 60) #[.bool false, .slice none 0 0, .bool false, .slice none 0 0] 60
 go_enter Tryz.func33, Tryz.ntmps33
 go_wp2_with fail
 refine (rclean_rat _ (fun _ => False) _ x (h1.mono (by omega)).to).mono ?_
 rintro e w1 ⟨v3, rfl, h3, hb1⟩
 obtain ⟨b3, A3, m3, c3, b3', A3', m3', c3', rfl, h3, i1, i2⟩ := h3.op
 obtain ⟨z1, z2, z3⟩ := sz3 hb1
 obtain ⟨e2, f2, -⟩ := Loc.all L2 (w' := w1)
 have M1 := made1 w1 #[.bool b3, .slice A3 m3 c3, .bool b3', .slice A3' m3' c3'] 60
 go_wp2_with fail
 refine (rclean_rat _ (fun _ => False) _ y (h2.mono (by omega)).to).mono ?_
 rintro e w2 ⟨v4, rfl, h4, hb2⟩
 obtain ⟨b4, A4, m4, c4, b4', A4', m4', c4', rfl, h4, j1, j2⟩ := h4.op
 have y2 := hb2.size; (try simp only [zs] at y2)
 have M2 := made1 w2 #[.bool b4, .slice A4 m4 c4, .bool b4', .slice A4' m4' c4'] 60
 clear e2 f2
 go_upto_region 4 with fail
 go_cut [7] (fun v W => ∃ (g : Nat) (b : Bool) (E : Option Addr) (r s : Nat), v = .pointer (some ⟨g, 0, none⟩) ∧ w2.heap.size < g ∧ Loc W g 58 #[.bool b, .slice E r s] ∧ IntV W (fun b => w.heap.size + 2 = b) (.agg #[.bool b, .slice E r s]) (x.num * (y.den : Int) + y.num * (x.den : Int)) ∧ Below (w2.alloc (.cells #[.bool b4, .slice A4 m4 c4, .bool b4', .slice A4' m4' c4'] 60)).heap.size (w2.alloc (.cells #[.bool b4, .slice A4 m4 c4, .bool b4', .slice A4' m4' c4'] 60)) W)
 case first =>
  go_wp2_with fail
  go_region_held3 (fun W => ((W.cell? ⟨w1.heap.size, 0, none⟩ = some (.bool b3) ∧ W.cell? ⟨w1.heap.size, 1, none⟩ = some (.slice A3 m3 c3)) ∧ W.cell? ⟨w1.heap.size, 2, none⟩ = some (.bool b3') ∧ W.cell? ⟨w1.heap.size, 3, none⟩ = some (.slice A3' m3' c3')) ∧ (W.cell? ⟨w2.heap.size, 0, none⟩ = some (.bool b4) ∧ W.cell? ⟨w2.heap.size, 1, none⟩ = some (.slice A4 m4 c4)) ∧ W.cell? ⟨w2.heap.size, 2, none⟩ = some (.bool b4') ∧ W.cell? ⟨w2.heap.size, 3, none⟩ = some (.slice A4' m4' c4'))
   (exact ⟨⟨⟨Loc.c 0 M1, Loc.c 1 M1⟩, Loc.c 2 M1, Loc.c 3 M1⟩, ⟨Loc.c 0 M2, Loc.c 1 M2⟩, Loc.c 2 M2, Loc.c 3 M2⟩)
   (first
    | (go_at_call_of 69 (Value.agg #[Value.bool b3, Value.slice A3 m3 c3]); refine (rmul_any _ (fun _ => False) _ _ _ _ _ _ i1.to j2.to (Nat.le_trans HX.out.1 (by omega)) (Nat.le_trans HY.out.2 (by omega))).mono ?_; rintro e u1 ⟨v5, rfl, k1, hb5⟩; rw [sv_dig, sv_dig] at k1; obtain ⟨b5, A5, m5, c5, rfl, k1⟩ := k1.op; have y5 := hb5.size; (try simp only [zs] at y5))
    | (go_at_call_of 69 (Value.agg #[Value.bool b4, Value.slice A4 m4 c4]); refine (rmul_any _ (fun _ => False) _ _ _ _ _ _ j1.to i2.to (Nat.le_trans HY.out.1 (by omega)) (Nat.le_trans HX.out.2 (by omega))).mono ?_; rintro e u2 ⟨v6, rfl, k2, hb6⟩; rw [sv_dig, sv_dig] at k2; obtain ⟨b6, A6, m6, c6, rfl, k2⟩ := k2.op; have y6 := hb6.size; (try simp only [zs] at y6))
    | (go_at_call 68; refine (radd_any _ (fun _ => False) _ _ _ _ _ _ k1.to k2.to (Nat.le_trans HA.out (by omega)) (Nat.le_trans HB.out (by omega))).mono ?_; rintro e u3 ⟨v7, rfl, k3, hb7⟩; rw [sv_dig, sv_dig] at k3; obtain ⟨b7, A7, m7, c7, rfl, k3⟩ := k3.op; have y7 := hb7.size; (try simp only [zs] at y7); (first
      | (have q7 := (made2 w2 (.cells #[.bool b4, .slice A4 m4 c4, .bool b4', .slice A4' m4' c4'] 60) #[.bool false, .slice none 0 0] 58).all (w' := u3); have h7 := (made2 w2 (.cells #[.bool b4, .slice A4 m4 c4, .bool b4', .slice A4' m4' c4'] 60) #[.bool false, .slice none 0 0] 58).to (w' := u3); obtain ⟨e7, g7, l7⟩ := q7)
      | (have q7 := (made1 u1 #[.bool false, .slice none 0 0] 58).all (w' := u3); have h7 := (made1 u1 #[.bool false, .slice none 0 0] 58).to (w' := u3); obtain ⟨e7, g7, l7⟩ := q7)
      | (have q7 := (made1 u2 #[.bool false, .slice none 0 0] 58).all (w' := u3); have h7 := (made1 u2 #[.bool false, .slice none 0 0] 58).to (w' := u3); obtain ⟨e7, g7, l7⟩ := q7)
      | skip)))
  all_goals
   go_wp2_with fail
   go_meet
   first
    | (have q := Loc.fill2 (u := .bool b7) (v := .slice A7 m7 c7) h7; refine ⟨_, _, _, _, _, rfl, ?_, q, IntV.out k3, bel⟩; omega)
    | (refine ⟨_, _, _, _, _, rfl, ?_, made1 u3 _ _, IntV.out k3, bel⟩; omega)
 case rest =>
  obtain ⟨g, bg, E, r, s, rfl, hg, M3, k3, hB5⟩ := hcut
  have y8 := hB5.size; (try simp only [zs] at y8)
  have q3 := Loc.lt M3
  go_wp2_with fail
  go_region_held3 (fun W => ((W.cell? ⟨w1.heap.size, 2, none⟩ = some (.bool b3') ∧ W.cell? ⟨w1.heap.size, 3, none⟩ = some (.slice A3' m3' c3')) ∧ (W.cell? ⟨w2.heap.size, 2, none⟩ = some (.bool b4') ∧ W.cell? ⟨w2.heap.size, 3, none⟩ = some (.slice A4' m4' c4'))) ∧ W.cell? ⟨g, 0, none⟩ = some (.bool bg) ∧ W.cell? ⟨g, 1, none⟩ = some (.slice E r s))
   (exact ⟨⟨⟨Loc.c 2 M1, Loc.c 3 M1⟩, Loc.c 2 M2, Loc.c 3 M2⟩, Loc.c 0 M3, Loc.c 1 M3⟩)
   (first
    | (go_at_call_of 69 (Value.agg #[Value.bool b3', Value.slice A3' m3' c3']); refine (rmul_any _ (fun _ => False) _ _ _ _ _ _ i2.to j2.to (Nat.le_trans HX.out.2 (by omega)) (Nat.le_trans HY.out.2 (by omega))).mono ?_; rintro e u1 ⟨v5, rfl, k1, hb5⟩; rw [sv_dig, sv_dig] at k1; obtain ⟨b5, A5, m5, c5, rfl, k1⟩ := k1.op; have y5 := hb5.size; (try simp only [zs] at y5))
    | (go_at_call 70; refine (rnew_any _ (fun _ => False) _ _ _ _ _ _ k3.to k1.to HV.out (Nat.le_trans HS.out (by omega)) (Nat.le_trans (len_mulI HX.out.2 HY.out.2) (by omega))).mono ?_; rintro e u3 ⟨v7, rfl, h8, hb7⟩; rw [sv_dig, sv_dig, HE.out] at h8; obtain ⟨b7, A7, m7, c7, b7', A7', m7', c7', rfl, h8, -, -⟩ := h8.op; have y7 := hb7.size; (try simp only [zs] at y7); obtain ⟨e5, g5, l5⟩ := Loc.all L3 (w' := u3); have l51 : w.heap.size + 1 < u3.heap.size := (by omega); have l52 : w.heap.size < u3.heap.size := (by omega); (first
      | (have q7 := (made1 wc #[.bool false, .slice none 0 0, .bool false, .slice none 0 0] 60).all (w' := u3); have h7 := (made1 wc #[.bool false, .slice none 0 0, .bool false, .slice none 0 0] 60).to (w' := u3); obtain ⟨e7, g7, l7⟩ := q7; have n70 : w.heap.size + 1 + 1 ≠ wc.heap.size := (by omega))
      | (have q7 := (made1 u1 #[.bool false, .slice none 0 0, .bool false, .slice none 0 0] 60).all (w' := u3); have h7 := (made1 u1 #[.bool false, .slice none 0 0, .bool false, .slice none 0 0] 60).to (w' := u3); obtain ⟨e7, g7, l7⟩ := q7; have n70 : w.heap.size + 1 + 1 ≠ u1.heap.size := (by omega))
      | skip)))
  all_goals
   go_wp2_with fail
   refine bodyPost_ret (by simp [results, Tryz.results33, go_sem, *] <;> rfl) rfl ⟨_, rfl, h8.out, bel⟩

/- rational.Sum and the reference's. -/

def RF.val (e : RF) : Rat := rv e.n1 e.xs e.n2 e.ys
theorem RatAt.on {w w' : World} {a : Addr} {e : RF} (h : RatAt w (fun _ => False) a e) (ha : a.block < w.heap.size) (hB : Below w.heap.size w w') : RatAt w' (fun _ => False) a e := by
 obtain ⟨C, c, D, d, h0, h1, h2, h3, hr⟩ := h
 have hk : Keep (fun _ => False) w w' := .of_below hB
 have key : ∀ (n : Nat) (u : Value), w.cell? (a.add n) = some u → w'.cell? (a.add n) = some u := fun n u hu => by
  have e : (a.add n).block = a.block := by unfold Addr.add; split <;> rfl
  have hb := hk.block (a.add n).block (by rw [e]; exact ha) id
  unfold World.cell? at hu ⊢
  rw [hb]; exact hu
 exact ⟨C, c, D, d, key 0 _ h0, key 1 _ h1, key 2 _ h2, key 3 _ h3, hr.keep hk⟩

/- rational.Sum of a list that is read. -/

theorem sum_rsz {k n : Nat} {f : Nat → Rat} (h : ∀ i, i < n → Rsz k (f i)) : ∀ i, i ≤ n → Rsz ((k + 1) * i + 2) (sm i f)
 | 0, _ => (rsz_int (z := 0) (by decide) (by decide)).mono (by omega)
 | i + 1, hi => by
   rw [sm_succ]
   exact ((sum_rsz h i (by omega)).add (h i (by omega))).mono (by rw [Nat.mul_add]; omega)

set_option maxHeartbeats 4000000 in
theorem sumN_any (w : World) (v : Value) (n k0 : Nat) (f : Nat → Rat) (h : Nums k0 w (fun _ => False) v n f) (hn : n ≤ 200) (hk1 : 1 ≤ k0) (hk2 : k0 ≤ 2000) :
 Calls Tryz.prog 88 #[v] w fun e w' => ∃ v', e = .returned v' ∧ RatV w' (Old w) v' (sm n f) ∧ Below w.heap.size w w' := by
 obtain ⟨A, cap, rfl, h, l1, l2⟩ := h.op
 have H := Lib.hid h
 have HALL : Hid (∀ i, i < n → Rsz k0 (f i)) := h.rsz hk1
 have HSZ : Hid (∀ i, i ≤ n → Rsz 900000 (sm i f)) := fun i hi => (sum_rsz HALL.out i hi).mono (by
  have h1 : (k0 + 1) * i ≤ 2001 * 200 := Nat.mul_le_mul (by omega) (by omega)
  omega)
 have L := made1 w #[.bool false, .slice none 0 0, .bool false, .slice none 0 0] 60
 clear h
 go_enter Tryz.func88, Tryz.ntmps88
 go_wp2_with fail
 refine (zero_rat _).mono ?_
 rintro e w1 ⟨v1, rfl, i1, hb1⟩
 obtain ⟨b1, A1, m1, c1, b1', A1', m1', c1', rfl, i1, -, -⟩ := i1.op
 have y1 := hb1.size; (try simp only [zs] at y1)
 have M1 := made1 w1 #[.bool b1, .slice A1 m1 c1, .bool b1', .slice A1' m1' c1'] 60
 go_wp2_with fail
 go_loopw [9] (fun i wr => ∃ (k : Nat) (b : Bool) (A : Option Addr) (m c : Nat) (b' : Bool) (A' : Option Addr) (m' c' : Nat), k ≤ n ∧ i = .int .i64 k ∧
  Loc wr w1.heap.size 60 #[.bool b, .slice A m c, .bool b', .slice A' m' c'] ∧ RatV wr (fun g => g ≤ w.heap.size ∨ g = w1.heap.size) (.agg #[.bool b, .slice A m c, .bool b', .slice A' m' c']) (sm k f) ∧
  Loc wr w.heap.size 60 #[.bool false, .slice none 0 0, .bool false, .slice none 0 0] ∧ Below w.heap.size w wr) (fun i _ => n - (intOf i).toNat)
 case atStart => exact ⟨0, b1, A1, m1, c1, b1', A1', m1', c1', by omega, rfl, M1, RatV.out i1, L.to, bel⟩
 case round =>
  obtain ⟨k, b, A2, m, c, b', A', m', c', hk, rfl, N1, s1, NL, hB⟩ := hrel
  obtain ⟨wo, rfl⟩ : ∃ wo : World, wo = wr := ⟨_, rfl⟩
  clear i1 M1 L
  have y5 := hB.size; (try simp only [zs] at y5)
  have q1 := Loc.lt N1
  have q4 := Loc.lt NL
  by_cases hlt : k < n
  ·obtain ⟨a, n1, C, x1, cc, n2, D, x2, d, rfl, hab, -, g0, g1, g2, g3, r2⟩ := Nums.at (Nums.keep H.out (.of_below hB)) hlt
   replace g1 : wo.cell? ⟨(a.add (k * 4)).block, (a.add (k * 4)).off + 1, none⟩ = _ := g1
   replace g2 : wo.cell? ⟨(a.add (k * 4)).block, (a.add (k * 4)).off + 2, none⟩ = _ := g2
   replace g3 : wo.cell? ⟨(a.add (k * 4)).block, (a.add (k * 4)).off + 3, none⟩ = _ := g3
   have kk0 : (0 : Int) ≤ (k : Int) := by omega
   have kk1 : (k : Int) < (n : Int) := by omega
   have HT : Hid (sm (k + 1) f = sm k f + f k) := rfl
   obtain ⟨e1, f1, -⟩ := Loc.all N1 (w' := wo.alloc (.cells #[.bool n1, .slice C x1 cc, .bool n2, .slice D x2 d] 60))
   have HR := Lib.hid (HSZ.out k (by omega))
   go_wp2_with fail
   refine (add_rat _ (fun _ => False) _ _ (sm k f) (f k) (RatL.to ((s1.len HR.out).mono (by omega))) (RatL.to (r2.mono (by omega)))).mono ?_
   rintro e u1 ⟨v5, rfl, i5, hb5⟩
   rw [← HT.out] at i5
   obtain ⟨b5, A5, m5, c5, b5', A5', m5', c5', rfl, i5, -, -⟩ := i5.op
   have y8 := hb5.size; (try simp only [zs] at y8)
   clear e1 f1
   obtain ⟨e1, f1, -⟩ := Loc.all N1 (w' := u1)
   go_wp2_with fail
   go_roundw
   case rel => exact ⟨k + 1, b5, A5, m5, c5, b5', A5', m5', c5', by omega, by go_num, Loc.fill4 (Loc.to N1 (w' := u1)), RatV.out i5, Loc.to NL, bel⟩
   case measure => simp only [intOf]; omega
  ·obtain rfl : k = n := by omega
   obtain ⟨e1, f1, -⟩ := Loc.all N1 (w' := wo)
   obtain ⟨e4, f4, -⟩ := Loc.all NL (w' := wo)
   go_wp2_with fail
   refine bodyPost_ret (by simp [results, Tryz.results88, go_sem, e4, f4] <;> rfl) rfl ⟨_, rfl, RatV.out s1, bel⟩

/- refinement.stochastic. -/

set_option maxHeartbeats 2000000 in
theorem sto1_any (w : World) (v : Value) (n k : Nat) (f : Nat → Rat) (h : Nums k w (fun _ => False) v n f) (hn : n ≤ 200) (hk1 : 1 ≤ k) (hk2 : k ≤ 2000) :
 Calls Tryz.prog 87 #[v] w fun e w' => Tells (¬ sm n f = 1) e ∧ Below w.heap.size w w' := by
 have H := Lib.hid h
 obtain ⟨A, cp, rfl, h, l1, l2⟩ := h.op
 have HSZ : Hid (Rsz 900000 (sm n f)) := (sum_rsz (h.rsz hk1) n (Nat.le_refl _)).mono (by
  have h1 : (k + 1) * n ≤ 2001 * 200 := Nat.mul_le_mul (by omega) (by omega)
  omega)
 clear h
 obtain ⟨q, hq⟩ : ∃ q, rcmp (sm n f) ((1 : Int) : Rat) = q := ⟨_, rfl⟩
 have HQ := Lib.hid hq
 have HZ : Hid (q = 0 ↔ sm n f = 1) := by show _ ↔ _; rw [← hq]; exact rcmp_zero _ _
 clear hq
 go_enter Tryz.func87, Tryz.ntmps87
 go_wp2_with fail
 refine (sumN_any _ _ n k f (H.out.keep kp) hn hk1 hk2).mono ?_
 rintro e w1 ⟨v1, rfl, i1, hb1⟩
 have y1 := hb1.size; (try simp only [zs] at y1)
 obtain ⟨b1, A1, m1, c1, b1', A1', m1', c1', rfl, i1, -, -⟩ := i1.op
 go_wp2_with fail
 refine (rwhole_any _ 1 (by decide) (by decide)).mono ?_
 rintro e w2 ⟨v2, rfl, i2, hb2⟩
 have y2 := hb2.size; (try simp only [zs] at y2)
 obtain ⟨b2, A2, m2, c2, b2', A2', m2', c2', rfl, i2, -, -⟩ := i2.op
 go_wp2_with fail
 refine (ratcompare_any _ (fun _ => False) _ _ (sm n f) ((1 : Int) : Rat) (RatL.to ((i1.len HSZ.out).mono (by omega))) (RatL.to (i2.len ((rsz_int (z := 1) (by decide) (by decide)).mono (by omega))))).mono ?_
 rintro e w3 ⟨he, hb3⟩
 rw [HQ.out] at he
 subst he
 by_cases h0 : q = 0
 ·have HV : Hid (¬ ¬ sm n f = 1) := fun h => h (HZ.out.1 h0)
  have d1 : (q == 0) = true := beq_iff_eq.2 h0
  have d2 : (q != 0) = false := by simp only [bne, d1]; rfl
  clear HZ h0
  go_wp2_with fail
  go_ret
  exact ⟨Tells.no HV.out, bel⟩
 ·have HV : Hid (¬ sm n f = 1) := fun h => h0 (HZ.out.2 h)
  have d1 : (q == 0) = false := beq_eq_false_iff_ne.2 h0
  have d2 : (q != 0) = true := bne_iff_ne.2 h0
  clear HZ
  go_wp2_with fail
  go_ret
  exact ⟨Tells.yes HV.out, bel⟩
/-- A stochastic matrix. -/
def STO (m : Nat) (N : Nat → Nat) (F : Nat → Nat → Rat) : Prop := MX m N F ∧ ∀ i, i < m → sm (N i) (F i) = 1
set_option maxHeartbeats 2000000 in
theorem stochastic_any (w : World) (v : Value) (m k : Nat) (N : Nat → Nat) (F : Nat → Nat → Rat) (h : Mat k w (fun _ => False) v m N F) (hN : ∀ i, i < m → N i ≤ 200) (hk1 : 1 ≤ k) (hk2 : k ≤ 2000) :
 Calls Tryz.prog 48 #[v] w fun e w' => Tells (STO m N F) e ∧ Below w.heap.size w w' := by
 have H := Lib.hid h
 have HN := Lib.hid hN
 obtain ⟨A, cA, rfl, h, l1, l2⟩ := h.op
 clear h hN
 go_enter Tryz.func48, Tryz.ntmps48
 go_wp2_with fail
 refine (matrix_any _ _ m k N F (H.out.keep kp)).mono ?_
 rintro e w1 ⟨⟨b, rfl, hb⟩, hb1⟩
 have y1 := hb1.size; (try simp only [zs] at y1)
 cases b
 ·have HV : Hid (¬ STO m N F) := fun h => by have := hb.out.2 h.1; cases this
  clear hb
  go_wp2_with fail
  go_ret
  exact ⟨Tells.no HV.out, bel⟩
 have HM : Hid (MX m N F) := hb.out.1 rfl
 clear hb
 go_wp2_with fail
 refine (containsN_any _ 87 #[] (fun n f => ¬ sm n f = 1) _ m k N F (H.out.keep kp) (enters Tryz.func87 (by kernel_rfl) (by kernel_rfl)) (fun n => n ≤ 200) HN.out (show TellsN k _ 87 #[] (fun n f => ¬ sm n f = 1) (fun n => n ≤ 200) from fun W v n f _ hn hv => sto1_any W v n k f hv hn hk1 hk2)).mono ?_
 rintro e w2 ⟨⟨b, rfl, hb⟩, hb2⟩
 cases b
 ·have HV : Hid (STO m N F) := ⟨HM.out, fun i hi => Classical.not_not.1 (fun hne => by have := hb.out.2 ⟨i, hi, hne⟩; cases this)⟩
  clear hb
  go_wp2_with fail
  go_ret
  exact ⟨Tells.yes HV.out, bel⟩
 ·have HV : Hid (¬ STO m N F) := fun h => by
   obtain ⟨i, hi, hne⟩ := hb.out.1 rfl
   exact hne (h.2 i hi)
  clear hb
  go_wp2_with fail
  go_ret
  exact ⟨Tells.no HV.out, bel⟩
end Go.Proofs.YtdambnieminnfaaGreat

