/- Contracts of the functions that the statements reach, part 15. -/
import Derived.Test.YtdambnieminnfaaGreatRows
import Derived.Test.YtdambnieminnfaaGreatZ14
set_option linter.unusedSimpArgs false
set_option linter.unusedVariables false

/- Add, Mul, Divide, Compare of rational; printed by gen_rat5.py. -/
namespace Go.Proofs.YtdambnieminnfaaGreat
open Go.RowKit
attribute [local go_sem ↓] Go.wp_at_zero Go.wp_at_succ

set_option maxHeartbeats 4000000 in
theorem mul_rat (w : World) (X : Nat → Prop) (v1 v2 : Value) (x y : Rat) (h1 : RatL 10000000 w X v1 x) (h2 : RatL 10000000 w X v2 y) :
 Calls Tryz.prog 51 #[v1, v2] w fun e w' => ∃ v', e = .returned v' ∧ RatV w' (Old w) v' (x * y) ∧ Below w.heap.size w w' := by
 have HX := Lib.hid (h1.rsz (by omega))
 have HY := Lib.hid (h2.rsz (by omega))
 obtain ⟨n1, A, m, c, n2, B, m', d, rfl, h1, -⟩ := h1.op
 obtain ⟨o1, C, p, e, o2, D, p', f, rfl, h2, -⟩ := h2.op
 go_enter Tryz.func51, Tryz.ntmps51
 go_upto_region 2 with fail
 go_cut [0] (fun _ W => ∃ (n1 : Bool) (A : Option Addr) (m c : Nat) (n2 : Bool) (B : Option Addr) (m' d : Nat) (o1 : Bool) (C : Option Addr) (p e : Nat) (o2 : Bool) (D : Option Addr) (p' f : Nat),
  Loc W w.heap.size 60 #[.bool n1, .slice A m c, .bool n2, .slice B m' d] ∧ Loc W (w.heap.size + 1) 60 #[.bool o1, .slice C p e, .bool o2, .slice D p' f] ∧ Loc W (w.heap.size + 1 + 1) 60 #[.bool false, .slice none 0 0, .bool false, .slice none 0 0] ∧
  RatV W (fun b => w.heap.size ≤ b ∧ b < w.heap.size + 3) (.agg #[.bool n1, .slice A m c, .bool n2, .slice B m' d]) x ∧ RatV W (fun b => w.heap.size ≤ b ∧ b < w.heap.size + 3) (.agg #[.bool o1, .slice C p e, .bool o2, .slice D p' f]) y ∧ Below w.heap.size w W)
 case first =>
  have N1 := made1 w #[.bool n1, .slice A m c, .bool n2, .slice B m' d] 60
  have N2 := made2 w (.cells #[.bool n1, .slice A m c, .bool n2, .slice B m' d] 60) #[.bool o1, .slice C p e, .bool o2, .slice D p' f] 60
  go_wp2_with fail
  obtain ⟨c5, f5, -⟩ := N1.all (w' := (((w.alloc (.cells #[.bool n1, .slice A m c, .bool n2, .slice B m' d] 60)).alloc (.cells #[.bool o1, .slice C p e, .bool o2, .slice D p' f] 60)).alloc (.cells #[.bool false, .slice none 0 0, .bool false, .slice none 0 0] 60)).drew)
  obtain ⟨c6, f6, -⟩ := N2.all (w' := (((w.alloc (.cells #[.bool n1, .slice A m c, .bool n2, .slice B m' d] 60)).alloc (.cells #[.bool o1, .slice C p e, .bool o2, .slice D p' f] 60)).alloc (.cells #[.bool false, .slice none 0 0, .bool false, .slice none 0 0] 60)).drew)
  go_region_with (first
   | (go_at_call_of 90 (Value.agg #[Value.bool n1, Value.slice A m c, Value.bool n2, Value.slice B m' d]); refine (clean_rat _ (fun _ => False) _ x (h1.mono (by omega)).to).mono ?_; rintro e u1 ⟨v5, rfl, h5, hb5⟩; obtain ⟨b5, A5, m5, k5, b5', A5', m5', k5', rfl, h5, -, -⟩ := h5.op; have y5 := hb5.size; (try simp only [zs] at y5); obtain ⟨c6, f6, -⟩ := N2.all (w' := u1))
   | (go_at_call_of 90 (Value.agg #[Value.bool o1, Value.slice C p e, Value.bool o2, Value.slice D p' f]); refine (clean_rat _ (fun _ => False) _ y (h2.mono (by omega)).to).mono ?_; rintro e u2 ⟨v6, rfl, h6, hb6⟩; obtain ⟨b6, A6, m6, k6, b6', A6', m6', k6', rfl, h6, -, -⟩ := h6.op; have y6 := hb6.size; (try simp only [zs] at y6); obtain ⟨c7, f7, -⟩ := N1.all (w' := u2); obtain ⟨c8, f8, -⟩ := N2.all (w' := u2)))
  all_goals
   go_wp2_with fail
   go_meet
   have L1 := N1.to (w' := u2)
   have L2 := N2.to (w' := u2)
   have e12 : w.heap.size ≠ w.heap.size + 1 := by omega
   have e21 : w.heap.size + 1 ≠ w.heap.size := by omega
   exact ⟨_, _, _, _, _, _, _, _, _, _, _, _, _, _, _, _, (by first | with_reducible exact Loc.two4_first e12 L1 | with_reducible exact Loc.two4_last e12 L1), (by first | with_reducible exact Loc.two4_first e21 L2 | with_reducible exact Loc.two4_last e21 L2), (made3 w _ _ _ _).to, RatV.out h5, RatV.out h6, bel⟩
 case rest =>
  clear h1 h2
  obtain ⟨n1, A, m, c, n2, B, m', d, o1, C, p, e, o2, D, p', f, L1, L2, L3, h1, h2, hB⟩ := hcut
  obtain ⟨_, _, _, _, _, _, _, _, e1, h1, i1, i2⟩ := h1.op
  simp only [Value.agg.injEq, Array.mk.injEq, List.cons.injEq, Value.bool.injEq, Value.slice.injEq, and_true] at e1
  obtain ⟨rfl, ⟨rfl, rfl, rfl⟩, rfl, ⟨rfl, rfl, rfl⟩⟩ := e1
  obtain ⟨_, _, _, _, _, _, _, _, e1, h2, j1, j2⟩ := h2.op
  simp only [Value.agg.injEq, Array.mk.injEq, List.cons.injEq, Value.bool.injEq, Value.slice.injEq, and_true] at e1
  obtain ⟨rfl, ⟨rfl, rfl, rfl⟩, rfl, ⟨rfl, rfl, rfl⟩⟩ := e1
  have z1 := L1.lt
  have z2 := L2.lt
  have z3 := L3.lt
  go_wp2_with fail
  have HN := Lib.hid (len_mulI HX.out.1 HY.out.1)
  have HD := Lib.hid (len_mulI HX.out.2 HY.out.2)
  go_region_held3 (fun W => ((W.cell? ⟨w.heap.size, 0, none⟩ = some (.bool n1) ∧ W.cell? ⟨w.heap.size, 1, none⟩ = some (.slice A m c)) ∧ W.cell? ⟨w.heap.size, 2, none⟩ = some (.bool n2) ∧ W.cell? ⟨w.heap.size, 3, none⟩ = some (.slice B m' d)) ∧ (W.cell? ⟨w.heap.size + 1, 0, none⟩ = some (.bool o1) ∧ W.cell? ⟨w.heap.size + 1, 1, none⟩ = some (.slice C p e)) ∧ W.cell? ⟨w.heap.size + 1, 2, none⟩ = some (.bool o2) ∧ W.cell? ⟨w.heap.size + 1, 3, none⟩ = some (.slice D p' f))
   (exact ⟨⟨⟨Loc.c 0 L1, Loc.c 1 L1⟩, Loc.c 2 L1, Loc.c 3 L1⟩, ⟨Loc.c 0 L2, Loc.c 1 L2⟩, Loc.c 2 L2, Loc.c 3 L2⟩)
   (first
    | (go_at_call_of 92 (Value.agg #[Value.bool n1, Value.slice A m c]); refine (mul_any _ (fun _ => False) _ _ _ _ _ _ i1.to j1.to (Nat.le_trans HX.out.1 (by omega)) (Nat.le_trans HY.out.1 (by omega))).mono ?_; rintro e u1 ⟨w1, rfl, k1, hb1⟩; rw [sv_dig, sv_dig] at k1; obtain ⟨bw1, Aw1, mw1, kw1, rfl, k1⟩ := k1.op; have yu1 := hb1.size; (try simp only [zs] at yu1))
    | (go_at_call_of 92 (Value.agg #[Value.bool n2, Value.slice B m' d]); refine (mul_any _ (fun _ => False) _ _ _ _ _ _ i2.to j2.to (Nat.le_trans HX.out.2 (by omega)) (Nat.le_trans HY.out.2 (by omega))).mono ?_; rintro e u2 ⟨w2, rfl, k2, hb2⟩; rw [sv_dig, sv_dig] at k2; obtain ⟨bw2, Aw2, mw2, kw2, rfl, k2⟩ := k2.op; have yu2 := hb2.size; (try simp only [zs] at yu2))
    | (go_at_call 90; refine (clean_rat _ (fun _ => False) _ (x * y) ⟨_, _, _, _, (ratR_of k1.to k2.to), Nat.le_trans HN.out (by omega), Nat.le_trans HD.out (by omega), by unfold rv; rw [sv_dig, sv_dig]; exact rat_mul x y⟩).mono ?_; rintro e u3 ⟨v6, rfl, h6, hb6⟩; obtain ⟨b6, A6, m6, k6, b6', A6', m6', k6', rfl, h6, -, -⟩ := h6.op; have y6 := hb6.size; (try simp only [zs] at y6); obtain ⟨e5, g5, -⟩ := Loc.all L3 (w' := u3)))
  all_goals
   go_wp2_with fail
   refine bodyPost_ret (by simp [results, Tryz.results51, go_sem, e5, g5] <;> rfl) rfl ⟨_, rfl, h6.out, bel⟩

set_option maxHeartbeats 4000000 in
theorem ratdivide_any (w : World) (X : Nat → Prop) (v1 v2 : Value) (x y : Rat) (h1 : RatL 10000000 w X v1 x) (h2 : RatL 10000000 w X v2 y) (hy : y ≠ 0) :
 Calls Tryz.prog 167 #[v1, v2] w fun e w' => ∃ v', e = .returned (.tuple #[v', .int .i64 0]) ∧ RatV w' (Old w) v' (x / y) ∧ Below w.heap.size w w' := by
 have HX := Lib.hid (h1.rsz (by omega))
 have HY := Lib.hid (h2.rsz (by omega))
 obtain ⟨n1, A, m, c, n2, B, m', d, rfl, h1, -⟩ := h1.op
 obtain ⟨o1, C, p, e, o2, D, p', f, rfl, h2, -⟩ := h2.op
 go_enter Tryz.func167, Tryz.ntmps167
 go_upto_region 2 with fail
 go_cut [0] (fun _ W => ∃ (n1 : Bool) (A : Option Addr) (m c : Nat) (n2 : Bool) (B : Option Addr) (m' d : Nat) (o1 : Bool) (C : Option Addr) (p e : Nat) (o2 : Bool) (D : Option Addr) (p' f : Nat),
  Loc W w.heap.size 60 #[.bool n1, .slice A m c, .bool n2, .slice B m' d] ∧ Loc W (w.heap.size + 1) 60 #[.bool o1, .slice C p e, .bool o2, .slice D p' f] ∧ Loc W (w.heap.size + 1 + 1) 60 #[.bool false, .slice none 0 0, .bool false, .slice none 0 0] ∧
  RatV W (fun b => w.heap.size ≤ b ∧ b < w.heap.size + 3) (.agg #[.bool n1, .slice A m c, .bool n2, .slice B m' d]) x ∧ RatV W (fun b => w.heap.size ≤ b ∧ b < w.heap.size + 3) (.agg #[.bool o1, .slice C p e, .bool o2, .slice D p' f]) y ∧ Below w.heap.size w W)
 case first =>
  have N1 := made1 w #[.bool n1, .slice A m c, .bool n2, .slice B m' d] 60
  have N2 := made2 w (.cells #[.bool n1, .slice A m c, .bool n2, .slice B m' d] 60) #[.bool o1, .slice C p e, .bool o2, .slice D p' f] 60
  go_wp2_with fail
  obtain ⟨c5, f5, -⟩ := N1.all (w' := (((w.alloc (.cells #[.bool n1, .slice A m c, .bool n2, .slice B m' d] 60)).alloc (.cells #[.bool o1, .slice C p e, .bool o2, .slice D p' f] 60)).alloc (.cells #[.bool false, .slice none 0 0, .bool false, .slice none 0 0] 60)).drew)
  obtain ⟨c6, f6, -⟩ := N2.all (w' := (((w.alloc (.cells #[.bool n1, .slice A m c, .bool n2, .slice B m' d] 60)).alloc (.cells #[.bool o1, .slice C p e, .bool o2, .slice D p' f] 60)).alloc (.cells #[.bool false, .slice none 0 0, .bool false, .slice none 0 0] 60)).drew)
  go_region_with (first
   | (go_at_call_of 90 (Value.agg #[Value.bool n1, Value.slice A m c, Value.bool n2, Value.slice B m' d]); refine (clean_rat _ (fun _ => False) _ x (h1.mono (by omega)).to).mono ?_; rintro e u1 ⟨v5, rfl, h5, hb5⟩; obtain ⟨b5, A5, m5, k5, b5', A5', m5', k5', rfl, h5, -, -⟩ := h5.op; have y5 := hb5.size; (try simp only [zs] at y5); obtain ⟨c6, f6, -⟩ := N2.all (w' := u1))
   | (go_at_call_of 90 (Value.agg #[Value.bool o1, Value.slice C p e, Value.bool o2, Value.slice D p' f]); refine (clean_rat _ (fun _ => False) _ y (h2.mono (by omega)).to).mono ?_; rintro e u2 ⟨v6, rfl, h6, hb6⟩; obtain ⟨b6, A6, m6, k6, b6', A6', m6', k6', rfl, h6, -, -⟩ := h6.op; have y6 := hb6.size; (try simp only [zs] at y6); obtain ⟨c7, f7, -⟩ := N1.all (w' := u2); obtain ⟨c8, f8, -⟩ := N2.all (w' := u2)))
  all_goals
   go_wp2_with fail
   go_meet
   have L1 := N1.to (w' := u2)
   have L2 := N2.to (w' := u2)
   have e12 : w.heap.size ≠ w.heap.size + 1 := by omega
   have e21 : w.heap.size + 1 ≠ w.heap.size := by omega
   exact ⟨_, _, _, _, _, _, _, _, _, _, _, _, _, _, _, _, (by first | with_reducible exact Loc.two4_first e12 L1 | with_reducible exact Loc.two4_last e12 L1), (by first | with_reducible exact Loc.two4_first e21 L2 | with_reducible exact Loc.two4_last e21 L2), (made3 w _ _ _ _).to, RatV.out h5, RatV.out h6, bel⟩
 case rest =>
  clear h1 h2
  obtain ⟨n1, A, m, c, n2, B, m', d, o1, C, p, e, o2, D, p', f, L1, L2, L3, h1, h2, hB⟩ := hcut
  obtain ⟨_, _, _, _, _, _, _, _, e1, h1, i1, i2⟩ := h1.op
  simp only [Value.agg.injEq, Array.mk.injEq, List.cons.injEq, Value.bool.injEq, Value.slice.injEq, and_true] at e1
  obtain ⟨rfl, ⟨rfl, rfl, rfl⟩, rfl, ⟨rfl, rfl, rfl⟩⟩ := e1
  obtain ⟨_, _, _, _, _, _, _, _, e1, h2, j1, j2⟩ := h2.op
  simp only [Value.agg.injEq, Array.mk.injEq, List.cons.injEq, Value.bool.injEq, Value.slice.injEq, and_true] at e1
  obtain ⟨rfl, ⟨rfl, rfl, rfl⟩, rfl, ⟨rfl, rfl, rfl⟩⟩ := e1
  have z1 := L1.lt
  have z2 := L2.lt
  have z3 := L3.lt
  go_wp2_with fail
  have HV : Hid (val (dig (((x.den : Nat) : Int) * y.num).natAbs) ≠ 0) := by
   show _ ≠ _
   rw [val_dig, Int.natAbs_mul]
   have h1 := x.den_nz
   have h2 : y.num ≠ 0 := fun h => hy (Rat.num_eq_zero.1 h)
   exact Nat.mul_ne_zero (by omega) (by omega)
  clear hy
  have HN := Lib.hid (len_mulI HX.out.1 HY.out.2)
  have HD := Lib.hid (len_mulI HX.out.2 HY.out.1)
  go_region_held3 (fun W => ((W.cell? ⟨w.heap.size, 0, none⟩ = some (.bool n1) ∧ W.cell? ⟨w.heap.size, 1, none⟩ = some (.slice A m c)) ∧ W.cell? ⟨w.heap.size, 2, none⟩ = some (.bool n2) ∧ W.cell? ⟨w.heap.size, 3, none⟩ = some (.slice B m' d)) ∧ (W.cell? ⟨w.heap.size + 1, 0, none⟩ = some (.bool o1) ∧ W.cell? ⟨w.heap.size + 1, 1, none⟩ = some (.slice C p e)) ∧ W.cell? ⟨w.heap.size + 1, 2, none⟩ = some (.bool o2) ∧ W.cell? ⟨w.heap.size + 1, 3, none⟩ = some (.slice D p' f))
   (exact ⟨⟨⟨Loc.c 0 L1, Loc.c 1 L1⟩, Loc.c 2 L1, Loc.c 3 L1⟩, ⟨Loc.c 0 L2, Loc.c 1 L2⟩, Loc.c 2 L2, Loc.c 3 L2⟩)
   (first
    | (go_at_call_of 92 (Value.agg #[Value.bool n1, Value.slice A m c]); refine (mul_any _ (fun _ => False) _ _ _ _ _ _ i1.to j2.to (Nat.le_trans HX.out.1 (by omega)) (Nat.le_trans HY.out.2 (by omega))).mono ?_; rintro e u1 ⟨w1, rfl, k1, hb1⟩; rw [sv_dig, sv_dig] at k1; obtain ⟨bw1, Aw1, mw1, kw1, rfl, k1⟩ := k1.op; have yu1 := hb1.size; (try simp only [zs] at yu1))
    | (go_at_call_of 92 (Value.agg #[Value.bool n2, Value.slice B m' d]); refine (mul_any _ (fun _ => False) _ _ _ _ _ _ i2.to j1.to (Nat.le_trans HX.out.2 (by omega)) (Nat.le_trans HY.out.1 (by omega))).mono ?_; rintro e u2 ⟨w2, rfl, k2, hb2⟩; rw [sv_dig, sv_dig] at k2; obtain ⟨bw2, Aw2, mw2, kw2, rfl, k2⟩ := k2.op; have yu2 := hb2.size; (try simp only [zs] at yu2))
    | (go_at_call 127; refine (new_any _ (fun _ => False) _ _ _ _ _ _ k1.to k2.to HV.out (Nat.le_trans HN.out (by omega)) (Nat.le_trans HD.out (by omega))).mono ?_; rintro e u3 ⟨v6, rfl, h6, hb6⟩; rw [sv_dig, sv_dig, rat_div] at h6; obtain ⟨b6, A6, m6, k6, b6', A6', m6', k6', rfl, h6, -, -⟩ := h6.op; have y6 := hb6.size; (try simp only [zs] at y6); obtain ⟨e5, g5, -⟩ := Loc.all L3 (w' := u3)))
  all_goals
   go_wp2_with fail
   refine bodyPost_ret (by simp [results, Tryz.results167, go_sem, e5, g5] <;> rfl) rfl ⟨_, rfl, h6.out, bel⟩

set_option maxHeartbeats 4000000 in
theorem ratcompare_any (w : World) (X : Nat → Prop) (v1 v2 : Value) (x y : Rat) (h1 : RatL 10000000 w X v1 x) (h2 : RatL 10000000 w X v2 y) :
 Calls Tryz.prog 53 #[v1, v2] w fun e w' => e = .returned (.int .i64 (rcmp x y)) ∧ Below w.heap.size w w' := by
 have HX := Lib.hid (h1.rsz (by omega))
 have HY := Lib.hid (h2.rsz (by omega))
 obtain ⟨n1, A, m, c, n2, B, m', d, rfl, h1, -⟩ := h1.op
 obtain ⟨o1, C, p, e, o2, D, p', f, rfl, h2, -⟩ := h2.op
 go_enter Tryz.func53, Tryz.ntmps53
 go_upto_region 2 with fail
 go_cut [0] (fun _ W => ∃ (n1 : Bool) (A : Option Addr) (m c : Nat) (n2 : Bool) (B : Option Addr) (m' d : Nat) (o1 : Bool) (C : Option Addr) (p e : Nat) (o2 : Bool) (D : Option Addr) (p' f : Nat),
  Loc W w.heap.size 60 #[.bool n1, .slice A m c, .bool n2, .slice B m' d] ∧ Loc W (w.heap.size + 1) 60 #[.bool o1, .slice C p e, .bool o2, .slice D p' f] ∧
  RatV W (fun b => w.heap.size ≤ b ∧ b < w.heap.size + 2) (.agg #[.bool n1, .slice A m c, .bool n2, .slice B m' d]) x ∧ RatV W (fun b => w.heap.size ≤ b ∧ b < w.heap.size + 2) (.agg #[.bool o1, .slice C p e, .bool o2, .slice D p' f]) y ∧ Below w.heap.size w W)
 case first =>
  have N1 := made1 w #[.bool n1, .slice A m c, .bool n2, .slice B m' d] 60
  have N2 := made2 w (.cells #[.bool n1, .slice A m c, .bool n2, .slice B m' d] 60) #[.bool o1, .slice C p e, .bool o2, .slice D p' f] 60
  go_wp2_with fail
  obtain ⟨c5, f5, -⟩ := N1.all (w' := ((w.alloc (.cells #[.bool n1, .slice A m c, .bool n2, .slice B m' d] 60)).alloc (.cells #[.bool o1, .slice C p e, .bool o2, .slice D p' f] 60)).drew)
  obtain ⟨c6, f6, -⟩ := N2.all (w' := ((w.alloc (.cells #[.bool n1, .slice A m c, .bool n2, .slice B m' d] 60)).alloc (.cells #[.bool o1, .slice C p e, .bool o2, .slice D p' f] 60)).drew)
  go_region_with (first
   | (go_at_call_of 90 (Value.agg #[Value.bool n1, Value.slice A m c, Value.bool n2, Value.slice B m' d]); refine (clean_rat _ (fun _ => False) _ x (h1.mono (by omega)).to).mono ?_; rintro e u1 ⟨v5, rfl, h5, hb5⟩; obtain ⟨b5, A5, m5, k5, b5', A5', m5', k5', rfl, h5, -, -⟩ := h5.op; have y5 := hb5.size; (try simp only [zs] at y5); obtain ⟨c6, f6, -⟩ := N2.all (w' := u1))
   | (go_at_call_of 90 (Value.agg #[Value.bool o1, Value.slice C p e, Value.bool o2, Value.slice D p' f]); refine (clean_rat _ (fun _ => False) _ y (h2.mono (by omega)).to).mono ?_; rintro e u2 ⟨v6, rfl, h6, hb6⟩; obtain ⟨b6, A6, m6, k6, b6', A6', m6', k6', rfl, h6, -, -⟩ := h6.op; have y6 := hb6.size; (try simp only [zs] at y6); obtain ⟨c7, f7, -⟩ := N1.all (w' := u2); obtain ⟨c8, f8, -⟩ := N2.all (w' := u2)))
  all_goals
   go_wp2_with fail
   go_meet
   have L1 := N1.to (w' := u2)
   have L2 := N2.to (w' := u2)
   have e12 : w.heap.size ≠ w.heap.size + 1 := by omega
   have e21 : w.heap.size + 1 ≠ w.heap.size := by omega
   exact ⟨_, _, _, _, _, _, _, _, _, _, _, _, _, _, _, _, (by first | with_reducible exact Loc.two4_first e12 L1 | with_reducible exact Loc.two4_last e12 L1), (by first | with_reducible exact Loc.two4_first e21 L2 | with_reducible exact Loc.two4_last e21 L2), RatV.out h5, RatV.out h6, bel⟩
 case rest =>
  clear h1 h2
  obtain ⟨n1, A, m, c, n2, B, m', d, o1, C, p, e, o2, D, p', f, L1, L2, h1, h2, hB⟩ := hcut
  obtain ⟨_, _, _, _, _, _, _, _, e1, h1, i1, i2⟩ := h1.op
  simp only [Value.agg.injEq, Array.mk.injEq, List.cons.injEq, Value.bool.injEq, Value.slice.injEq, and_true] at e1
  obtain ⟨rfl, ⟨rfl, rfl, rfl⟩, rfl, ⟨rfl, rfl, rfl⟩⟩ := e1
  obtain ⟨_, _, _, _, _, _, _, _, e1, h2, j1, j2⟩ := h2.op
  simp only [Value.agg.injEq, Array.mk.injEq, List.cons.injEq, Value.bool.injEq, Value.slice.injEq, and_true] at e1
  obtain ⟨rfl, ⟨rfl, rfl, rfl⟩, rfl, ⟨rfl, rfl, rfl⟩⟩ := e1
  have z1 := L1.lt
  have z2 := L2.lt

  go_wp2_with fail
  have HC : Hid ((x.num * (y.den : Int) - y.num * (x.den : Int)).sign = rcmp x y) := rat_cmp x y
  go_region_held3 (fun W => ((W.cell? ⟨w.heap.size, 0, none⟩ = some (.bool n1) ∧ W.cell? ⟨w.heap.size, 1, none⟩ = some (.slice A m c)) ∧ W.cell? ⟨w.heap.size, 2, none⟩ = some (.bool n2) ∧ W.cell? ⟨w.heap.size, 3, none⟩ = some (.slice B m' d)) ∧ (W.cell? ⟨w.heap.size + 1, 0, none⟩ = some (.bool o1) ∧ W.cell? ⟨w.heap.size + 1, 1, none⟩ = some (.slice C p e)) ∧ W.cell? ⟨w.heap.size + 1, 2, none⟩ = some (.bool o2) ∧ W.cell? ⟨w.heap.size + 1, 3, none⟩ = some (.slice D p' f))
   (exact ⟨⟨⟨Loc.c 0 L1, Loc.c 1 L1⟩, Loc.c 2 L1, Loc.c 3 L1⟩, ⟨Loc.c 0 L2, Loc.c 1 L2⟩, Loc.c 2 L2, Loc.c 3 L2⟩)
   (first
    | (go_at_call_of 92 (Value.agg #[Value.bool n1, Value.slice A m c]); refine (mul_any _ (fun _ => False) _ _ _ _ _ _ i1.to j2.to (Nat.le_trans HX.out.1 (by omega)) (Nat.le_trans HY.out.2 (by omega))).mono ?_; rintro e u1 ⟨w1, rfl, k1, hb1⟩; rw [sv_dig, sv_dig] at k1; obtain ⟨bw1, Aw1, mw1, kw1, rfl, k1⟩ := k1.op; have yu1 := hb1.size; (try simp only [zs] at yu1))
    | (go_at_call_of 92 (Value.agg #[Value.bool o1, Value.slice C p e]); refine (mul_any _ (fun _ => False) _ _ _ _ _ _ j1.to i2.to (Nat.le_trans HY.out.1 (by omega)) (Nat.le_trans HX.out.2 (by omega))).mono ?_; rintro e u2 ⟨w2, rfl, k2, hb2⟩; rw [sv_dig, sv_dig] at k2; obtain ⟨bw2, Aw2, mw2, kw2, rfl, k2⟩ := k2.op; have yu2 := hb2.size; (try simp only [zs] at yu2))
    | (go_at_call 94; refine (icompare_any _ (fun _ => False) _ _ _ _ _ _ k1.to k2.to).mono ?_; rintro e u3 ⟨he, hb6⟩; rw [sv_dig, sv_dig, HC.out] at he; subst he; have y6 := hb6.size; (try simp only [zs] at y6)))
  all_goals
   go_wp2_with fail
   go_ret
   exact ⟨rfl, bel⟩

/- Add of rational; printed by gen_rat5.py. -/

set_option maxHeartbeats 4000000 in
theorem add_rat (w : World) (X : Nat → Prop) (v1 v2 : Value) (x y : Rat) (h1 : RatL 10000000 w X v1 x) (h2 : RatL 10000000 w X v2 y) :
 Calls Tryz.prog 50 #[v1, v2] w fun e w' => ∃ v', e = .returned v' ∧ RatV w' (Old w) v' (x + y) ∧ Below w.heap.size w w' := by
 have HX := Lib.hid (h1.rsz (by omega))
 have HY := Lib.hid (h2.rsz (by omega))
 obtain ⟨n1, A, m, c, n2, B, m', d, rfl, h1, -⟩ := h1.op
 obtain ⟨o1, C, p, e, o2, D, p', f, rfl, h2, -⟩ := h2.op
 go_enter Tryz.func50, Tryz.ntmps50
 go_upto_region 2 with fail
 go_cut [0] (fun _ W => ∃ (n1 : Bool) (A : Option Addr) (m c : Nat) (n2 : Bool) (B : Option Addr) (m' d : Nat) (o1 : Bool) (C : Option Addr) (p e : Nat) (o2 : Bool) (D : Option Addr) (p' f : Nat),
  Loc W w.heap.size 60 #[.bool n1, .slice A m c, .bool n2, .slice B m' d] ∧ Loc W (w.heap.size + 1) 60 #[.bool o1, .slice C p e, .bool o2, .slice D p' f] ∧ Loc W (w.heap.size + 1 + 1) 60 #[.bool false, .slice none 0 0, .bool false, .slice none 0 0] ∧
  RatV W (fun b => w.heap.size ≤ b ∧ b < w.heap.size + 3) (.agg #[.bool n1, .slice A m c, .bool n2, .slice B m' d]) x ∧ RatV W (fun b => w.heap.size ≤ b ∧ b < w.heap.size + 3) (.agg #[.bool o1, .slice C p e, .bool o2, .slice D p' f]) y ∧ Below w.heap.size w W)
 case first =>
  have N1 := made1 w #[.bool n1, .slice A m c, .bool n2, .slice B m' d] 60
  have N2 := made2 w (.cells #[.bool n1, .slice A m c, .bool n2, .slice B m' d] 60) #[.bool o1, .slice C p e, .bool o2, .slice D p' f] 60
  go_wp2_with fail
  obtain ⟨c5, f5, -⟩ := N1.all (w' := (((w.alloc (.cells #[.bool n1, .slice A m c, .bool n2, .slice B m' d] 60)).alloc (.cells #[.bool o1, .slice C p e, .bool o2, .slice D p' f] 60)).alloc (.cells #[.bool false, .slice none 0 0, .bool false, .slice none 0 0] 60)).drew)
  obtain ⟨c6, f6, -⟩ := N2.all (w' := (((w.alloc (.cells #[.bool n1, .slice A m c, .bool n2, .slice B m' d] 60)).alloc (.cells #[.bool o1, .slice C p e, .bool o2, .slice D p' f] 60)).alloc (.cells #[.bool false, .slice none 0 0, .bool false, .slice none 0 0] 60)).drew)
  go_region_with (first
   | (go_at_call_of 90 (Value.agg #[Value.bool n1, Value.slice A m c, Value.bool n2, Value.slice B m' d]); refine (clean_rat _ (fun _ => False) _ x (h1.mono (by omega)).to).mono ?_; rintro e u1 ⟨v5, rfl, h5, hb5⟩; obtain ⟨b5, A5, m5, k5, b5', A5', m5', k5', rfl, h5, -, -⟩ := h5.op; have y5 := hb5.size; (try simp only [zs] at y5); obtain ⟨c6, f6, -⟩ := N2.all (w' := u1))
   | (go_at_call_of 90 (Value.agg #[Value.bool o1, Value.slice C p e, Value.bool o2, Value.slice D p' f]); refine (clean_rat _ (fun _ => False) _ y (h2.mono (by omega)).to).mono ?_; rintro e u2 ⟨v6, rfl, h6, hb6⟩; obtain ⟨b6, A6, m6, k6, b6', A6', m6', k6', rfl, h6, -, -⟩ := h6.op; have y6 := hb6.size; (try simp only [zs] at y6); obtain ⟨c7, f7, -⟩ := N1.all (w' := u2); obtain ⟨c8, f8, -⟩ := N2.all (w' := u2)))
  all_goals
   go_wp2_with fail
   go_meet
   have L1 := N1.to (w' := u2)
   have L2 := N2.to (w' := u2)
   have e12 : w.heap.size ≠ w.heap.size + 1 := by omega
   have e21 : w.heap.size + 1 ≠ w.heap.size := by omega
   exact ⟨_, _, _, _, _, _, _, _, _, _, _, _, _, _, _, _, (by first | with_reducible exact Loc.two4_first e12 L1 | with_reducible exact Loc.two4_last e12 L1), (by first | with_reducible exact Loc.two4_first e21 L2 | with_reducible exact Loc.two4_last e21 L2), (made3 w _ _ _ _).to, RatV.out h5, RatV.out h6, bel⟩
 case rest =>
  clear h1 h2
  obtain ⟨n1, A, m, c, n2, B, m', d, o1, C, p, e, o2, D, p', f, L1, L2, L3, h1, h2, hB⟩ := hcut
  obtain ⟨_, _, _, _, _, _, _, _, e1, h1, i1, i2⟩ := h1.op
  simp only [Value.agg.injEq, Array.mk.injEq, List.cons.injEq, Value.bool.injEq, Value.slice.injEq, and_true] at e1
  obtain ⟨rfl, ⟨rfl, rfl, rfl⟩, rfl, ⟨rfl, rfl, rfl⟩⟩ := e1
  obtain ⟨_, _, _, _, _, _, _, _, e1, h2, j1, j2⟩ := h2.op
  simp only [Value.agg.injEq, Array.mk.injEq, List.cons.injEq, Value.bool.injEq, Value.slice.injEq, and_true] at e1
  obtain ⟨rfl, ⟨rfl, rfl, rfl⟩, rfl, ⟨rfl, rfl, rfl⟩⟩ := e1
  have z1 := L1.lt
  have z2 := L2.lt
  have z3 := L3.lt
  go_wp2_with fail
  have HA := Lib.hid (len_mulI HX.out.1 HY.out.2)
  have HB := Lib.hid (len_mulI HY.out.1 HX.out.2)
  have HS := Lib.hid (len_addI HA.out (Nat.le_trans HB.out (by omega)))
  have HD := Lib.hid (len_mulI HX.out.2 HY.out.2)
  clear z1 z2 z3
  obtain ⟨w5, rfl⟩ : ∃ w5 : World, w5 = wc := ⟨wc, rfl⟩
  go_upto_region 3 with fail
  go_cut [5] (fun v W => ∃ (g : Nat) (b : Bool) (E : Option Addr) (r s : Nat), v = .pointer (some ⟨g, 0, none⟩) ∧ w.heap.size + 2 < g ∧ Loc W g 58 #[.bool b, .slice E r s] ∧ IntV W (fun b => w.heap.size ≤ b ∧ b < w.heap.size + 3) (.agg #[.bool b, .slice E r s]) (x.num * (y.den : Int) + y.num * (x.den : Int)) ∧ Below w5.heap.size w5 W)
  case first =>
   have z1 := Loc.lt L1
   have z2 := Loc.lt L2
   have z3 := Loc.lt L3
   go_wp2_with fail
   go_region_held3 (fun W => ((W.cell? ⟨w.heap.size, 0, none⟩ = some (.bool n1) ∧ W.cell? ⟨w.heap.size, 1, none⟩ = some (.slice A m c)) ∧ W.cell? ⟨w.heap.size, 2, none⟩ = some (.bool n2) ∧ W.cell? ⟨w.heap.size, 3, none⟩ = some (.slice B m' d)) ∧ (W.cell? ⟨w.heap.size + 1, 0, none⟩ = some (.bool o1) ∧ W.cell? ⟨w.heap.size + 1, 1, none⟩ = some (.slice C p e)) ∧ W.cell? ⟨w.heap.size + 1, 2, none⟩ = some (.bool o2) ∧ W.cell? ⟨w.heap.size + 1, 3, none⟩ = some (.slice D p' f))
    (exact ⟨⟨⟨Loc.c 0 L1, Loc.c 1 L1⟩, Loc.c 2 L1, Loc.c 3 L1⟩, ⟨Loc.c 0 L2, Loc.c 1 L2⟩, Loc.c 2 L2, Loc.c 3 L2⟩)
    (first
     | (go_at_call_of 92 (Value.agg #[Value.bool n1, Value.slice A m c]); refine (mul_any _ (fun _ => False) _ _ _ _ _ _ i1.to j2.to (Nat.le_trans HX.out.1 (by omega)) (Nat.le_trans HY.out.2 (by omega))).mono ?_; rintro e u1 ⟨w1, rfl, k1, hb1⟩; rw [sv_dig, sv_dig] at k1; obtain ⟨bw1, Aw1, mw1, kw1, rfl, k1⟩ := k1.op; have yu1 := hb1.size; (try simp only [zs] at yu1))
     | (go_at_call_of 92 (Value.agg #[Value.bool o1, Value.slice C p e]); refine (mul_any _ (fun _ => False) _ _ _ _ _ _ j1.to i2.to (Nat.le_trans HY.out.1 (by omega)) (Nat.le_trans HX.out.2 (by omega))).mono ?_; rintro e u2 ⟨w2, rfl, k2, hb2⟩; rw [sv_dig, sv_dig] at k2; obtain ⟨bw2, Aw2, mw2, kw2, rfl, k2⟩ := k2.op; have yu2 := hb2.size; (try simp only [zs] at yu2))
     | (go_at_call 91; refine (add_any _ (fun _ => False) _ _ _ _ _ _ k1.to k2.to (Nat.le_trans HA.out (by omega)) (Nat.le_trans HB.out (by omega))).mono ?_; rintro e u3 ⟨v6, rfl, k3, hb6⟩; rw [sv_dig, sv_dig] at k3; obtain ⟨b6, A6, m6, k6, rfl, k3⟩ := k3.op; have y6 := hb6.size; (try simp only [zs] at y6); (first
      | (have q := (made1 w5 #[.bool false, .slice none 0 0] 58).all (w' := u3); have h7 := (made1 w5 #[.bool false, .slice none 0 0] 58).to (w' := u3); obtain ⟨e7, g7, l7⟩ := q)
      | (have q := (made1 u1 #[.bool false, .slice none 0 0] 58).all (w' := u3); have h7 := (made1 u1 #[.bool false, .slice none 0 0] 58).to (w' := u3); obtain ⟨e7, g7, l7⟩ := q)
      | (have q := (made1 u2 #[.bool false, .slice none 0 0] 58).all (w' := u3); have h7 := (made1 u2 #[.bool false, .slice none 0 0] 58).to (w' := u3); obtain ⟨e7, g7, l7⟩ := q)
      | skip)))
   all_goals
    go_wp2_with fail
    go_meet
    first
     | (have q := Loc.fill2 (u := .bool b6) (v := .slice A6 m6 k6) h7; refine ⟨_, _, _, _, _, rfl, ?_, q, IntV.out k3, bel⟩; omega)
     | (refine ⟨_, _, _, _, _, rfl, ?_, made1 u3 _ _, IntV.out k3, bel⟩; omega)
  case rest =>
   obtain ⟨g, bg, E, r, s, rfl, hg, L5, i5, hB5⟩ := hcut
   have z1 := Loc.lt (Loc.to L1 : Loc wc _ _ _)
   have z2 := Loc.lt (Loc.to L2 : Loc wc _ _ _)
   have z3 := Loc.lt (Loc.to L3 : Loc wc _ _ _)
   have z5 := Loc.lt L5
   have y5 := hB5.size; (try simp only [zs] at y5)
   have y0 := hB.size; (try simp only [zs] at y0)
   go_wp2_with fail
   go_region_held3 (fun W => ((W.cell? ⟨w.heap.size, 2, none⟩ = some (.bool n2) ∧ W.cell? ⟨w.heap.size, 3, none⟩ = some (.slice B m' d)) ∧ (W.cell? ⟨w.heap.size + 1, 2, none⟩ = some (.bool o2) ∧ W.cell? ⟨w.heap.size + 1, 3, none⟩ = some (.slice D p' f))) ∧ W.cell? ⟨g, 0, none⟩ = some (.bool bg) ∧ W.cell? ⟨g, 1, none⟩ = some (.slice E r s))
    (exact ⟨⟨⟨Loc.c 2 L1, Loc.c 3 L1⟩, Loc.c 2 L2, Loc.c 3 L2⟩, Loc.c 0 L5, Loc.c 1 L5⟩)
    (first
     | (go_at_call_of 92 (Value.agg #[Value.bool n2, Value.slice B m' d]); refine (mul_any _ (fun _ => False) _ _ _ _ _ _ i2.to j2.to (Nat.le_trans HX.out.2 (by omega)) (Nat.le_trans HY.out.2 (by omega))).mono ?_; rintro e u1 ⟨w1, rfl, k1, hb1⟩; rw [sv_dig, sv_dig] at k1; obtain ⟨bw1, Aw1, mw1, kw1, rfl, k1⟩ := k1.op; have yu1 := hb1.size; (try simp only [zs] at yu1))
     | (go_at_call 90; refine (clean_rat _ (fun _ => False) _ (x + y) ⟨_, _, _, _, (ratR_of i5.to k1.to), Nat.le_trans HS.out (by omega), Nat.le_trans HD.out (by omega), by unfold rv; rw [sv_dig, sv_dig]; exact rat_add x y⟩).mono ?_; rintro e u2 ⟨v6, rfl, h6, hb6⟩; obtain ⟨b6, A6, m6, k6, b6', A6', m6', k6', rfl, h6, -, -⟩ := h6.op; have y6 := hb6.size; (try simp only [zs] at y6); obtain ⟨e5, g5, -⟩ := Loc.all L3 (w' := u2)))
   all_goals
    go_wp2_with fail
    refine bodyPost_ret (by simp [results, Tryz.results50, go_sem, e5, g5] <;> rfl) rfl ⟨_, rfl, h6.out, bel⟩
end Go.Proofs.YtdambnieminnfaaGreat

