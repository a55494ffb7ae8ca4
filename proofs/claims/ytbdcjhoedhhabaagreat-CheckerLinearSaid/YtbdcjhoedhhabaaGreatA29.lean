/- Contracts of the functions that the statements reach, part 29. -/
import Derived.Test.YtbdcjhoedhhabaaGreatRows
import Derived.Deep.CutBlock
import Derived.Test.YtbdcjhoedhhabaaGreatA25
import Derived.Test.YtbdcjhoedhhabaaGreatA26
import Derived.Test.YtbdcjhoedhhabaaGreatA28
set_option linter.unusedSimpArgs false
set_option linter.unusedVariables false

/- Add, Mul, Divide, Compare of rational; printed by gen_rat5.py. -/
namespace Go.Proofs.YtbdcjhoedhhabaaGreat
open Go.RowKit
attribute [local go_sem ↓] Go.wp_at_zero Go.wp_at_succ

set_option maxHeartbeats 4000000 in
theorem mul_rat (w : World) (X : Nat → Prop) (v1 v2 : Value) (x y : Rat) (h1 : RatL 10000000 w X v1 x) (h2 : RatL 10000000 w X v2 y) :
 Calls Tryz.prog 293 #[v1, v2] w fun e w' => ∃ v', e = .returned v' ∧ RatV w' (Old w) v' (x * y) ∧ Below w.heap.size w w' := by
 have HX := Lib.hid (h1.rsz (by omega))
 have HY := Lib.hid (h2.rsz (by omega))
 obtain ⟨n1, A, m, c, n2, B, m', d, rfl, h1, -⟩ := h1.op
 obtain ⟨o1, C, p, e, o2, D, p', f, rfl, h2, -⟩ := h2.op
 go_enter Tryz.func293, Tryz.ntmps293
 go_upto_region 2 with fail
 go_cut [0] (fun _ W => ∃ (n1 : Bool) (A : Option Addr) (m c : Nat) (n2 : Bool) (B : Option Addr) (m' d : Nat) (o1 : Bool) (C : Option Addr) (p e : Nat) (o2 : Bool) (D : Option Addr) (p' f : Nat),
  Loc W w.heap.size 213 #[.bool n1, .slice A m c, .bool n2, .slice B m' d] ∧ Loc W (w.heap.size + 1) 213 #[.bool o1, .slice C p e, .bool o2, .slice D p' f] ∧ Loc W (w.heap.size + 1 + 1) 213 #[.bool false, .slice none 0 0, .bool false, .slice none 0 0] ∧
  RatV W (fun b => w.heap.size ≤ b ∧ b < w.heap.size + 3) (.agg #[.bool n1, .slice A m c, .bool n2, .slice B m' d]) x ∧ RatV W (fun b => w.heap.size ≤ b ∧ b < w.heap.size + 3) (.agg #[.bool o1, .slice C p e, .bool o2, .slice D p' f]) y ∧ Below w.heap.size w W)
 case first =>
  have N1 := made1 w #[.bool n1, .slice A m c, .bool n2, .slice B m' d] 213
  have N2 := made2 w (.cells #[.bool n1, .slice A m c, .bool n2, .slice B m' d] 213) #[.bool o1, .slice C p e, .bool o2, .slice D p' f] 213
  go_wp2_with fail
  obtain ⟨c5, f5, -⟩ := N1.all (w' := (((w.alloc (.cells #[.bool n1, .slice A m c, .bool n2, .slice B m' d] 213)).alloc (.cells #[.bool o1, .slice C p e, .bool o2, .slice D p' f] 213)).alloc (.cells #[.bool false, .slice none 0 0, .bool false, .slice none 0 0] 213)).drew)
  obtain ⟨c6, f6, -⟩ := N2.all (w' := (((w.alloc (.cells #[.bool n1, .slice A m c, .bool n2, .slice B m' d] 213)).alloc (.cells #[.bool o1, .slice C p e, .bool o2, .slice D p' f] 213)).alloc (.cells #[.bool false, .slice none 0 0, .bool false, .slice none 0 0] 213)).drew)
  go_region_with (first
   | (go_at_call_of 348 (Value.agg #[Value.bool n1, Value.slice A m c, Value.bool n2, Value.slice B m' d]); refine (clean_rat _ (fun _ => False) _ x (h1.mono (by omega)).to).mono ?_; rintro e u1 ⟨v5, rfl, h5, hb5⟩; obtain ⟨b5, A5, m5, k5, b5', A5', m5', k5', rfl, h5, -, -⟩ := h5.op; have y5 := hb5.size; (try simp only [zs] at y5); obtain ⟨c6, f6, -⟩ := N2.all (w' := u1))
   | (go_at_call_of 348 (Value.agg #[Value.bool o1, Value.slice C p e, Value.bool o2, Value.slice D p' f]); refine (clean_rat _ (fun _ => False) _ y (h2.mono (by omega)).to).mono ?_; rintro e u2 ⟨v6, rfl, h6, hb6⟩; obtain ⟨b6, A6, m6, k6, b6', A6', m6', k6', rfl, h6, -, -⟩ := h6.op; have y6 := hb6.size; (try simp only [zs] at y6); obtain ⟨c7, f7, -⟩ := N1.all (w' := u2); obtain ⟨c8, f8, -⟩ := N2.all (w' := u2)))
  all_goals
   go_wp2_with fail
   go_meet
   have L1 := N1.to (w' := u2)
   have L2 := N2.to (w' := u2)
   have e12 : w.heap.size ≠ w.heap.size + 1 := by omega
   have e21 : w.heap.size + 1 ≠ w.heap.size := by omega
   exact ⟨_, _, _, _, _, _, _, _, _, _, _, _, _, _, _, _, (by first | with_reducible exact Loc.two4_first e12 L1 | with_reducible exact Loc.two4_last e12 L1), (by first | with_reducible exact Loc.two4_first e21 L2 | with_reducible exact Loc.two4_last e21 L2), (made3 w _ _ _ _).to, RatV.out h5, RatV.out h6, bel⟩
 case rest =>
  clear h1 h2
  obtain ⟨n1, A, m, c, n2, B, m', d, o1, C, p, e, o2, D, p', f, L1, L2, L3, h1, h2, hB⟩ := hcut
  obtain ⟨_, _, _, _, _, _, _, _, e1, h1, i1, i2⟩ := h1.op
  simp only [Value.agg.injEq, Array.mk.injEq, List.cons.injEq, Value.bool.injEq, Value.slice.injEq, and_true] at e1
  obtain ⟨rfl, ⟨rfl, rfl, rfl⟩, rfl, ⟨rfl, rfl, rfl⟩⟩ := e1
  obtain ⟨_, _, _, _, _, _, _, _, e1, h2, j1, j2⟩ := h2.op
  simp only [Value.agg.injEq, Array.mk.injEq, List.cons.injEq, Value.bool.injEq, Value.slice.injEq, and_true] at e1
  obtain ⟨rfl, ⟨rfl, rfl, rfl⟩, rfl, ⟨rfl, rfl, rfl⟩⟩ := e1
  have z1 := L1.lt
  have z2 := L2.lt
  have z3 := L3.lt
  go_wp2_with fail
  have HN := Lib.hid (len_mulI HX.out.1 HY.out.1)
  have HD := Lib.hid (len_mulI HX.out.2 HY.out.2)
  go_region_held3 (fun W => ((W.cell? ⟨w.heap.size, 0, none⟩ = some (.bool n1) ∧ W.cell? ⟨w.heap.size, 1, none⟩ = some (.slice A m c)) ∧ W.cell? ⟨w.heap.size, 2, none⟩ = some (.bool n2) ∧ W.cell? ⟨w.heap.size, 3, none⟩ = some (.slice B m' d)) ∧ (W.cell? ⟨w.heap.size + 1, 0, none⟩ = some (.bool o1) ∧ W.cell? ⟨w.heap.size + 1, 1, none⟩ = some (.slice C p e)) ∧ W.cell? ⟨w.heap.size + 1, 2, none⟩ = some (.bool o2) ∧ W.cell? ⟨w.heap.size + 1, 3, none⟩ = some (.slice D p' f))
   (exact ⟨⟨⟨Loc.c 0 L1, Loc.c 1 L1⟩, Loc.c 2 L1, Loc.c 3 L1⟩, ⟨Loc.c 0 L2, Loc.c 1 L2⟩, Loc.c 2 L2, Loc.c 3 L2⟩)
   (first
    | (go_at_call_of 350 (Value.agg #[Value.bool n1, Value.slice A m c]); refine (mul_any _ (fun _ => False) _ _ _ _ _ _ i1.to j1.to (Nat.le_trans HX.out.1 (by omega)) (Nat.le_trans HY.out.1 (by omega))).mono ?_; rintro e u1 ⟨w1, rfl, k1, hb1⟩; rw [sv_dig, sv_dig] at k1; obtain ⟨bw1, Aw1, mw1, kw1, rfl, k1⟩ := k1.op; have yu1 := hb1.size; (try simp only [zs] at yu1))
    | (go_at_call_of 350 (Value.agg #[Value.bool n2, Value.slice B m' d]); refine (mul_any _ (fun _ => False) _ _ _ _ _ _ i2.to j2.to (Nat.le_trans HX.out.2 (by omega)) (Nat.le_trans HY.out.2 (by omega))).mono ?_; rintro e u2 ⟨w2, rfl, k2, hb2⟩; rw [sv_dig, sv_dig] at k2; obtain ⟨bw2, Aw2, mw2, kw2, rfl, k2⟩ := k2.op; have yu2 := hb2.size; (try simp only [zs] at yu2))
    | (go_at_call 348; refine (clean_rat _ (fun _ => False) _ (x * y) ⟨_, _, _, _, (ratR_of k1.to k2.to), Nat.le_trans HN.out (by omega), Nat.le_trans HD.out (by omega), by unfold rv; rw [sv_dig, sv_dig]; exact rat_mul x y⟩).mono ?_; rintro e u3 ⟨v6, rfl, h6, hb6⟩; obtain ⟨b6, A6, m6, k6, b6', A6', m6', k6', rfl, h6, -, -⟩ := h6.op; have y6 := hb6.size; (try simp only [zs] at y6); obtain ⟨e5, g5, -⟩ := Loc.all L3 (w' := u3)))
  all_goals
   go_wp2_with fail
   refine bodyPost_ret (by simp [results, Tryz.results293, go_sem, e5, g5] <;> rfl) rfl ⟨_, rfl, h6.out, bel⟩

set_option maxHeartbeats 4000000 in
theorem ratcompare_any (w : World) (X : Nat → Prop) (v1 v2 : Value) (x y : Rat) (h1 : RatL 10000000 w X v1 x) (h2 : RatL 10000000 w X v2 y) :
 Calls Tryz.prog 237 #[v1, v2] w fun e w' => e = .returned (.int .i64 (rcmp x y)) ∧ Below w.heap.size w w' := by
 have HX := Lib.hid (h1.rsz (by omega))
 have HY := Lib.hid (h2.rsz (by omega))
 obtain ⟨n1, A, m, c, n2, B, m', d, rfl, h1, -⟩ := h1.op
 obtain ⟨o1, C, p, e, o2, D, p', f, rfl, h2, -⟩ := h2.op
 go_enter Tryz.func237, Tryz.ntmps237
 go_upto_region 2 with fail
 go_cut [0] (fun _ W => ∃ (n1 : Bool) (A : Option Addr) (m c : Nat) (n2 : Bool) (B : Option Addr) (m' d : Nat) (o1 : Bool) (C : Option Addr) (p e : Nat) (o2 : Bool) (D : Option Addr) (p' f : Nat),
  Loc W w.heap.size 213 #[.bool n1, .slice A m c, .bool n2, .slice B m' d] ∧ Loc W (w.heap.size + 1) 213 #[.bool o1, .slice C p e, .bool o2, .slice D p' f] ∧
  RatV W (fun b => w.heap.size ≤ b ∧ b < w.heap.size + 2) (.agg #[.bool n1, .slice A m c, .bool n2, .slice B m' d]) x ∧ RatV W (fun b => w.heap.size ≤ b ∧ b < w.heap.size + 2) (.agg #[.bool o1, .slice C p e, .bool o2, .slice D p' f]) y ∧ Below w.heap.size w W)
 case first =>
  have N1 := made1 w #[.bool n1, .slice A m c, .bool n2, .slice B m' d] 213
  have N2 := made2 w (.cells #[.bool n1, .slice A m c, .bool n2, .slice B m' d] 213) #[.bool o1, .slice C p e, .bool o2, .slice D p' f] 213
  go_wp2_with fail
  obtain ⟨c5, f5, -⟩ := N1.all (w' := ((w.alloc (.cells #[.bool n1, .slice A m c, .bool n2, .slice B m' d] 213)).alloc (.cells #[.bool o1, .slice C p e, .bool o2, .slice D p' f] 213)).drew)
  obtain ⟨c6, f6, -⟩ := N2.all (w' := ((w.alloc (.cells #[.bool n1, .slice A m c, .bool n2, .slice B m' d] 213)).alloc (.cells #[.bool o1, .slice C p e, .bool o2, .slice D p' f] 213)).drew)
  go_region_with (first
   | (go_at_call_of 348 (Value.agg #[Value.bool n1, Value.slice A m c, Value.bool n2, Value.slice B m' d]); refine (clean_rat _ (fun _ => False) _ x (h1.mono (by omega)).to).mono ?_; rintro e u1 ⟨v5, rfl, h5, hb5⟩; obtain ⟨b5, A5, m5, k5, b5', A5', m5', k5', rfl, h5, -, -⟩ := h5.op; have y5 := hb5.size; (try simp only [zs] at y5); obtain ⟨c6, f6, -⟩ := N2.all (w' := u1))
   | (go_at_call_of 348 (Value.agg #[Value.bool o1, Value.slice C p e, Value.bool o2, Value.slice D p' f]); refine (clean_rat _ (fun _ => False) _ y (h2.mono (by omega)).to).mono ?_; rintro e u2 ⟨v6, rfl, h6, hb6⟩; obtain ⟨b6, A6, m6, k6, b6', A6', m6', k6', rfl, h6, -, -⟩ := h6.op; have y6 := hb6.size; (try simp only [zs] at y6); obtain ⟨c7, f7, -⟩ := N1.all (w' := u2); obtain ⟨c8, f8, -⟩ := N2.all (w' := u2)))
  all_goals
   go_wp2_with fail
   go_meet
   have L1 := N1.to (w' := u2)
   have L2 := N2.to (w' := u2)
   have e12 : w.heap.size ≠ w.heap.size + 1 := by omega
   have e21 : w.heap.size + 1 ≠ w.heap.size := by omega
   exact ⟨_, _, _, _, _, _, _, _, _, _, _, _, _, _, _, _, (by first | with_reducible exact Loc.two4_first e12 L1 | with_reducible exact Loc.two4_last e12 L1), (by first | with_reducible exact Loc.two4_first e21 L2 | with_reducible exact Loc.two4_last e21 L2), RatV.out h5, RatV.out h6, bel⟩
 case rest =>
  clear h1 h2
  obtain ⟨n1, A, m, c, n2, B, m', d, o1, C, p, e, o2, D, p', f, L1, L2, h1, h2, hB⟩ := hcut
  obtain ⟨_, _, _, _, _, _, _, _, e1, h1, i1, i2⟩ := h1.op
  simp only [Value.agg.injEq, Array.mk.injEq, List.cons.injEq, Value.bool.injEq, Value.slice.injEq, and_true] at e1
  obtain ⟨rfl, ⟨rfl, rfl, rfl⟩, rfl, ⟨rfl, rfl, rfl⟩⟩ := e1
  obtain ⟨_, _, _, _, _, _, _, _, e1, h2, j1, j2⟩ := h2.op
  simp only [Value.agg.injEq, Array.mk.injEq, List.cons.injEq, Value.bool.injEq, Value.slice.injEq, and_true] at e1
  obtain ⟨rfl, ⟨rfl, rfl, rfl⟩, rfl, ⟨rfl, rfl, rfl⟩⟩ := e1
  have z1 := L1.lt
  have z2 := L2.lt

  go_wp2_with fail
  have HC : Hid ((x.num * (y.den : Int) - y.num * (x.den : Int)).sign = rcmp x y) := rat_cmp x y
  go_region_held3 (fun W => ((W.cell? ⟨w.heap.size, 0, none⟩ = some (.bool n1) ∧ W.cell? ⟨w.heap.size, 1, none⟩ = some (.slice A m c)) ∧ W.cell? ⟨w.heap.size, 2, none⟩ = some (.bool n2) ∧ W.cell? ⟨w.heap.size, 3, none⟩ = some (.slice B m' d)) ∧ (W.cell? ⟨w.heap.size + 1, 0, none⟩ = some (.bool o1) ∧ W.cell? ⟨w.heap.size + 1, 1, none⟩ = some (.slice C p e)) ∧ W.cell? ⟨w.heap.size + 1, 2, none⟩ = some (.bool o2) ∧ W.cell? ⟨w.heap.size + 1, 3, none⟩ = some (.slice D p' f))
   (exact ⟨⟨⟨Loc.c 0 L1, Loc.c 1 L1⟩, Loc.c 2 L1, Loc.c 3 L1⟩, ⟨Loc.c 0 L2, Loc.c 1 L2⟩, Loc.c 2 L2, Loc.c 3 L2⟩)
   (first
    | (go_at_call_of 350 (Value.agg #[Value.bool n1, Value.slice A m c]); refine (mul_any _ (fun _ => False) _ _ _ _ _ _ i1.to j2.to (Nat.le_trans HX.out.1 (by omega)) (Nat.le_trans HY.out.2 (by omega))).mono ?_; rintro e u1 ⟨w1, rfl, k1, hb1⟩; rw [sv_dig, sv_dig] at k1; obtain ⟨bw1, Aw1, mw1, kw1, rfl, k1⟩ := k1.op; have yu1 := hb1.size; (try simp only [zs] at yu1))
    | (go_at_call_of 350 (Value.agg #[Value.bool o1, Value.slice C p e]); refine (mul_any _ (fun _ => False) _ _ _ _ _ _ j1.to i2.to (Nat.le_trans HY.out.1 (by omega)) (Nat.le_trans HX.out.2 (by omega))).mono ?_; rintro e u2 ⟨w2, rfl, k2, hb2⟩; rw [sv_dig, sv_dig] at k2; obtain ⟨bw2, Aw2, mw2, kw2, rfl, k2⟩ := k2.op; have yu2 := hb2.size; (try simp only [zs] at yu2))
    | (go_at_call 349; refine (icompare_any _ (fun _ => False) _ _ _ _ _ _ k1.to k2.to).mono ?_; rintro e u3 ⟨he, hb6⟩; rw [sv_dig, sv_dig, HC.out] at he; subst he; have y6 := hb6.size; (try simp only [zs] at y6)))
  all_goals
   go_wp2_with fail
   go_ret
   exact ⟨rfl, bel⟩

/- Add of rational; printed by gen_rat5.py. -/

set_option maxHeartbeats 4000000 in
theorem add_rat (w : World) (X : Nat → Prop) (v1 v2 : Value) (x y : Rat) (h1 : RatL 10000000 w X v1 x) (h2 : RatL 10000000 w X v2 y) :
 Calls Tryz.prog 292 #[v1, v2] w fun e w' => ∃ v', e = .returned v' ∧ RatV w' (Old w) v' (x + y) ∧ Below w.heap.size w w' := by
 have HX := Lib.hid (h1.rsz (by omega))
 have HY := Lib.hid (h2.rsz (by omega))
 obtain ⟨n1, A, m, c, n2, B, m', d, rfl, h1, -⟩ := h1.op
 obtain ⟨o1, C, p, e, o2, D, p', f, rfl, h2, -⟩ := h2.op
 go_enter Tryz.func292, Tryz.ntmps292
 go_upto_region 2 with fail
 go_cut [0] (fun _ W => ∃ (n1 : Bool) (A : Option Addr) (m c : Nat) (n2 : Bool) (B : Option Addr) (m' d : Nat) (o1 : Bool) (C : Option Addr) (p e : Nat) (o2 : Bool) (D : Option Addr) (p' f : Nat),
  Loc W w.heap.size 213 #[.bool n1, .slice A m c, .bool n2, .slice B m' d] ∧ Loc W (w.heap.size + 1) 213 #[.bool o1, .slice C p e, .bool o2, .slice D p' f] ∧ Loc W (w.heap.size + 1 + 1) 213 #[.bool false, .slice none 0 0, .bool false, .slice none 0 0] ∧
  RatV W (fun b => w.heap.size ≤ b ∧ b < w.heap.size + 3) (.agg #[.bool n1, .slice A m c, .bool n2, .slice B m' d]) x ∧ RatV W (fun b => w.heap.size ≤ b ∧ b < w.heap.size + 3) (.agg #[.bool o1, .slice C p e, .bool o2, .slice D p' f]) y ∧ Below w.heap.size w W)
 case first =>
  have N1 := made1 w #[.bool n1, .slice A m c, .bool n2, .slice B m' d] 213
  have N2 := made2 w (.cells #[.bool n1, .slice A m c, .bool n2, .slice B m' d] 213) #[.bool o1, .slice C p e, .bool o2, .slice D p' f] 213
  go_wp2_with fail
  obtain ⟨c5, f5, -⟩ := N1.all (w' := (((w.alloc (.cells #[.bool n1, .slice A m c, .bool n2, .slice B m' d] 213)).alloc (.cells #[.bool o1, .slice C p e, .bool o2, .slice D p' f] 213)).alloc (.cells #[.bool false, .slice none 0 0, .bool false, .slice none 0 0] 213)).drew)
  obtain ⟨c6, f6, -⟩ := N2.all (w' := (((w.alloc (.cells #[.bool n1, .slice A m c, .bool n2, .slice B m' d] 213)).alloc (.cells #[.bool o1, .slice C p e, .bool o2, .slice D p' f] 213)).alloc (.cells #[.bool false, .slice none 0 0, .bool false, .slice none 0 0] 213)).drew)
  go_region_with (first
   | (go_at_call_of 348 (Value.agg #[Value.bool n1, Value.slice A m c, Value.bool n2, Value.slice B m' d]); refine (clean_rat _ (fun _ => False) _ x (h1.mono (by omega)).to).mono ?_; rintro e u1 ⟨v5, rfl, h5, hb5⟩; obtain ⟨b5, A5, m5, k5, b5', A5', m5', k5', rfl, h5, -, -⟩ := h5.op; have y5 := hb5.size; (try simp only [zs] at y5); obtain ⟨c6, f6, -⟩ := N2.all (w' := u1))
   | (go_at_call_of 348 (Value.agg #[Value.bool o1, Value.slice C p e, Value.bool o2, Value.slice D p' f]); refine (clean_rat _ (fun _ => False) _ y (h2.mono (by omega)).to).mono ?_; rintro e u2 ⟨v6, rfl, h6, hb6⟩; obtain ⟨b6, A6, m6, k6, b6', A6', m6', k6', rfl, h6, -, -⟩ := h6.op; have y6 := hb6.size; (try simp only [zs] at y6); obtain ⟨c7, f7, -⟩ := N1.all (w' := u2); obtain ⟨c8, f8, -⟩ := N2.all (w' := u2)))
  all_goals
   go_wp2_with fail
   go_meet
   have L1 := N1.to (w' := u2)
   have L2 := N2.to (w' := u2)
   have e12 : w.heap.size ≠ w.heap.size + 1 := by omega
   have e21 : w.heap.size + 1 ≠ w.heap.size := by omega
   exact ⟨_, _, _, _, _, _, _, _, _, _, _, _, _, _, _, _, (by first | with_reducible exact Loc.two4_first e12 L1 | with_reducible exact Loc.two4_last e12 L1), (by first | with_reducible exact Loc.two4_first e21 L2 | with_reducible exact Loc.two4_last e21 L2), (made3 w _ _ _ _).to, RatV.out h5, RatV.out h6, bel⟩
 case rest =>
  clear h1 h2
  obtain ⟨n1, A, m, c, n2, B, m', d, o1, C, p, e, o2, D, p', f, L1, L2, L3, h1, h2, hB⟩ := hcut
  obtain ⟨_, _, _, _, _, _, _, _, e1, h1, i1, i2⟩ := h1.op
  simp only [Value.agg.injEq, Array.mk.injEq, List.cons.injEq, Value.bool.injEq, Value.slice.injEq, and_true] at e1
  obtain ⟨rfl, ⟨rfl, rfl, rfl⟩, rfl, ⟨rfl, rfl, rfl⟩⟩ := e1
  obtain ⟨_, _, _, _, _, _, _, _, e1, h2, j1, j2⟩ := h2.op
  simp only [Value.agg.injEq, Array.mk.injEq, List.cons.injEq, Value.bool.injEq, Value.slice.injEq, and_true] at e1
  obtain ⟨rfl, ⟨rfl, rfl, rfl⟩, rfl, ⟨rfl, rfl, rfl⟩⟩ := e1
  have z1 := L1.lt
  have z2 := L2.lt
  have z3 := L3.lt
  go_wp2_with fail
  have HA := Lib.hid (len_mulI HX.out.1 HY.out.2)
  have HB := Lib.hid (len_mulI HY.out.1 HX.out.2)
  have HS := Lib.hid (len_addI HA.out (Nat.le_trans HB.out (by omega)))
  have HD := Lib.hid (len_mulI HX.out.2 HY.out.2)
  clear z1 z2 z3
  obtain ⟨w5, rfl⟩ : ∃ w5 : World, w5 = wc := ⟨wc, rfl⟩
  go_upto_region 3 with fail
  go_cut [5] (fun v W => ∃ (g : Nat) (b : Bool) (E : Option Addr) (r s : Nat), v = .pointer (some ⟨g, 0, none⟩) ∧ w.heap.size + 2 < g ∧ Loc W g 211 #[.bool b, .slice E r s] ∧ IntV W (fun b => w.heap.size ≤ b ∧ b < w.heap.size + 3) (.agg #[.bool b, .slice E r s]) (x.num * (y.den : Int) + y.num * (x.den : Int)) ∧ Below w5.heap.size w5 W)
  case first =>
   have z1 := Loc.lt L1
   have z2 := Loc.lt L2
   have z3 := Loc.lt L3
   go_wp2_with fail
   go_region_held3 (fun W => ((W.cell? ⟨w.heap.size, 0, none⟩ = some (.bool n1) ∧ W.cell? ⟨w.heap.size, 1, none⟩ = some (.slice A m c)) ∧ W.cell? ⟨w.heap.size, 2, none⟩ = some (.bool n2) ∧ W.cell? ⟨w.heap.size, 3, none⟩ = some (.slice B m' d)) ∧ (W.cell? ⟨w.heap.size + 1, 0, none⟩ = some (.bool o1) ∧ W.cell? ⟨w.heap.size + 1, 1, none⟩ = some (.slice C p e)) ∧ W.cell? ⟨w.heap.size + 1, 2, none⟩ = some (.bool o2) ∧ W.cell? ⟨w.heap.size + 1, 3, none⟩ = some (.slice D p' f))
    (exact ⟨⟨⟨Loc.c 0 L1, Loc.c 1 L1⟩, Loc.c 2 L1, Loc.c 3 L1⟩, ⟨Loc.c 0 L2, Loc.c 1 L2⟩, Loc.c 2 L2, Loc.c 3 L2⟩)
    (first
     | (go_at_call_of 350 (Value.agg #[Value.bool n1, Value.slice A m c]); refine (mul_any _ (fun _ => False) _ _ _ _ _ _ i1.to j2.to (Nat.le_trans HX.out.1 (by omega)) (Nat.le_trans HY.out.2 (by omega))).mono ?_; rintro e u1 ⟨w1, rfl, k1, hb1⟩; rw [sv_dig, sv_dig] at k1; obtain ⟨bw1, Aw1, mw1, kw1, rfl, k1⟩ := k1.op; have yu1 := hb1.size; (try simp only [zs] at yu1))
     | (go_at_call_of 350 (Value.agg #[Value.bool o1, Value.slice C p e]); refine (mul_any _ (fun _ => False) _ _ _ _ _ _ j1.to i2.to (Nat.le_trans HY.out.1 (by omega)) (Nat.le_trans HX.out.2 (by omega))).mono ?_; rintro e u2 ⟨w2, rfl, k2, hb2⟩; rw [sv_dig, sv_dig] at k2; obtain ⟨bw2, Aw2, mw2, kw2, rfl, k2⟩ := k2.op; have yu2 := hb2.size; (try simp only [zs] at yu2))
     | (go_at_call 386; refine (add_any _ (fun _ => False) _ _ _ _ _ _ k1.to k2.to (Nat.le_trans HA.out (by omega)) (Nat.le_trans HB.out (by omega))).mono ?_; rintro e u3 ⟨v6, rfl, k3, hb6⟩; rw [sv_dig, sv_dig] at k3; obtain ⟨b6, A6, m6, k6, rfl, k3⟩ := k3.op; have y6 := hb6.size; (try simp only [zs] at y6); (first
      | (have q := (made1 w5 #[.bool false, .slice none 0 0] 211).all (w' := u3); have h7 := (made1 w5 #[.bool false, .slice none 0 0] 211).to (w' := u3); obtain ⟨e7, g7, l7⟩ := q)
      | (have q := (made1 u1 #[.bool false, .slice none 0 0] 211).all (w' := u3); have h7 := (made1 u1 #[.bool false, .slice none 0 0] 211).to (w' := u3); obtain ⟨e7, g7, l7⟩ := q)
      | (have q := (made1 u2 #[.bool false, .slice none 0 0] 211).all (w' := u3); have h7 := (made1 u2 #[.bool false, .slice none 0 0] 211).to (w' := u3); obtain ⟨e7, g7, l7⟩ := q)
      | skip)))
   all_goals
    go_wp2_with fail
    go_meet
    first
     | (have q := Loc.fill2 (u := .bool b6) (v := .slice A6 m6 k6) h7; refine ⟨_, _, _, _, _, rfl, ?_, q, IntV.out k3, bel⟩; omega)
     | (refine ⟨_, _, _, _, _, rfl, ?_, made1 u3 _ _, IntV.out k3, bel⟩; omega)
  case rest =>
   obtain ⟨g, bg, E, r, s, rfl, hg, L5, i5, hB5⟩ := hcut
   have z1 := Loc.lt (Loc.to L1 : Loc wc _ _ _)
   have z2 := Loc.lt (Loc.to L2 : Loc wc _ _ _)
   have z3 := Loc.lt (Loc.to L3 : Loc wc _ _ _)
   have z5 := Loc.lt L5
   have y5 := hB5.size; (try simp only [zs] at y5)
   have y0 := hB.size; (try simp only [zs] at y0)
   go_wp2_with fail
   go_region_held3 (fun W => ((W.cell? ⟨w.heap.size, 2, none⟩ = some (.bool n2) ∧ W.cell? ⟨w.heap.size, 3, none⟩ = some (.slice B m' d)) ∧ (W.cell? ⟨w.heap.size + 1, 2, none⟩ = some (.bool o2) ∧ W.cell? ⟨w.heap.size + 1, 3, none⟩ = some (.slice D p' f))) ∧ W.cell? ⟨g, 0, none⟩ = some (.bool bg) ∧ W.cell? ⟨g, 1, none⟩ = some (.slice E r s))
    (exact ⟨⟨⟨Loc.c 2 L1, Loc.c 3 L1⟩, Loc.c 2 L2, Loc.c 3 L2⟩, Loc.c 0 L5, Loc.c 1 L5⟩)
    (first
     | (go_at_call_of 350 (Value.agg #[Value.bool n2, Value.slice B m' d]); refine (mul_any _ (fun _ => False) _ _ _ _ _ _ i2.to j2.to (Nat.le_trans HX.out.2 (by omega)) (Nat.le_trans HY.out.2 (by omega))).mono ?_; rintro e u1 ⟨w1, rfl, k1, hb1⟩; rw [sv_dig, sv_dig] at k1; obtain ⟨bw1, Aw1, mw1, kw1, rfl, k1⟩ := k1.op; have yu1 := hb1.size; (try simp only [zs] at yu1))
     | (go_at_call 348; refine (clean_rat _ (fun _ => False) _ (x + y) ⟨_, _, _, _, (ratR_of i5.to k1.to), Nat.le_trans HS.out (by omega), Nat.le_trans HD.out (by omega), by unfold rv; rw [sv_dig, sv_dig]; exact rat_add x y⟩).mono ?_; rintro e u2 ⟨v6, rfl, h6, hb6⟩; obtain ⟨b6, A6, m6, k6, b6', A6', m6', k6', rfl, h6, -, -⟩ := h6.op; have y6 := hb6.size; (try simp only [zs] at y6); obtain ⟨e5, g5, -⟩ := Loc.all L3 (w' := u2)))
   all_goals
    go_wp2_with fail
    refine bodyPost_ret (by simp [results, Tryz.results292, go_sem, e5, g5] <;> rfl) rfl ⟨_, rfl, h6.out, bel⟩

/- Divide of the reference. -/

/- rational.Sub; of the reference: isZero, zero, New, Clean, Of, Sign. -/

theorem field_words (w : World) (b : Bool) (A : Option Addr) (n c : Nat) : (Instr.field 211 (.agg #[.bool b, .slice A n c]) 1).run Tryz.prog w = .ok (.slice A n c) w := by kernel_rfl
attribute [local go_sem] field_words
end Go.Proofs.YtbdcjhoedhhabaaGreat

/- whole, zero, negative, dot. -/
namespace Go.Proofs.YtbdcjhoedhhabaaGreat
open Go.RowKit
attribute [local go_sem ↓] Go.wp_at_zero Go.wp_at_succ

theorem divInt_int (z : Int) : Rat.divInt z 1 = (z : Rat) := by rw [Rat.divInt_eq_div]; have : ((1 : Int) : Rat) = 1 := rfl; grind

theorem rsz_int {z : Int} (h0 : -9223372036854775808 ≤ z) (h1 : z ≤ 9223372036854775807) : Rsz 2 (z : Rat) := by
 rw [← divInt_int]; exact divInt_Rsz (by omega) (dig_i64 z h0 h1) (dig_i64 1 (by decide) (by decide))

set_option maxHeartbeats 2000000 in
theorem whole_lin (w : World) (n : Int) (h0 : -9223372036854775808 ≤ n) (h1 : n ≤ 9223372036854775807) :
 Calls Tryz.prog 381 #[.int .i64 n] w fun e w' => ∃ v', e = .returned v' ∧ RatV w' (Old w) v' (n : Rat) ∧ Below w.heap.size w w' := by
 have L := made1 w #[.bool false, .slice none 0 0, .bool false, .slice none 0 0] 213
 go_enter Tryz.func381, Tryz.ntmps381
 go_wp2_with fail
 refine (ratof_any _ n 1 (by decide) h0 h1 (by decide) (by decide)).mono ?_
 rintro e w1 ⟨v1, rfl, i1, hb1⟩
 rw [divInt_int] at i1
 obtain ⟨b1, A1, m1, c1, b1', A1', m1', c1', rfl, i1, -, -⟩ := i1.op
 have z1 := sz1 hb1
 have M := made1 w1 #[.bool b1, .slice A1 m1 c1, .bool b1', .slice A1' m1' c1'] 213
 obtain ⟨e4, g4, -⟩ := L.all (w' := w1.alloc (.cells #[.bool b1, .slice A1 m1 c1, .bool b1', .slice A1' m1' c1'] 213))
 obtain ⟨e6, g6, l6⟩ := L.all (w' := w1)
 obtain ⟨e5, g5, -⟩ := M.all (w' := w1.alloc (.cells #[.bool b1, .slice A1 m1 c1, .bool b1', .slice A1' m1' c1'] 213))
 have LF := Loc.fill4 (u := .bool b1) (v := .slice A1 m1 c1) (x := .bool b1') (y := .slice A1' m1' c1') (L.to (w' := w1))
 obtain ⟨e8, g8, -⟩ := LF.all (w' := ((((w1.setCell ⟨w.heap.size, 0, none⟩ (.bool b1)).setCell ⟨w.heap.size, 1, none⟩ (.slice A1 m1 c1)).setCell ⟨w.heap.size, 2, none⟩ (.bool b1')).setCell ⟨w.heap.size, 3, none⟩ (.slice A1' m1' c1')).alloc (.cells #[.bool b1, .slice A1 m1 c1, .bool b1', .slice A1' m1' c1'] 213))
 go_wp2_with fail
 refine bodyPost_ret (by simp [results, Tryz.results381, go_sem, e8, g8] <;> rfl) rfl ⟨_, rfl, RatV.out i1, bel⟩

set_option maxHeartbeats 2000000 in
theorem zero_lin (w : World) :
 Calls Tryz.prog 347 #[] w fun e w' => ∃ v', e = .returned v' ∧ RatV w' (Old w) v' 0 ∧ Below w.heap.size w w' := by
 have L := made1 w #[.bool false, .slice none 0 0, .bool false, .slice none 0 0] 213
 go_enter Tryz.func347, Tryz.ntmps347
 go_wp2_with fail
 refine (whole_lin _ 0 (by decide) (by decide)).mono ?_
 rintro e w1 ⟨v1, rfl, i1, hb1⟩
 rw [show ((0 : Int) : Rat) = 0 from rfl] at i1
 obtain ⟨b1, A1, m1, c1, b1', A1', m1', c1', rfl, i1, -, -⟩ := i1.op
 have z1 := sz1 hb1
 obtain ⟨e4, g4, -⟩ := L.all (w' := w1)
 go_wp2_with fail
 refine bodyPost_ret (by simp [results, Tryz.results347, go_sem, e4, g4] <;> rfl) rfl ⟨_, rfl, RatV.out i1, bel⟩

theorem sign_neg_iff (q : Rat) : q.num.sign < 0 ↔ q < 0 := by
 have h : q.num.sign < 0 ↔ ¬ 0 ≤ q := by
  rw [← Rat.num_nonneg]
  rcases Int.lt_trichotomy q.num 0 with h | h | h
  ·rw [Int.sign_eq_neg_one_of_neg h]; omega
  ·rw [h]; decide
  ·rw [Int.sign_eq_one_of_pos h]; omega
 rw [h, Rat.not_le]

set_option maxHeartbeats 2000000 in
theorem negative_any (w : World) (k : Nat) (v : Value) (q : Rat) (h : RatL k w (fun _ => False) v q) :
 Calls Tryz.prog 233 #[v] w fun e w' => e = .returned (.bool (decide (q < 0))) ∧ Below w.heap.size w w' := by
 have hq := sign_neg_iff q
 obtain ⟨b, hb⟩ : ∃ b, decide (q < 0) = b := ⟨_, rfl⟩
 rw [hb]
 obtain ⟨n1, A, m, c, n2, B, m', d, rfl, h, -⟩ := h.op
 have HB : Hid (decide (q.num.sign < 0) = b) := by show _ = _; rw [← hb]; exact decide_eq_decide.2 hq
 clear hq hb
 go_enter Tryz.func233, Tryz.ntmps233
 go_wp2_with fail
 refine (sign_rat _ (fun _ => False) k _ q h.to).mono ?_
 rintro e w1 ⟨rfl, hb1⟩
 have z1 := sz1 hb1
 have HB2 := HB.out
 generalize q.num.sign = s at *
 clear HB
 cases b
 ·have h2 : ¬ s < 0 := of_decide_eq_false HB2
  go_wp2_with fail
  go_ret
  refine ⟨?_, bel⟩
  simp
 ·have h2 : s < 0 := of_decide_eq_true HB2
  go_wp2_with fail
  go_ret
  exact ⟨rfl, bel⟩

set_option maxHeartbeats 8000000 in
theorem dot_any (w : World) (v1 v2 : Value) (n n2 k : Nat) (f q : Nat → Rat) (h1 : Nums k w (fun _ => False) v1 n f) (h2 : Nums k w (fun _ => False) v2 n2 q) (hn : n ≤ n2) (hn2 : n ≤ 200) (hk1 : 1 ≤ k) (hk : k ≤ 10000) :
 Calls Tryz.prog 234 #[v1, v2] w fun e w' => ∃ v', e = .returned v' ∧ RatV w' (Old w) v' (sm n (fun i => f i * q i)) ∧ Below w.heap.size w w' := by
 obtain ⟨A, c1, rfl, h1, l1, l2⟩ := h1.op
 obtain ⟨B, c2, rfl, h2, l3, l4⟩ := h2.op
 have HF := Lib.hid (h1.rsz hk1)
 have HQ := Lib.hid (h2.rsz hk1)
 have HS : Hid (∀ i, i ≤ n → Rsz ((2 * k + 2) * i + 2) (sm i (fun i => f i * q i))) := fun i => by
  induction i with
  | zero => intro _; exact (rsz_int (z := 0) (by decide) (by decide))
  | succ i ih =>
    intro hi
    rw [sm_succ]
    exact ((ih (by omega)).add ((HF.out i (by omega)).mul (HQ.out i (by omega)))).mono (by rw [Nat.mul_add]; omega)
 have HN := Lib.hid hn
 have HKB : Hid (∀ i, i ≤ n → (2 * k + 2) * i + 2 ≤ 4010000) := fun i hi => by
  have : (2 * k + 2) * i ≤ (2 * 10000 + 2) * 200 := Nat.mul_le_mul (by omega) (by omega)
  omega
 have H1 := Lib.hid h1
 have H2 := Lib.hid h2
 clear h1 h2
 have L := made1 w #[.bool false, .slice none 0 0, .bool false, .slice none 0 0] 213
 go_enter Tryz.func234, Tryz.ntmps234
 go_wp2_with fail
 refine (zero_lin _).mono ?_
 rintro e w1 ⟨v1, rfl, i1, hb1⟩
 obtain ⟨b1, A1, m1, c1, b1', A1', m1', c1', rfl, i1, -, -⟩ := i1.op
 have z1 := sz1 hb1
 have M := made1 w1 #[.bool b1, .slice A1 m1 c1, .bool b1', .slice A1' m1' c1'] 213
 go_wp2_with fail
 go_loopw [10] (fun i wr => ∃ (c : Nat) (r : R4), c ≤ n ∧ i = .int .i64 c ∧ Loc wr w1.heap.size 213 #[.bool r.b, .slice r.A r.m r.c, .bool r.b', .slice r.A' r.m' r.c'] ∧ RatV wr (fun b => b ≤ w.heap.size ∨ b = w1.heap.size) r.v (sm c (fun i => f i * q i)) ∧
  Loc wr w.heap.size 213 #[.bool false, .slice none 0 0, .bool false, .slice none 0 0] ∧ Below w.heap.size w wr) (fun i _ => n - (intOf i).toNat)
 case atStart => exact ⟨0, ⟨b1, A1, m1, c1, b1', A1', m1', c1'⟩, by omega, rfl, M, RatV.out i1, L.to, bel⟩
 case round =>
  obtain ⟨c, r, hc, rfl, N, s1, NL, hB⟩ := hrel
  obtain ⟨wo, rfl⟩ : ∃ wo : World, wo = wr := ⟨_, rfl⟩
  obtain ⟨b2, A2, m2, c2, b2', A2', m2', c2'⟩ := r
  unfold R4.v at s1
  dsimp only at N s1
  have q1 := Loc.lt N
  have q2 := Loc.lt NL
  clear i1 M L hb1
  by_cases hlt : c < n
  ·obtain ⟨a, b3, A3, m3, c3, b3', A3', m3', c3', rfl, ha, -, x0, x1, x2, x3, r3⟩ := Nums.at (Nums.keep H1.out (.of_below hB)) hlt
   obtain ⟨a', b4, A4, m4, c4, b4', A4', m4', c4', rfl, ha', -, y0, y1, y2, y3, r4⟩ := Nums.at (Nums.keep H2.out (.of_below hB)) (show c < n2 by have := HN.out; omega)
   have hcn2 : c < n2 := by have := HN.out; omega
   replace x0 : wo.drew.cell? (a.add (c * 4)) = _ := x0
   replace x1 : wo.drew.cell? ⟨(a.add (c * 4)).block, (a.add (c * 4)).off + 1, none⟩ = _ := x1
   replace x2 : wo.drew.cell? ⟨(a.add (c * 4)).block, (a.add (c * 4)).off + 2, none⟩ = _ := x2
   replace x3 : wo.drew.cell? ⟨(a.add (c * 4)).block, (a.add (c * 4)).off + 3, none⟩ = _ := x3
   replace y0 : wo.drew.cell? (a'.add (c * 4)) = _ := y0
   replace y1 : wo.drew.cell? ⟨(a'.add (c * 4)).block, (a'.add (c * 4)).off + 1, none⟩ = _ := y1
   replace y2 : wo.drew.cell? ⟨(a'.add (c * 4)).block, (a'.add (c * 4)).off + 2, none⟩ = _ := y2
   replace y3 : wo.drew.cell? ⟨(a'.add (c * 4)).block, (a'.add (c * 4)).off + 3, none⟩ = _ := y3
   obtain ⟨e1, f1, -⟩ := Loc.all N (w' := wo.drew)
   have HM : Hid (Rsz (k + k) (f c * q c)) := (HF.out c hlt).mul (HQ.out c hcn2)
   have HC := Lib.hid (HS.out c hc)
   have HCK := Lib.hid (HKB.out c hc)
   have HE : Hid (sm c (fun i => f i * q i) + f c * q c = sm (c + 1) (fun i => f i * q i)) := rfl
   go_upto_block 1 with fail
   go_cut [] from 11 to 23 (fun W => ∃ r : R4, Loc W w1.heap.size 213 #[.bool r.b, .slice r.A r.m r.c, .bool r.b', .slice r.A' r.m' r.c'] ∧ RatV W (fun b => b ≤ w.heap.size ∨ b = w1.heap.size) r.v (sm (c + 1) (fun i => f i * q i)) ∧
    Loc W w.heap.size 213 #[.bool false, .slice none 0 0, .bool false, .slice none 0 0] ∧ Below w.heap.size w W)
   case first =>
    go_wp2_with fail
    go_region_with (first
     | (go_at_call 293; go_loud (refine (mul_rat _ (fun _ => False) _ _ (f c) (q c) (RatL.to (r3.mono (by omega))) (RatL.to (r4.mono (by omega)))).mono ?_; rintro e u1 ⟨v5, rfl, i5, hb5⟩; obtain ⟨b5, A5, m5, c5, b5', A5', m5', c5', rfl, i5, -, -⟩ := i5.op; have y5 := hb5.size; (try simp only [zs] at y5); obtain ⟨e2, f2, -⟩ := Loc.all N (w' := u1)))
     | (go_at_call 292; refine (add_rat _ (fun _ => False) _ _ (sm c (fun i => f i * q i)) (f c * q c) (RatL.to ((s1.len HC.out).mono (Nat.le_trans HCK.out (by omega)))) (RatL.to ((i5.len HM.out).mono (by omega)))).mono ?_; rintro e u2 ⟨v6, rfl, i6, hb6⟩; rw [HE.out] at i6; obtain ⟨b6, A6, m6, c6, b6', A6', m6', c6', rfl, i6, -, -⟩ := i6.op; have y6 := hb6.size; (try simp only [zs] at y6); obtain ⟨e3, f3, -⟩ := Loc.all N (w' := u2)))
    all_goals
     go_wp2_with fail
     go_meet
     exact ⟨⟨b6, A6, m6, c6, b6', A6', m6', c6'⟩, Loc.fill4 (Loc.to N (w' := u2)), RatV.out i6, Loc.to NL, bel⟩
   case rest =>
    obtain ⟨r, N6, s6, NL6, hB6⟩ := hcut
    obtain ⟨w6, rfl⟩ : ∃ w6 : World, w6 = wc := ⟨_, rfl⟩
    clear x0 x1 x2 x3 y0 y1 y2 y3 e1 f1
    go_wp2_with fail
    go_roundw
    case rel => exact ⟨c + 1, r, by omega, by go_num, N6, s6, NL6, hB6⟩
    case measure => simp only [intOf]; omega
  ·obtain rfl : c = n := by omega
   obtain ⟨e1, f1, -⟩ := Loc.all N (w' := wo)
   obtain ⟨e4, f4, -⟩ := Loc.all NL (w' := wo)
   go_wp2_with fail
   refine bodyPost_ret (by simp [results, Tryz.results234, go_sem, e4, f4] <;> rfl) rfl ⟨_, rfl, RatV.out s1, bel⟩
end Go.Proofs.YtbdcjhoedhhabaaGreat

