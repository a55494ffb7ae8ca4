/- Contracts of the functions that the statements reach, part 38. -/
import Derived.Test.YtpeglenapmkdfaaGreatRows
import Derived.Test.YtpeglenapmkdfaaGreatM20
set_option linter.unusedSimpArgs false
set_option linter.unusedVariables false

/- New of the reference. -/
namespace Go.Proofs.YtpeglenapmkdfaaGreat
open Go.RowKit
attribute [local go_sem ↓] Go.wp_at_zero Go.wp_at_succ

set_option maxHeartbeats 4000000 in
theorem rnew_zero (w : World) (X : Nat → Prop) (v1 v2 : Value) (n1 n2 : Bool) (xs ys : List Nat) (h1 : IntR w X v1 n1 xs) (h2 : IntR w X v2 n2 ys) (hz : val ys = 0) (hs1 : xs.length ≤ 10000000) (hs2 : ys.length ≤ 10000000) :
    Calls Tryz.prog 53 #[v1, v2] w fun e w' => e = .returned (.tuple #[.agg #[.bool false, .slice none 0 0, .bool false, .slice none 0 0], .int .i64 3]) ∧ Below w.heap.size w w' := by
  have HL2 := Lib.hid (sv_len n2 ys h2.ws)
  obtain ⟨A, c, rfl, h1⟩ := h1.op
  obtain ⟨B, d, rfl, h2⟩ := h2.op
  have HZ : Hid (sv n2 ys = 0) := (sv_zero_iff n2 ys).2 hz
  clear hz
  have L2 := made2 w (.cells #[.bool n1, .slice A xs.length c] 42) #[.bool n2, .slice B ys.length d] 42
  have L3 := made3 w (.cells #[.bool n1, .slice A xs.length c] 42) (.cells #[.bool n2, .slice B ys.length d] 42) #[.bool false, .slice none 0 0, .bool false, .slice none 0 0] 44
  go_enter Tryz.func53, Tryz.ntmps53
  go_wp2_with fail
  refine (rclean_any _ (fun _ => False) _ n1 xs h1.to (by omega)).mono ?_
  rintro e w1 ⟨v3, rfl, i1, hb1⟩
  obtain ⟨b3, A3, m3, c3, rfl, i1⟩ := i1.op
  obtain ⟨z1, z2, z3⟩ := sz3 hb1
  obtain ⟨e2, f2, -⟩ := Loc.all L2 (w' := w1)
  go_wp2_with fail
  refine (rclean_any _ (fun _ => False) _ n2 ys h2.to (by omega)).mono ?_
  rintro e w2 ⟨v4, rfl, i2, hb2⟩
  obtain ⟨b4, A4, m4, c4, rfl, i2⟩ := i2.op
  have y2 := hb2.size; (try simp only [World.size_alloc, size_set, size_drew, size_drewN] at y2)
  clear e2 f2
  go_wp2_with fail
  refine (isZero_any _ (fun _ => False) _ _ _ i2.to (Nat.le_trans HL2.out (by omega))).mono ?_
  rintro e w3 ⟨he, hb3⟩
  rw [sv_dig, HZ.out] at he
  subst he
  have y3 := hb3.size; (try simp only [World.size_alloc, size_set, size_drew, size_drewN] at y3)
  obtain ⟨e5, g5, -⟩ := Loc.all L3 (w' := w3)
  go_wp2_with fail
  refine bodyPost_ret (by simp [results, Tryz.results53, go_sem, e5, g5] <;> rfl) rfl ⟨rfl, bel⟩

set_option maxHeartbeats 8000000 in
theorem rnew_any (w : World) (X : Nat → Prop) (v1 v2 : Value) (n1 n2 : Bool) (xs ys : List Nat) (h1 : IntR w X v1 n1 xs) (h2 : IntR w X v2 n2 ys) (hz : val ys ≠ 0) (hs1 : xs.length ≤ 10000000) (hs2 : ys.length ≤ 10000000) :
    Calls Tryz.prog 53 #[v1, v2] w fun e w' => ∃ v', e = .returned (.tuple #[v', .int .i64 0]) ∧ RatV w' (Old w) v' (Rat.divInt (sv n1 xs) (sv n2 ys)) ∧ Below w.heap.size w w' := by
  have HL1 := Lib.hid (Nat.le_trans (sv_len n1 xs h1.ws) hs1)
  have HL2 := Lib.hid (Nat.le_trans (sv_len n2 ys h2.ws) hs2)
  obtain ⟨A, c, rfl, h1⟩ := h1.op
  obtain ⟨B, d, rfl, h2⟩ := h2.op
  have hd0 : sv n2 ys ≠ 0 := fun h => hz ((sv_zero_iff n2 ys).1 h)
  obtain ⟨N, hN⟩ : ∃ z, sv n1 xs = z := ⟨_, rfl⟩
  obtain ⟨D, hD⟩ : ∃ z, sv n2 ys = z := ⟨_, rfl⟩
  rw [hD] at hd0 HL2
  rw [hN] at HL1
  have HN := Lib.hid hN
  have HD := Lib.hid hD
  have HD0 := Lib.hid (decide_eq_false hd0)
  obtain ⟨q, hq⟩ : ∃ q, Rat.divInt (sv n1 xs) (sv n2 ys) = q := ⟨_, rfl⟩
  rw [hq]
  rw [hN, hD] at hq
  have HQ := Lib.hid hq
  clear hq hz hN hD
  have L2 := made2 w (.cells #[.bool n1, .slice A xs.length c] 42) #[.bool n2, .slice B ys.length d] 42
  have L3 := made3 w (.cells #[.bool n1, .slice A xs.length c] 42) (.cells #[.bool n2, .slice B ys.length d] 42) #[.bool false, .slice none 0 0, .bool false, .slice none 0 0] 44
  go_enter Tryz.func53, Tryz.ntmps53
  go_wp2_with fail
  refine (rclean_any _ (fun _ => False) _ n1 xs h1.to (by omega)).mono ?_
  rintro e w1 ⟨v3, rfl, i1, hb1⟩
  rw [HN.out] at i1
  obtain ⟨b3, A3, m3, c3, rfl, i1⟩ := i1.op
  obtain ⟨z1, z2, z3⟩ := sz3 hb1
  obtain ⟨e2, f2, -⟩ := Loc.all L2 (w' := w1)
  go_wp2_with fail
  have L6 := made1 w1 #[.bool b3, .slice A3 m3 c3] 42
  refine (rclean_any _ (fun _ => False) _ n2 ys h2.to (by omega)).mono ?_
  rintro e w2 ⟨v4, rfl, i2, hb2⟩
  rw [HD.out] at i2
  obtain ⟨b4, A4, m4, c4, rfl, i2, HB4, -⟩ := i2.opb
  have y2 := hb2.size; (try simp only [World.size_alloc, size_set, size_drew, size_drewN] at y2)
  clear e2 f2
  go_wp2_with fail
  have L7 := made1 w2 #[.bool b4, .slice A4 m4 c4] 42
  refine (isZero_any _ (fun _ => False) _ _ _ i2.to (Nat.le_trans HL2.out (by omega))).mono ?_
  rintro e w3 ⟨he, hb3⟩
  rw [sv_dig, HD0.out] at he
  subst he
  have y3 := hb3.size; (try simp only [World.size_alloc, size_set, size_drew, size_drewN] at y3)
  obtain ⟨e6, f6, -⟩ := Loc.all L6 (w' := w3)
  go_wp2_with fail
  refine (isZero_any _ (fun _ => False) _ _ _ i1.to (Nat.le_trans HL1.out (by omega))).mono ?_
  rintro e w4 ⟨he, hb4⟩
  rw [sv_dig] at he
  have y4 := hb4.size; (try simp only [World.size_alloc, size_set, size_drew, size_drewN] at y4)
  by_cases hn0 : N = 0
  · rw [decide_eq_true hn0] at he
    subst he
    have hq0 := HQ.out
    rw [hn0, Rat.zero_divInt] at hq0
    subst hq0
    clear hn0 e6 f6
    go_wp2_with fail
    refine (rzero_rat _).mono ?_
    rintro e w5 ⟨v5, rfl, h5, hb5⟩
    obtain ⟨b5, A5, m5, c5, b5', A5', m5', c5', rfl, h5, -, -⟩ := h5.op
    have y5 := hb5.size; (try simp only [World.size_alloc, size_set, size_drew, size_drewN] at y5)
    obtain ⟨e5, g5, -⟩ := Loc.all L3 (w' := w5)
    go_wp2_with fail
    refine bodyPost_ret (by simp [results, Tryz.results53, go_sem, e5, g5] <;> rfl) rfl ⟨_, rfl, h5.out, bel⟩
  · rw [decide_eq_false hn0] at he
    subst he
    have HN0 := Lib.hid hn0
    have HDN := Lib.hid hd0
    clear hn0 hd0 e6 f6
    obtain ⟨e7, f7, -⟩ := Loc.all L7 (w' := w4)
    obtain ⟨e6, f6, -⟩ := Loc.all L6 (w' := w4)
    go_upto_if 26 with fail
    go_cut [26] (fun _ W => ∃ (b : Bool) (C : Option Addr) (m k : Nat) (b' : Bool) (C' : Option Addr) (m' k' : Nat) (us vs : Int), Loc W w1.heap.size 42 #[.bool b, .slice C m k] ∧ Loc W w2.heap.size 42 #[.bool b', .slice C' m' k'] ∧ Loc W (w.heap.size + 1 + 1) 44 #[.bool false, .slice none 0 0, .bool false, .slice none 0 0] ∧
      IntV W (fun b => w.heap.size + 2 = b ∨ w1.heap.size = b ∨ w2.heap.size = b) (.agg #[.bool b, .slice C m k]) us ∧ IntV W (fun b => w.heap.size + 2 = b ∨ w1.heap.size = b ∨ w2.heap.size = b) (.agg #[.bool b', .slice C' m' k']) vs ∧
      Hid (us = (if D < 0 then -N else N) ∧ vs = (if D < 0 then -D else D)) ∧ Below w.heap.size w W)
    case first =>
      have hb4 := HB4.out
      by_cases hneg : D < 0
      · rw [decide_eq_true hneg] at hb4
        subst hb4
        have HNEG := Lib.hid hneg
        clear hneg
        go_wp2_with fail
        refine (rneg_any _ (fun _ => False) _ _ _ i1.to (Nat.le_trans HL1.out (by omega))).mono ?_
        rintro e u1 ⟨v5, rfl, j1, hb5⟩
        rw [sv_dig] at j1
        obtain ⟨b5, A5, m5, k5, rfl, j1⟩ := j1.op
        have y5 := hb5.size; (try simp only [World.size_alloc, size_set, size_drew, size_drewN] at y5)
        clear e6 f6 e7 f7
        obtain ⟨e6, f6, -⟩ := Loc.all L6 (w' := u1)
        obtain ⟨e7, f7, -⟩ := Loc.all L7 (w' := u1)
        have n67 : w1.heap.size ≠ w2.heap.size := by omega
        have n76 : w2.heap.size ≠ w1.heap.size := by omega
        go_wp2_with fail
        refine (rneg_any _ (fun _ => False) _ _ _ i2.to (Nat.le_trans HL2.out (by omega))).mono ?_
        rintro e u2 ⟨v6, rfl, j2, hb6⟩
        rw [sv_dig] at j2
        obtain ⟨b6, A6, m6, k6, rfl, j2⟩ := j2.op
        have y6 := hb6.size; (try simp only [World.size_alloc, size_set, size_drew, size_drewN] at y6)
        have M6 := Loc.fill2 (u := .bool b5) (v := .slice A5 m5 k5) (Loc.to L6 (w' := u1))
        obtain ⟨e8, f8, -⟩ := Loc.all L7 (w' := u2)
        go_wp2_with fail
        go_meet
        exact ⟨_, _, _, _, _, _, _, _, _, _, Loc.to M6, Loc.fill2 (Loc.to L7 (w' := u2)), Loc.to L3, IntV.out j1, IntV.out j2, ⟨by rw [if_pos HNEG.out], by rw [if_pos HNEG.out]⟩, bel⟩
      · rw [decide_eq_false hneg] at hb4
        subst hb4
        have HNEG := Lib.hid hneg
        clear hneg
        go_wp2_with fail
        go_meet
        exact ⟨_, _, _, _, _, _, _, _, _, _, Loc.to L6, Loc.to L7, Loc.to L3, IntV.out i1, IntV.out i2, ⟨by rw [if_neg (by have := HNEG.out; omega)], by rw [if_neg (by have := HNEG.out; omega)]⟩, bel⟩
    case rest =>
      obtain ⟨b, C, m, k, b', C', m', k', us, vs, M6, M7, M4, i1, i2, HV, hB⟩ := hcut
      have hn1 : us.natAbs = N.natAbs := by rw [HV.out.1]; split <;> omega
      have hn2 : vs.natAbs = D.natAbs := by rw [HV.out.2]; split <;> omega
      have hu0 : us.natAbs ≠ 0 := by have := HN0.out; omega
      have hGp : 0 < Nat.gcd us.natAbs vs.natAbs := Nat.gcd_pos_of_pos_left _ (by omega)
      have hGl : (dig ((Nat.gcd us.natAbs vs.natAbs : Nat) : Int).natAbs).length ≤ 100000000 := by
        rw [Int.natAbs_natCast]; exact Nat.le_trans (dig_len_mono (Nat.gcd_le_left _ (by omega))) (by rw [hn1]; exact Nat.le_trans HL1.out (by omega))
      have hf := new_fields N D HDN.out HN0.out
      rw [← hn1, ← hn2, ← HV.out.1, ← HV.out.2, HQ.out] at hf
      obtain ⟨G, hG⟩ : ∃ G, Nat.gcd us.natAbs vs.natAbs = G := ⟨_, rfl⟩
      rw [hG] at hf hGl hGp
      have HG := Lib.hid hG
      have HF := Lib.hid hf
      have HLU : Hid ((dig us.natAbs).length ≤ 100000000) := by rw [hn1]; exact Nat.le_trans HL1.out (by omega)
      have HLV : Hid ((dig vs.natAbs).length ≤ 100000000) := by rw [hn2]; exact Nat.le_trans HL2.out (by omega)
      have HGV : Hid (val (dig ((G : Nat) : Int).natAbs) ≠ 0) := by show _ ≠ _; rw [val_dig, Int.natAbs_natCast]; omega
      have HGL := Lib.hid hGl
      have q4 := Loc.lt M4
      have q6 := Loc.lt M6
      have q7 := Loc.lt M7
      have n46 : w.heap.size + 1 + 1 < w1.heap.size := z3
      have n47 : w.heap.size + 1 + 1 < w2.heap.size := by omega
      clear hG hf hn1 hn2 hu0 hGp hGl e6 f6 e7 f7 z1 z2 z3 y2 y3 y4 hb1 hb2 hb3 hb4 L2 L3 L6 L7
      obtain ⟨e6, f6, -⟩ := Loc.all M6 (w' := wc)
      obtain ⟨e7, f7, -⟩ := Loc.all M7 (w' := wc)
      go_wp2_with fail
      refine (rgcd_any _ (fun _ => False) _ _ _ _ _ _ i1.to i2.to (Nat.le_trans HLU.out (by omega)) (Nat.le_trans HLV.out (by omega))).mono ?_
      rintro e w5 ⟨v5, rfl, h5, hb5⟩
      rw [val_dig, val_dig, HG.out] at h5
      obtain ⟨b5, A5, m5, k5, rfl, h5⟩ := h5.op
      have y5 := hb5.size; (try simp only [World.size_alloc, size_set, size_drew, size_drewN] at y5)
      clear e6 f6 e7 f7
      obtain ⟨e6, f6, l6⟩ := Loc.all M6 (w' := w5)
      have M8 := made1 w5 #[.bool b5, .slice A5 m5 k5] 42
      go_wp2_with fail
      refine (rdivide_any _ (fun _ => False) _ _ _ _ _ _ i1.to h5.to HGV.out HLU.out HGL.out).mono ?_
      rintro e w6 ⟨v6, r6, rfl, h6, j6, hb6⟩
      rw [sv_dig, sv_dig, HF.out.1] at h6
      obtain ⟨b6, A6, m6, k6, rfl, h6⟩ := h6.op
      obtain ⟨c6, C6, o6, l6, rfl, j6⟩ := j6.op
      have y6 := hb6.size; (try simp only [World.size_alloc, size_set, size_drew, size_drewN] at y6)
      clear e6 f6
      obtain ⟨e7, f7, l7⟩ := Loc.all M7 (w' := w6)
      obtain ⟨e8, f8, l8⟩ := Loc.all M8 (w' := w6)
      have M9 := made1 w6 #[.bool b6, .slice A6 m6 k6] 42
      go_wp2_with fail
      refine (rdivide_any _ (fun _ => False) _ _ _ _ _ _ i2.to h5.to HGV.out HLV.out HGL.out).mono ?_
      rintro e w7 ⟨v7, r7, rfl, h7, j7, hb7⟩
      rw [sv_dig, sv_dig, HF.out.2] at h7
      obtain ⟨b7, A7, m7, k7, rfl, h7⟩ := h7.op
      obtain ⟨c7, C7, o7, l7, rfl, j7⟩ := j7.op
      have y7 := hb7.size; (try simp only [World.size_alloc, size_set, size_drew, size_drewN] at y7)
      clear e7 f7 e8 f8
      obtain ⟨e9, f9, l9⟩ := Loc.all M9 (w' := w7)
      obtain ⟨e5, f5, l5⟩ := Loc.all M4 (w' := w7)
      have l51 : w.heap.size + 1 < w7.heap.size := by omega
      have l52 : w.heap.size < w7.heap.size := by omega
      go_wp2_with fail
      refine bodyPost_ret (by simp [results, Tryz.results53, go_sem, e5, f5, l5, l51, l52] <;> rfl) rfl ⟨_, rfl, RatV.of h6.out h7.out, bel⟩
end Go.Proofs.YtpeglenapmkdfaaGreat

/- Of the reference: Clean, Of, Sign, Neg, Mul. -/
namespace Go.Proofs.YtpeglenapmkdfaaGreat
open Go.RowKit
attribute [local go_sem ↓] Go.wp_at_zero Go.wp_at_succ

theorem IntV.neg_eq {w : World} {X : Nat → Prop} {b : Bool} {s : Value} {z : Int} (h : IntV w X (.agg #[.bool b, s]) z) : b = decide (z < 0) := by
  obtain ⟨A, c, e, _⟩ := IntR.open_ h
  simp only [Value.agg.injEq, Array.mk.injEq, List.cons.injEq, Value.bool.injEq, and_true] at e
  exact e.1

set_option maxHeartbeats 2000000 in
theorem rclean_rat (w : World) (X : Nat → Prop) (v : Value) (q : Rat) (h : RatL 10000000 w X v q) :
    Calls Tryz.prog 50 #[v] w fun e w' => ∃ v', e = .returned v' ∧ RatV w' (Old w) v' q ∧ Below w.heap.size w w' := by
  obtain ⟨n1, A, m, c, n2, B, m', d, rfl, -, xs, ys, i1, i2, l1, l2, HE⟩ := h.op
  clear h
  by_cases hz : val ys = 0
  · have hq0 : q = 0 := by rw [← HE.out]; unfold rv; rw [(sv_zero_iff n2 ys).2 hz, Rat.divInt_zero]
    subst hq0
    go_enter Tryz.func50, Tryz.ntmps50
    go_wp2_with fail
    refine (rnew_zero _ (fun _ => False) _ _ n1 n2 xs ys i1.to i2.to hz l1 l2).mono ?_
    rintro e w1 ⟨rfl, hb1⟩
    obtain ⟨z1, z2⟩ := sz2 hb1
    go_wp2_with fail
    refine (rzero_rat _).mono ?_
    rintro e w2 ⟨v2, rfl, h2, hb2⟩
    obtain ⟨b2, A2, m2, c2, b3, A3, m3, c3, rfl, h2, -, -⟩ := h2.op
    have y2 := hb2.size; (try simp only [World.size_alloc, size_set, size_drew, size_drewN] at y2)
    obtain ⟨e4, g4, -⟩ := (made2 w _ #[.bool false, .slice none 0 0, .bool false, .slice none 0 0] 44).all (w' := w2)
    go_wp2_with fail
    refine bodyPost_ret (by simp [results, Tryz.results50, go_sem, e4, g4] <;> rfl) rfl ⟨_, rfl, h2.out, bel⟩
  · go_enter Tryz.func50, Tryz.ntmps50
    go_wp2_with fail
    refine (rnew_any _ (fun _ => False) _ _ n1 n2 xs ys i1.to i2.to hz l1 l2).mono ?_
    rintro e w1 ⟨v2, rfl, h2, hb1⟩
    have hq : Rat.divInt (sv n1 xs) (sv n2 ys) = q := HE.out
    rw [hq] at h2
    clear hq
    obtain ⟨z1, z2⟩ := sz2 hb1
    obtain ⟨b2, A2, m2, c2, b3, A3, m3, c3, rfl, h2, -, -⟩ := h2.op
    obtain ⟨e4, g4, -⟩ := (made2 w _ #[.bool false, .slice none 0 0, .bool false, .slice none 0 0] 44).all (w' := w1)
    go_wp2_with fail
    refine bodyPost_ret (by simp [results, Tryz.results50, go_sem, e4, g4, z1, z2] <;> rfl) rfl ⟨_, rfl, h2.out, bel⟩

set_option maxHeartbeats 2000000 in
theorem rratof_zero (w : World) (n : Int) (h0 : -9223372036854775808 ≤ n) (h1 : n ≤ 9223372036854775807) :
    Calls Tryz.prog 54 #[.int .i64 n, .int .i64 0] w fun e w' => e = .returned (.tuple #[.agg #[.bool false, .slice none 0 0, .bool false, .slice none 0 0], .int .i64 3]) ∧ Below w.heap.size w w' := by
  have HN := Lib.hid (dig_i64 n h0 h1)
  go_enter Tryz.func54, Tryz.ntmps54
  go_wp2_with fail
  refine (rsmallI _ n h0 h1).mono ?_
  rintro e w1 ⟨v1, rfl, i1, hb1⟩
  obtain ⟨b1, A1, m1, c1, rfl, i1⟩ := i1.op
  have z1 := sz1 hb1
  go_wp2_with fail
  refine (rsmallI _ 0 (by decide) (by decide)).mono ?_
  rintro e w2 ⟨v2, rfl, i2, hb2⟩
  obtain ⟨b2, A2, m2, c2, rfl, i2⟩ := i2.op
  have y2 := hb2.size; (try simp only [World.size_alloc, size_set, size_drew, size_drewN] at y2)
  go_wp2_with fail
  refine (rnew_zero _ (fun _ => False) _ _ _ _ _ _ i1.to i2.to (by rw [val_dig]; rfl) (Nat.le_trans HN.out (by omega)) (Nat.le_trans (dig_i64 0 (by decide) (by decide)) (by omega))).mono ?_
  rintro e w3 ⟨rfl, hb3⟩
  have y3 := hb3.size; (try simp only [World.size_alloc, size_set, size_drew, size_drewN] at y3)
  obtain ⟨e4, g4, -⟩ := (made1 w #[.bool false, .slice none 0 0, .bool false, .slice none 0 0] 44).all (w' := w3)
  go_wp2_with fail
  refine bodyPost_ret (by simp [results, Tryz.results54, go_sem, e4, g4] <;> rfl) rfl ⟨rfl, bel⟩

set_option maxHeartbeats 2000000 in
theorem rratof_any (w : World) (n d : Int) (hd : d ≠ 0) (h0 : -9223372036854775808 ≤ n) (h1 : n ≤ 9223372036854775807) (h2 : -9223372036854775808 ≤ d) (h3 : d ≤ 9223372036854775807) :
    Calls Tryz.prog 54 #[.int .i64 n, .int .i64 d] w fun e w' => ∃ v', e = .returned (.tuple #[v', .int .i64 0]) ∧ RatV w' (Old w) v' (Rat.divInt n d) ∧ Below w.heap.size w w' := by
  have HN := Lib.hid (dig_i64 n h0 h1)
  have HD := Lib.hid (dig_i64 d h2 h3)
  go_enter Tryz.func54, Tryz.ntmps54
  go_wp2_with fail
  refine (rsmallI _ n h0 h1).mono ?_
  rintro e w1 ⟨v1, rfl, i1, hb1⟩
  obtain ⟨b1, A1, m1, c1, rfl, i1⟩ := i1.op
  have z1 := sz1 hb1
  go_wp2_with fail
  refine (rsmallI _ d h2 h3).mono ?_
  rintro e w2 ⟨v2, rfl, i2, hb2⟩
  obtain ⟨b2, A2, m2, c2, rfl, i2⟩ := i2.op
  have y2 := hb2.size; (try simp only [World.size_alloc, size_set, size_drew, size_drewN] at y2)
  go_wp2_with fail
  refine (rnew_any _ (fun _ => False) _ _ _ _ _ _ i1.to i2.to (by rw [val_dig]; omega) (Nat.le_trans HN.out (by omega)) (Nat.le_trans HD.out (by omega))).mono ?_
  rintro e w3 ⟨v3, rfl, h3, hb3⟩
  rw [sv_dig, sv_dig] at h3
  have y3 := hb3.size; (try simp only [World.size_alloc, size_set, size_drew, size_drewN] at y3)
  obtain ⟨b2, A2, m2, c2, b3, A3, m3, c3, rfl, h3, -, -⟩ := h3.op
  obtain ⟨e4, g4, -⟩ := (made1 w #[.bool false, .slice none 0 0, .bool false, .slice none 0 0] 44).all (w' := w3)
  go_wp2_with fail
  refine bodyPost_ret (by simp [results, Tryz.results54, go_sem, e4, g4] <;> rfl) rfl ⟨_, rfl, h3.out, bel⟩

set_option maxHeartbeats 2000000 in
theorem rsign_rat (w : World) (X : Nat → Prop) (v : Value) (q : Rat) (h : RatL 10000000 w X v q) :
    Calls Tryz.prog 45 #[v] w fun e w' => e = .returned (.int .i64 q.num.sign) ∧ Below w.heap.size w w' := by
  have HR := Lib.hid (h.rsz (by omega))
  obtain ⟨n1, A, m, c, n2, B, m', d, rfl, h, -⟩ := h.op
  obtain ⟨s, hs⟩ : ∃ s, q.num.sign = s := ⟨_, rfl⟩
  rw [hs]
  have HS := Lib.hid hs
  clear hs
  go_enter Tryz.func45, Tryz.ntmps45
  go_wp2_with fail
  refine (rclean_rat _ (fun _ => False) _ q h.to).mono ?_
  rintro e w1 ⟨v1, rfl, h1, hb1⟩
  obtain ⟨b2, A2, m2, c2, b3, A3, m3, c3, rfl, h1, j1, j2⟩ := h1.op
  have z1 := sz1 hb1
  have M := made1 w1 #[.bool b2, .slice A2 m2 c2, .bool b3, .slice A3 m3 c3] 44
  have HB := Lib.hid j1.neg_eq
  go_wp2_with fail
  refine (isZero_any _ (fun _ => False) _ _ _ j1.to (Nat.le_trans HR.out.1 (by omega))).mono ?_
  rintro e w2 ⟨he, hb2⟩
  rw [sv_dig] at he
  by_cases hz : q.num = 0
  · rw [decide_eq_true hz] at he
    subst he
    have hs0 : s = 0 := by rw [← HS.out, hz]; rfl
    subst hs0
    clear hz
    go_wp2_with fail
    go_ret
    exact ⟨rfl, bel⟩
  · rw [decide_eq_false hz] at he
    subst he
    obtain ⟨e6, f6, -⟩ := Loc.all M (w' := w2)
    have hb := HB.out
    rcases Int.lt_or_lt_of_ne hz with hl | hl
    · rw [decide_eq_true hl] at hb
      subst hb
      have hs0 : s = -1 := by rw [← HS.out]; exact Int.sign_eq_neg_one_of_neg hl
      subst hs0
      clear hz hl
      go_wp2_with fail
      go_ret
      exact ⟨rfl, bel⟩
    · rw [decide_eq_false (by omega)] at hb
      subst hb
      have hs0 : s = 1 := by rw [← HS.out]; exact Int.sign_eq_one_of_pos hl
      subst hs0
      clear hz hl
      go_wp2_with fail
      go_ret
      exact ⟨rfl, bel⟩

set_option maxHeartbeats 4000000 in
theorem rneg_rat (w : World) (X : Nat → Prop) (v : Value) (q : Rat) (h : RatL 10000000 w X v q) :
    Calls Tryz.prog 95 #[v] w fun e w' => ∃ v', e = .returned v' ∧ RatV w' (Old w) v' (-q) ∧ Below w.heap.size w w' := by
  have HR := Lib.hid (h.rsz (by omega))
  have HV : Hid (val (dig ((q.den : Nat) : Int).natAbs) ≠ 0) := by show _ ≠ _; rw [val_dig, Int.natAbs_natCast]; exact q.den_nz
  have HE : Hid (Rat.divInt (-q.num) (q.den : Int) = -q) := by show _ = _; rw [← Rat.neg_num, ← Rat.neg_den, Rat.num_divInt_den]
  obtain ⟨n1, A, m, c, n2, B, m', d, rfl, h, -⟩ := h.op
  go_enter Tryz.func95, Tryz.ntmps95
  go_wp2_with fail
  refine (rclean_rat _ (fun _ => False) _ q h.to).mono ?_
  rintro e w1 ⟨v1, rfl, h1, hb1⟩
  obtain ⟨b2, A2, m2, c2, b3, A3, m3, c3, rfl, h1, j1, j2⟩ := h1.op
  obtain ⟨z1, z2⟩ := sz2 hb1
  have L1 := made2 w (.cells #[.bool n1, .slice A m c, .bool n2, .slice B m' d] 44) #[.bool false, .slice none 0 0, .bool false, .slice none 0 0] 44
  have M := made1 w1 #[.bool b2, .slice A2 m2 c2, .bool b3, .slice A3 m3 c3] 44
  go_wp2_with fail
  go_region_held3 (fun W => (W.cell? ⟨w1.heap.size, 0, none⟩ = some (.bool b2) ∧ W.cell? ⟨w1.heap.size, 1, none⟩ = some (.slice A2 m2 c2)) ∧ W.cell? ⟨w1.heap.size, 2, none⟩ = some (.bool b3) ∧ W.cell? ⟨w1.heap.size, 3, none⟩ = some (.slice A3 m3 c3))
    (exact ⟨⟨Loc.c 0 M, Loc.c 1 M⟩, Loc.c 2 M, Loc.c 3 M⟩)
    (first
      | (go_at_call 83; refine (rneg_any _ (fun _ => False) _ _ _ j1.to (Nat.le_trans HR.out.1 (by omega))).mono ?_; rintro e u1 ⟨v5, rfl, h5, hb5⟩; rw [sv_dig] at h5; obtain ⟨b5, A5, m5, k5, rfl, h5⟩ := h5.op; have y5 := hb5.size; (try simp only [World.size_alloc, size_set, size_drew, size_drewN] at y5))
      | (go_at_call 53; refine (rnew_any _ (fun _ => False) _ _ _ _ _ _ h5.to j2.to HV.out (by rw [Int.natAbs_neg]; exact HR.out.1) HR.out.2).mono ?_; rintro e u2 ⟨v6, rfl, h6, hb6⟩; rw [sv_dig, sv_dig, HE.out] at h6; obtain ⟨b6, A6, m6, k6, b6', A6', m6', k6', rfl, h6, -, -⟩ := h6.op; have y6 := hb6.size; (try simp only [World.size_alloc, size_set, size_drew, size_drewN] at y6); obtain ⟨e5, g5, l5⟩ := Loc.all L1 (w' := u2); have l52 : w.heap.size < u2.heap.size := (by omega); (first
            | (have q7 := (made2 w1 (.cells #[.bool b2, .slice A2 m2 c2, .bool b3, .slice A3 m3 c3] 44) #[.bool false, .slice none 0 0, .bool false, .slice none 0 0] 44).all (w' := u2); obtain ⟨e7, g7, l7⟩ := q7; have n7 : w.heap.size + 1 ≠ w1.heap.size + 1 := (by omega); have n8 : w.heap.size ≠ w1.heap.size := by omega)
            | (have q7 := (made1 u1 #[.bool false, .slice none 0 0, .bool false, .slice none 0 0] 44).all (w' := u2); obtain ⟨e7, g7, l7⟩ := q7; have n7 : w.heap.size + 1 ≠ u1.heap.size := by omega)
            | skip)))
  all_goals
    go_wp2_with fail
    refine bodyPost_ret (by simp [results, Tryz.results95, go_sem, *] <;> rfl) rfl ⟨_, rfl, h6.out, bel⟩
end Go.Proofs.YtpeglenapmkdfaaGreat

/- Of the reference: Mul, Add, Sub, Divide, Compare. -/
namespace Go.Proofs.YtpeglenapmkdfaaGreat
open Go.RowKit
attribute [local go_sem ↓] Go.wp_at_zero Go.wp_at_succ

theorem den_mul_ne (x y : Rat) : Hid (val (dig (((x.den : Nat) : Int) * ((y.den : Nat) : Int)).natAbs) ≠ 0) := by
  show _ ≠ _
  rw [val_dig, Int.natAbs_mul]
  exact Nat.mul_ne_zero (by have := x.den_nz; omega) (by have := y.den_nz; omega)

set_option maxHeartbeats 4000000 in
theorem rmul_rat (w : World) (X : Nat → Prop) (v1 v2 : Value) (x y : Rat) (h1 : RatL 1000000 w X v1 x) (h2 : RatL 1000000 w X v2 y) :
    Calls Tryz.prog 22 #[v1, v2] w fun e w' => ∃ v', e = .returned v' ∧ RatV w' (Old w) v' (x * y) ∧ Below w.heap.size w w' := by
  have HX := Lib.hid (h1.rsz (by omega))
  have HY := Lib.hid (h2.rsz (by omega))
  have HV := den_mul_ne x y
  have HE : Hid (Rat.divInt (x.num * y.num) ((x.den : Int) * (y.den : Int)) = x * y) := rat_mul x y
  obtain ⟨n1, A, m, c, n2, B, m', d, rfl, h1, -⟩ := h1.op
  obtain ⟨o1, C, p, e, o2, D, p', f, rfl, h2, -⟩ := h2.op
  have L2 := made2 w (.cells #[.bool n1, .slice A m c, .bool n2, .slice B m' d] 44) #[.bool o1, .slice C p e, .bool o2, .slice D p' f] 44
  have L3 := made3 w (.cells #[.bool n1, .slice A m c, .bool n2, .slice B m' d] 44) (.cells #[.bool o1, .slice C p e, .bool o2, .slice D p' f] 44) #[.bool false, .slice none 0 0, .bool false, .slice none 0 0] 44
  go_enter Tryz.func22, Tryz.ntmps22
  go_wp2_with fail
  refine (rclean_rat _ (fun _ => False) _ x (h1.mono (by omega)).to).mono ?_
  rintro e w1 ⟨v3, rfl, h3, hb1⟩
  obtain ⟨b3, A3, m3, c3, b3', A3', m3', c3', rfl, h3, i1, i2⟩ := h3.op
  obtain ⟨z1, z2, z3⟩ := sz3 hb1
  obtain ⟨e2, f2, -⟩ := Loc.all L2 (w' := w1)
  have M1 := made1 w1 #[.bool b3, .slice A3 m3 c3, .bool b3', .slice A3' m3' c3'] 44
  go_wp2_with fail
  refine (rclean_rat _ (fun _ => False) _ y (h2.mono (by omega)).to).mono ?_
  rintro e w2 ⟨v4, rfl, h4, hb2⟩
  obtain ⟨b4, A4, m4, c4, b4', A4', m4', c4', rfl, h4, j1, j2⟩ := h4.op
  have y2 := hb2.size; (try simp only [World.size_alloc, size_set, size_drew, size_drewN] at y2)
  have M2 := made1 w2 #[.bool b4, .slice A4 m4 c4, .bool b4', .slice A4' m4' c4'] 44
  clear e2 f2
  go_wp2_with fail
  go_region_held3 (fun W => ((W.cell? ⟨w1.heap.size, 0, none⟩ = some (.bool b3) ∧ W.cell? ⟨w1.heap.size, 1, none⟩ = some (.slice A3 m3 c3)) ∧ W.cell? ⟨w1.heap.size, 2, none⟩ = some (.bool b3') ∧ W.cell? ⟨w1.heap.size, 3, none⟩ = some (.slice A3' m3' c3')) ∧ (W.cell? ⟨w2.heap.size, 0, none⟩ = some (.bool b4) ∧ W.cell? ⟨w2.heap.size, 1, none⟩ = some (.slice A4 m4 c4)) ∧ W.cell? ⟨w2.heap.size, 2, none⟩ = some (.bool b4') ∧ W.cell? ⟨w2.heap.size, 3, none⟩ = some (.slice A4' m4' c4'))
    (exact ⟨⟨⟨Loc.c 0 M1, Loc.c 1 M1⟩, Loc.c 2 M1, Loc.c 3 M1⟩, ⟨Loc.c 0 M2, Loc.c 1 M2⟩, Loc.c 2 M2, Loc.c 3 M2⟩)
    (first
      | (go_at_call_of 52 (Value.agg #[Value.bool b3, Value.slice A3 m3 c3]); refine (rmul_any _ (fun _ => False) _ _ _ _ _ _ i1.to j1.to (Nat.le_trans HX.out.1 (by omega)) (Nat.le_trans HY.out.1 (by omega))).mono ?_; rintro e u1 ⟨v5, rfl, k1, hb5⟩; rw [sv_dig, sv_dig] at k1; obtain ⟨b5, A5, m5, c5, rfl, k1⟩ := k1.op; have y5 := hb5.size; (try simp only [World.size_alloc, size_set, size_drew, size_drewN] at y5))
      | (go_at_call_of 52 (Value.agg #[Value.bool b3', Value.slice A3' m3' c3']); refine (rmul_any _ (fun _ => False) _ _ _ _ _ _ i2.to j2.to (Nat.le_trans HX.out.2 (by omega)) (Nat.le_trans HY.out.2 (by omega))).mono ?_; rintro e u2 ⟨v6, rfl, k2, hb6⟩; rw [sv_dig, sv_dig] at k2; obtain ⟨b6, A6, m6, c6, rfl, k2⟩ := k2.op; have y6 := hb6.size; (try simp only [World.size_alloc, size_set, size_drew, size_drewN] at y6))
      | (go_at_call 53; refine (rnew_any _ (fun _ => False) _ _ _ _ _ _ k1.to k2.to HV.out (Nat.le_trans (len_mulI HX.out.1 HY.out.1) (by omega)) (Nat.le_trans (len_mulI HX.out.2 HY.out.2) (by omega))).mono ?_; rintro e u3 ⟨v7, rfl, h7, hb7⟩; rw [sv_dig, sv_dig, HE.out] at h7; obtain ⟨b7, A7, m7, c7, b7', A7', m7', c7', rfl, h7, -, -⟩ := h7.op; have y7 := hb7.size; (try simp only [World.size_alloc, size_set, size_drew, size_drewN] at y7); obtain ⟨e5, g5, l5⟩ := Loc.all L3 (w' := u3); have l51 : w.heap.size + 1 < u3.heap.size := (by omega); have l52 : w.heap.size < u3.heap.size := (by omega); (first
          | (have q7 := (made2 w2 (.cells #[.bool b4, .slice A4 m4 c4, .bool b4', .slice A4' m4' c4'] 44) #[.bool false, .slice none 0 0, .bool false, .slice none 0 0] 44).all (w' := u3); obtain ⟨e7, g7, l7⟩ := q7; have n7 : w.heap.size + 1 + 1 ≠ w2.heap.size + 1 := (by omega); have n8 : w.heap.size + 1 ≠ w2.heap.size := (by omega))
          | (have q7 := (made1 u1 #[.bool false, .slice none 0 0, .bool false, .slice none 0 0] 44).all (w' := u3); obtain ⟨e7, g7, l7⟩ := q7; have n7 : w.heap.size + 1 + 1 ≠ u1.heap.size := (by omega))
          | (have q7 := (made1 u2 #[.bool false, .slice none 0 0, .bool false, .slice none 0 0] 44).all (w' := u3); obtain ⟨e7, g7, l7⟩ := q7; have n7 : w.heap.size + 1 + 1 ≠ u2.heap.size := (by omega))
          | skip)))
  all_goals
    go_wp2_with fail
    refine bodyPost_ret (by simp [results, Tryz.results22, go_sem, *] <;> rfl) rfl ⟨_, rfl, h7.out, bel⟩
end Go.Proofs.YtpeglenapmkdfaaGreat

