/- Contracts of the functions that the statements reach, part 19. -/
import Derived.Test.YtpeglenapmkdfaaGreatRows
import Derived.Test.YtpeglenapmkdfaaGreatM12
import Derived.Test.YtpeglenapmkdfaaGreatM13
import Derived.Test.YtpeglenapmkdfaaGreatM17
set_option linter.unusedSimpArgs false
set_option linter.unusedVariables false

/- Add of rational; printed by gen_rat5.py. -/
namespace Go.Proofs.YtpeglenapmkdfaaGreat
open Go.RowKit
attribute [local go_sem ↓] Go.wp_at_zero Go.wp_at_succ

set_option maxHeartbeats 4000000 in
theorem add_rat (w : World) (X : Nat → Prop) (v1 v2 : Value) (x y : Rat) (h1 : RatL 10000000 w X v1 x) (h2 : RatL 10000000 w X v2 y) :
    Calls Tryz.prog 71 #[v1, v2] w fun e w' => ∃ v', e = .returned v' ∧ RatV w' (Old w) v' (x + y) ∧ Below w.heap.size w w' := by
  have HX := Lib.hid (h1.rsz (by omega))
  have HY := Lib.hid (h2.rsz (by omega))
  obtain ⟨n1, A, m, c, n2, B, m', d, rfl, h1, -⟩ := h1.op
  obtain ⟨o1, C, p, e, o2, D, p', f, rfl, h2, -⟩ := h2.op
  go_enter Tryz.func71, Tryz.ntmps71
  go_upto_region 2 with fail
  go_cut [0] (fun _ W => ∃ (n1 : Bool) (A : Option Addr) (m c : Nat) (n2 : Bool) (B : Option Addr) (m' d : Nat) (o1 : Bool) (C : Option Addr) (p e : Nat) (o2 : Bool) (D : Option Addr) (p' f : Nat),
      Loc W w.heap.size 44 #[.bool n1, .slice A m c, .bool n2, .slice B m' d] ∧ Loc W (w.heap.size + 1) 44 #[.bool o1, .slice C p e, .bool o2, .slice D p' f] ∧ Loc W (w.heap.size + 1 + 1) 44 #[.bool false, .slice none 0 0, .bool false, .slice none 0 0] ∧
      RatV W (fun b => w.heap.size ≤ b ∧ b < w.heap.size + 3) (.agg #[.bool n1, .slice A m c, .bool n2, .slice B m' d]) x ∧ RatV W (fun b => w.heap.size ≤ b ∧ b < w.heap.size + 3) (.agg #[.bool o1, .slice C p e, .bool o2, .slice D p' f]) y ∧ Below w.heap.size w W)
  case first =>
    have N1 := made1 w #[.bool n1, .slice A m c, .bool n2, .slice B m' d] 44
    have N2 := made2 w (.cells #[.bool n1, .slice A m c, .bool n2, .slice B m' d] 44) #[.bool o1, .slice C p e, .bool o2, .slice D p' f] 44
    go_wp2_with fail
    obtain ⟨c5, f5, -⟩ := N1.all (w' := (((w.alloc (.cells #[.bool n1, .slice A m c, .bool n2, .slice B m' d] 44)).alloc (.cells #[.bool o1, .slice C p e, .bool o2, .slice D p' f] 44)).alloc (.cells #[.bool false, .slice none 0 0, .bool false, .slice none 0 0] 44)).drew)
    obtain ⟨c6, f6, -⟩ := N2.all (w' := (((w.alloc (.cells #[.bool n1, .slice A m c, .bool n2, .slice B m' d] 44)).alloc (.cells #[.bool o1, .slice C p e, .bool o2, .slice D p' f] 44)).alloc (.cells #[.bool false, .slice none 0 0, .bool false, .slice none 0 0] 44)).drew)
    go_region_with (first
      | (go_at_call_of 91 (Value.agg #[Value.bool n1, Value.slice A m c, Value.bool n2, Value.slice B m' d]); refine (clean_rat _ (fun _ => False) _ x (h1.mono (by omega)).to).mono ?_; rintro e u1 ⟨v5, rfl, h5, hb5⟩; obtain ⟨b5, A5, m5, k5, b5', A5', m5', k5', rfl, h5, -, -⟩ := h5.op; have y5 := hb5.size; (try simp only [World.size_alloc, size_set, size_drew, size_drewN] at y5); obtain ⟨c6, f6, -⟩ := N2.all (w' := u1))
      | (go_at_call_of 91 (Value.agg #[Value.bool o1, Value.slice C p e, Value.bool o2, Value.slice D p' f]); refine (clean_rat _ (fun _ => False) _ y (h2.mono (by omega)).to).mono ?_; rintro e u2 ⟨v6, rfl, h6, hb6⟩; obtain ⟨b6, A6, m6, k6, b6', A6', m6', k6', rfl, h6, -, -⟩ := h6.op; have y6 := hb6.size; (try simp only [World.size_alloc, size_set, size_drew, size_drewN] at y6); obtain ⟨c7, f7, -⟩ := N1.all (w' := u2); obtain ⟨c8, f8, -⟩ := N2.all (w' := u2)))
    all_goals
      go_wp2_with fail
      go_meet
      have L1 := N1.to (w' := u2)
      have L2 := N2.to (w' := u2)
      have e12 : w.heap.size ≠ w.heap.size + 1 := by omega
      have e21 : w.heap.size + 1 ≠ w.heap.size := by omega
      exact ⟨_, _, _, _, _, _, _, _, _, _, _, _, _, _, _, _, (by first | with_reducible exact Loc.two4_first e12 L1 | with_reducible exact Loc.two4_last e12 L1), (by first | with_reducible exact Loc.two4_first e21 L2 | with_reducible exact Loc.two4_last e21 L2), (made3 w _ _ _ _).to, RatV.out h5, RatV.out h6, bel⟩
  case rest =>
    clear h1 h2
    obtain ⟨n1, A, m, c, n2, B, m', d, o1, C, p, e, o2, D, p', f, L1, L2, L3, h1, h2, hB⟩ := hcut
    obtain ⟨_, _, _, _, _, _, _, _, e1, h1, i1, i2⟩ := h1.op
    simp only [Value.agg.injEq, Array.mk.injEq, List.cons.injEq, Value.bool.injEq, Value.slice.injEq, and_true] at e1
    obtain ⟨rfl, ⟨rfl, rfl, rfl⟩, rfl, ⟨rfl, rfl, rfl⟩⟩ := e1
    obtain ⟨_, _, _, _, _, _, _, _, e1, h2, j1, j2⟩ := h2.op
    simp only [Value.agg.injEq, Array.mk.injEq, List.cons.injEq, Value.bool.injEq, Value.slice.injEq, and_true] at e1
    obtain ⟨rfl, ⟨rfl, rfl, rfl⟩, rfl, ⟨rfl, rfl, rfl⟩⟩ := e1
    have z1 := L1.lt
    have z2 := L2.lt
    have z3 := L3.lt
    go_wp2_with fail
    have HA := Lib.hid (len_mulI HX.out.1 HY.out.2)
    have HB := Lib.hid (len_mulI HY.out.1 HX.out.2)
    have HS := Lib.hid (len_addI HA.out (Nat.le_trans HB.out (by omega)))
    have HD := Lib.hid (len_mulI HX.out.2 HY.out.2)
    clear z1 z2 z3
    obtain ⟨w5, rfl⟩ : ∃ w5 : World, w5 = wc := ⟨wc, rfl⟩
    go_upto_region 3 with fail
    go_cut [5] (fun v W => ∃ (g : Nat) (b : Bool) (E : Option Addr) (r s : Nat), v = .pointer (some ⟨g, 0, none⟩) ∧ w.heap.size + 2 < g ∧ Loc W g 42 #[.bool b, .slice E r s] ∧ IntV W (fun b => w.heap.size ≤ b ∧ b < w.heap.size + 3) (.agg #[.bool b, .slice E r s]) (x.num * (y.den : Int) + y.num * (x.den : Int)) ∧ Below w5.heap.size w5 W)
    case first =>
      have z1 := Loc.lt L1
      have z2 := Loc.lt L2
      have z3 := Loc.lt L3
      go_wp2_with fail
      go_region_held3 (fun W => ((W.cell? ⟨w.heap.size, 0, none⟩ = some (.bool n1) ∧ W.cell? ⟨w.heap.size, 1, none⟩ = some (.slice A m c)) ∧ W.cell? ⟨w.heap.size, 2, none⟩ = some (.bool n2) ∧ W.cell? ⟨w.heap.size, 3, none⟩ = some (.slice B m' d)) ∧ (W.cell? ⟨w.heap.size + 1, 0, none⟩ = some (.bool o1) ∧ W.cell? ⟨w.heap.size + 1, 1, none⟩ = some (.slice C p e)) ∧ W.cell? ⟨w.heap.size + 1, 2, none⟩ = some (.bool o2) ∧ W.cell? ⟨w.heap.size + 1, 3, none⟩ = some (.slice D p' f))
        (exact ⟨⟨⟨Loc.c 0 L1, Loc.c 1 L1⟩, Loc.c 2 L1, Loc.c 3 L1⟩, ⟨Loc.c 0 L2, Loc.c 1 L2⟩, Loc.c 2 L2, Loc.c 3 L2⟩)
        (first
          | (go_at_call_of 93 (Value.agg #[Value.bool n1, Value.slice A m c]); refine (mul_any _ (fun _ => False) _ _ _ _ _ _ i1.to j2.to (Nat.le_trans HX.out.1 (by omega)) (Nat.le_trans HY.out.2 (by omega))).mono ?_; rintro e u1 ⟨w1, rfl, k1, hb1⟩; rw [sv_dig, sv_dig] at k1; obtain ⟨bw1, Aw1, mw1, kw1, rfl, k1⟩ := k1.op; have yu1 := hb1.size; (try simp only [World.size_alloc, size_set, size_drew, size_drewN] at yu1))
          | (go_at_call_of 93 (Value.agg #[Value.bool o1, Value.slice C p e]); refine (mul_any _ (fun _ => False) _ _ _ _ _ _ j1.to i2.to (Nat.le_trans HY.out.1 (by omega)) (Nat.le_trans HX.out.2 (by omega))).mono ?_; rintro e u2 ⟨w2, rfl, k2, hb2⟩; rw [sv_dig, sv_dig] at k2; obtain ⟨bw2, Aw2, mw2, kw2, rfl, k2⟩ := k2.op; have yu2 := hb2.size; (try simp only [World.size_alloc, size_set, size_drew, size_drewN] at yu2))
          | (go_at_call 99; refine (add_any _ (fun _ => False) _ _ _ _ _ _ k1.to k2.to (Nat.le_trans HA.out (by omega)) (Nat.le_trans HB.out (by omega))).mono ?_; rintro e u3 ⟨v6, rfl, k3, hb6⟩; rw [sv_dig, sv_dig] at k3; obtain ⟨b6, A6, m6, k6, rfl, k3⟩ := k3.op; have y6 := hb6.size; (try simp only [World.size_alloc, size_set, size_drew, size_drewN] at y6); (first
              | (have q := (made1 w5 #[.bool false, .slice none 0 0] 42).all (w' := u3); have h7 := (made1 w5 #[.bool false, .slice none 0 0] 42).to (w' := u3); obtain ⟨e7, g7, l7⟩ := q)
              | (have q := (made1 u1 #[.bool false, .slice none 0 0] 42).all (w' := u3); have h7 := (made1 u1 #[.bool false, .slice none 0 0] 42).to (w' := u3); obtain ⟨e7, g7, l7⟩ := q)
              | (have q := (made1 u2 #[.bool false, .slice none 0 0] 42).all (w' := u3); have h7 := (made1 u2 #[.bool false, .slice none 0 0] 42).to (w' := u3); obtain ⟨e7, g7, l7⟩ := q)
              | skip)))
      all_goals
        go_wp2_with fail
        go_meet
        first
          | (have q := Loc.fill2 (u := .bool b6) (v := .slice A6 m6 k6) h7; refine ⟨_, _, _, _, _, rfl, ?_, q, IntV.out k3, bel⟩; omega)
          | (refine ⟨_, _, _, _, _, rfl, ?_, made1 u3 _ _, IntV.out k3, bel⟩; omega)
    case rest =>
      obtain ⟨g, bg, E, r, s, rfl, hg, L5, i5, hB5⟩ := hcut
      have z1 := Loc.lt (Loc.to L1 : Loc wc _ _ _)
      have z2 := Loc.lt (Loc.to L2 : Loc wc _ _ _)
      have z3 := Loc.lt (Loc.to L3 : Loc wc _ _ _)
      have z5 := Loc.lt L5
      have y5 := hB5.size; (try simp only [World.size_alloc, size_set, size_drew, size_drewN] at y5)
      have y0 := hB.size; (try simp only [World.size_alloc, size_set, size_drew, size_drewN] at y0)
      go_wp2_with fail
      go_region_held3 (fun W => ((W.cell? ⟨w.heap.size, 2, none⟩ = some (.bool n2) ∧ W.cell? ⟨w.heap.size, 3, none⟩ = some (.slice B m' d)) ∧ (W.cell? ⟨w.heap.size + 1, 2, none⟩ = some (.bool o2) ∧ W.cell? ⟨w.heap.size + 1, 3, none⟩ = some (.slice D p' f))) ∧ W.cell? ⟨g, 0, none⟩ = some (.bool bg) ∧ W.cell? ⟨g, 1, none⟩ = some (.slice E r s))
        (exact ⟨⟨⟨Loc.c 2 L1, Loc.c 3 L1⟩, Loc.c 2 L2, Loc.c 3 L2⟩, Loc.c 0 L5, Loc.c 1 L5⟩)
        (first
          | (go_at_call_of 93 (Value.agg #[Value.bool n2, Value.slice B m' d]); refine (mul_any _ (fun _ => False) _ _ _ _ _ _ i2.to j2.to (Nat.le_trans HX.out.2 (by omega)) (Nat.le_trans HY.out.2 (by omega))).mono ?_; rintro e u1 ⟨w1, rfl, k1, hb1⟩; rw [sv_dig, sv_dig] at k1; obtain ⟨bw1, Aw1, mw1, kw1, rfl, k1⟩ := k1.op; have yu1 := hb1.size; (try simp only [World.size_alloc, size_set, size_drew, size_drewN] at yu1))
          | (go_at_call 91; refine (clean_rat _ (fun _ => False) _ (x + y) ⟨_, _, _, _, (ratR_of i5.to k1.to), Nat.le_trans HS.out (by omega), Nat.le_trans HD.out (by omega), by unfold rv; rw [sv_dig, sv_dig]; exact rat_add x y⟩).mono ?_; rintro e u2 ⟨v6, rfl, h6, hb6⟩; obtain ⟨b6, A6, m6, k6, b6', A6', m6', k6', rfl, h6, -, -⟩ := h6.op; have y6 := hb6.size; (try simp only [World.size_alloc, size_set, size_drew, size_drewN] at y6); obtain ⟨e5, g5, -⟩ := Loc.all L3 (w' := u2)))
      all_goals
        go_wp2_with fail
        refine bodyPost_ret (by simp [results, Tryz.results71, go_sem, e5, g5] <;> rfl) rfl ⟨_, rfl, h6.out, bel⟩
end Go.Proofs.YtpeglenapmkdfaaGreat

/- Divide of the reference. -/
namespace Go.Proofs.YtpeglenapmkdfaaGreat
open Go.RowKit
attribute [local go_sem ↓] Go.wp_at_zero Go.wp_at_succ

theorem qF_ref (n1 n2 : Bool) (xs ys : List Nat) (hy : val ys ≠ 0) :
    qF (sv n1 xs) (sv n2 ys) = if (!n1 == n2) = true then (if val xs % val ys = 0 then -((val xs / val ys : Nat) : Int) else -((val xs / val ys : Nat) : Int) - 1) else ((val xs / val ys : Nat) : Int) := by
  have hyp : 0 < val ys := by omega
  unfold qF
  rw [sv_abs, sv_abs]
  rcases Nat.eq_zero_or_pos (val xs) with h0 | h0
  · have e : sv n1 xs = 0 := by unfold sv; rw [h0]; split <;> rfl
    rw [e, Int.sign_zero, Int.zero_mul, if_neg (by omega), h0, Nat.zero_div, Nat.zero_mod]
    split <;> simp
  · cases n1 <;> cases n2
    · rw [sv_false, sv_false, Int.sign_eq_one_of_pos (by omega), Int.sign_eq_one_of_pos (by omega)]; rfl
    · rw [sv_false, sv_true, Int.sign_eq_one_of_pos (by omega), Int.sign_eq_neg_one_of_neg (by omega)]; rfl
    · rw [sv_true, sv_false, Int.sign_eq_neg_one_of_neg (by omega), Int.sign_eq_one_of_pos (by omega)]; rfl
    · rw [sv_true, sv_true, Int.sign_eq_neg_one_of_neg (by omega), Int.sign_eq_neg_one_of_neg (by omega)]; rfl

set_option maxHeartbeats 2000000 in
theorem rdivide_zero (w : World) (X : Nat → Prop) (v1 v2 : Value) (n1 n2 : Bool) (xs ys : List Nat) (h1 : IntR w X v1 n1 xs) (h2 : IntR w X v2 n2 ys) (hz : val ys = 0) (hs1 : xs.length ≤ 100000000) (hs2 : ys.length ≤ 100000000) :
    Calls Tryz.prog 85 #[v1, v2] w fun e w' => e = .returned (.tuple #[.agg #[.bool false, .slice none 0 0], .agg #[.bool false, .slice none 0 0], .int .i64 1]) ∧ Below w.heap.size w w' := by
  obtain ⟨A, c, rfl, _, _, H1⟩ := h1.open_
  obtain ⟨B, d, rfl, _, _, H2⟩ := h2.open_
  have ht := trimL_dig H2.2
  rw [hz, dig_zero] at ht
  have HT := Lib.hid ht
  clear ht hz
  go_enter Tryz.func85, Tryz.ntmps85
  go_wp2_with fail
  obtain ⟨L2, L3, L4, L5, hB0, hsz0⟩ := locs4 (Below.refl _ ((((w.alloc (.cells #[.bool n1, .slice A xs.length c] 42)).alloc (.cells #[.bool n2, .slice B ys.length d] 42)).alloc (.cells #[.bool false, .slice none 0 0] 42)).alloc (.cells #[.bool false, .slice none 0 0] 42)))
  have K1 := (H1.weak (Y := fun _ => False) (fun _ _ h => h.elim)).below hB0
  have K2 := (H2.weak (Y := fun _ => False) (fun _ _ h => h.elim)).below hB0
  clear H1 H2 h1 h2
  generalize ((((w.alloc (.cells #[.bool n1, .slice A xs.length c] 42)).alloc (.cells #[.bool n2, .slice B ys.length d] 42)).alloc (.cells #[.bool false, .slice none 0 0] 42)).alloc (.cells #[.bool false, .slice none 0 0] 42)) = w0 at *
  have KS : Hid (∀ W, Below (w.heap.size + 2) w0 W → Loc W w.heap.size 42 #[.bool n1, .slice A xs.length c] ∧ Loc W (w.heap.size + 1) 42 #[.bool n2, .slice B ys.length d]) := fun W hW => ⟨L2.below' hW (by omega), L3.below' hW (by omega)⟩
  go_region_held3 (fun w' => (w'.cell? ⟨w.heap.size, 0, none⟩ = some (.bool n1) ∧ w'.cell? ⟨w.heap.size, 1, none⟩ = some (.slice A xs.length c)) ∧ w'.cell? ⟨w.heap.size + 1, 0, none⟩ = some (.bool n2) ∧ w'.cell? ⟨w.heap.size + 1, 1, none⟩ = some (.slice B ys.length d))
    (first | exact cells_of (KS.out _ (k2.mono (by omega))) | exact cells_of (KS.out _ (k1.mono (by omega))) | exact cells_of (KS.out _ (Below.refl _ _).drew) | go_keep)
    (first
      | (go_at_call_of 76 (Value.slice A xs.length c); refine (rtrim_any _ (fun _ => False) (.slice A xs.length c) xs (K1.below (Below.refl _ _).drew) (by omega)).mono ?_; rintro e wa ⟨va, rfl, ha, hka⟩; have k1 := below_undrew hka)
      | (go_at_call_of 76 (Value.slice B ys.length d); refine (rtrim_any _ (fun _ => False) (.slice B ys.length d) ys (K2.below k1) (by omega)).mono ?_; rintro e wb ⟨vb, rfl, hb, hkb⟩; have k2 := k1.trans (hkb.mono k1.size); rw [HT.out] at hb; obtain ⟨Ab, cb, rfl, _, _, hb⟩ := hb.open_; rw [List.length_nil] at *))
  all_goals
    have N4 := L4.below k2
    have N5 := L5.below k2
    have hk2 := k2.size
    have c4 := N4.cell
    have f4 := N4.frz
    have c5 := N5.cell
    have f5 := N5.frz
    have R4 := fill_box (u := .bool false) (v := .slice none 0 0) N4
    have R5 := fill_box (u := .bool false) (v := .slice none 0 0) (R4.2 N5 (by omega))
    have hB8 := ((((hB0.trans (k2.mono (by omega))).setCell (p := ⟨w.heap.size + 1 + 1, 0, none⟩) (by show w.heap.size ≤ w.heap.size + 1 + 1; omega) (.bool false)).setCell (p := ⟨w.heap.size + 1 + 1, 1, none⟩) (by show w.heap.size ≤ w.heap.size + 1 + 1; omega) (.slice none 0 0)).setCell (p := ⟨w.heap.size + 1 + 1 + 1, 0, none⟩) (by show w.heap.size ≤ w.heap.size + 1 + 1 + 1; omega) (.bool false)).setCell (p := ⟨w.heap.size + 1 + 1 + 1, 1, none⟩) (by show w.heap.size ≤ w.heap.size + 1 + 1 + 1; omega) (.slice none 0 0)
    have cc := R5.1.cell
    have cd := (R5.2 R4.1 (by omega)).cell
    clear KS R4 R5
    go_wp2_with fail
    refine bodyPost_ret (by simp [results, Tryz.results85, go_sem, cc, cd] <;> rfl) rfl ⟨rfl, hB8⟩

set_option maxHeartbeats 2000000 in
theorem rdivide_any (w : World) (X : Nat → Prop) (v1 v2 : Value) (n1 n2 : Bool) (xs ys : List Nat) (h1 : IntR w X v1 n1 xs) (h2 : IntR w X v2 n2 ys) (hz : val ys ≠ 0) (hs1 : xs.length ≤ 100000000) (hs2 : ys.length ≤ 100000000) :
    Calls Tryz.prog 85 #[v1, v2] w fun e w' => ∃ q r, e = .returned (.tuple #[q, r, .int .i64 0]) ∧ IntV w' (Old w) q (qF (sv n1 xs) (sv n2 ys)) ∧ IntV w' (Old w) r (sv n1 xs - qF (sv n1 xs) (sv n2 ys) * sv n2 ys) ∧ Below w.heap.size w w' := by
  obtain ⟨A, c, rfl, _, _, H1⟩ := h1.open_
  obtain ⟨B, d, rfl, _, _, H2⟩ := h2.open_
  have SL2 := Lib.hid (sv_len n2 ys H2.2)
  have l1 := trimL_len xs
  have l2 := trimL_len ys
  have c1 := can_trimL H1.2
  have c2 := can_trimL H2.2
  have l3 : 0 < (trimL ys).length := by rw [trimL_dig H2.2, dig_len_pos]; omega
  have HV1 := Lib.hid (val_trimL xs)
  have HV2 := Lib.hid (val_trimL ys)
  obtain ⟨nb, hnb⟩ : ∃ nb, (!n1 == n2) = nb := ⟨_, rfl⟩
  obtain ⟨Z, hZ⟩ : ∃ Z, qF (sv n1 xs) (sv n2 ys) = Z := ⟨_, rfl⟩
  have hq : Z = if nb = true then (if val xs % val ys = 0 then -((val xs / val ys : Nat) : Int) else -((val xs / val ys : Nat) : Int) - 1) else ((val xs / val ys : Nat) : Int) := by
    rw [← hZ, ← hnb]; exact qF_ref n1 n2 xs ys hz
  have HQ := Lib.hid hq
  rw [hZ]
  clear hZ hq hz
  have hzb : ((((trimL ys).length : Nat) : Int) == 0) = false := by rw [beq_eq_false_iff_ne]; omega
  go_enter Tryz.func85, Tryz.ntmps85
  go_wp2_with fail
  obtain ⟨L2, L3, L4, L5, hB0, hsz0⟩ := locs4 (Below.refl _ ((((w.alloc (.cells #[.bool n1, .slice A xs.length c] 42)).alloc (.cells #[.bool n2, .slice B ys.length d] 42)).alloc (.cells #[.bool false, .slice none 0 0] 42)).alloc (.cells #[.bool false, .slice none 0 0] 42)))
  have K1 := (H1.weak (Y := fun _ => False) (fun _ _ h => h.elim)).below hB0
  have K2 := (H2.weak (Y := fun _ => False) (fun _ _ h => h.elim)).below hB0
  clear H1 H2
  generalize ((((w.alloc (.cells #[.bool n1, .slice A xs.length c] 42)).alloc (.cells #[.bool n2, .slice B ys.length d] 42)).alloc (.cells #[.bool false, .slice none 0 0] 42)).alloc (.cells #[.bool false, .slice none 0 0] 42)) = w0 at *
  have KS : Hid (∀ W, Below (w.heap.size + 2) w0 W → Loc W w.heap.size 42 #[.bool n1, .slice A xs.length c] ∧ Loc W (w.heap.size + 1) 42 #[.bool n2, .slice B ys.length d]) := fun W hW => ⟨L2.below' hW (by omega), L3.below' hW (by omega)⟩
  go_region_held3 (fun w' => (w'.cell? ⟨w.heap.size, 0, none⟩ = some (.bool n1) ∧ w'.cell? ⟨w.heap.size, 1, none⟩ = some (.slice A xs.length c)) ∧ w'.cell? ⟨w.heap.size + 1, 0, none⟩ = some (.bool n2) ∧ w'.cell? ⟨w.heap.size + 1, 1, none⟩ = some (.slice B ys.length d))
    (first | exact cells_of (KS.out _ (k2.mono (by omega))) | exact cells_of (KS.out _ (k1.mono (by omega))) | exact cells_of (KS.out _ (Below.refl _ _).drew) | go_keep)
    (first
      | (go_at_call_of 76 (Value.slice A xs.length c); refine (rtrim_any _ (fun _ => False) (.slice A xs.length c) xs (K1.below (Below.refl _ _).drew) (by omega)).mono ?_; rintro e wa ⟨va, rfl, ha, hka⟩; have k1 := below_undrew hka)
      | (go_at_call_of 76 (Value.slice B ys.length d); refine (rtrim_any _ (fun _ => False) (.slice B ys.length d) ys (K2.below k1) (by omega)).mono ?_; rintro e wb ⟨vb, rfl, hb, hkb⟩; have k2 := k1.trans (hkb.mono k1.size); have ha2 := ha.below hkb; have hb0 := hb; obtain ⟨Ab, cb, rfl, _, _, hb⟩ := hb.open_))
  all_goals
    clear KS
    go_wp2_with fail
    refine (divWords_any _ (fun _ => False) _ _ (trimL xs) (trimL ys) (ha2.weak (fun _ _ h => h.elim)) (hb.weak (fun _ _ h => h.elim)) c2 l3 (by omega)).mono ?_
    rintro e w1 ⟨q1, r1, rfl, hq1, hr1, hb1⟩
    rw [HV1.out, HV2.out] at hq1 hr1
    have k3 := k2.trans (hb1.mono k2.size)
    have M2 := L2.below k3
    have M3 := L3.below k3
    have cx := M2.cell
    have cy := M3.cell
    have hlq := Nat.le_trans (dig_len_mono (Nat.div_le_self (val xs) (val ys))) (by rw [← HV1.out]; exact Nat.le_trans (dig_val_len c1.1) l1 : (dig (val xs)).length ≤ xs.length)
    go_wp2_with fail
    refine (made_any _ (fun _ => False) nb _ _ (hq1.weak (fun _ _ h => h.elim)) (by omega)).mono ?_
    rintro e w4 ⟨v3, rfl, h3, hb3⟩
    have k4 := k3.trans (hb3.mono k3.size)
    obtain ⟨b3, A3, m3, c3, rfl, h3⟩ := h3.op
    have hs0 := hb3.size
    have hs4 := k4.size
    have hs3 := k3.size
    have k5 := k4.trans ((below1 w4 (.cells #[.bool b3, .slice A3 m3 c3] 42)).mono k4.size)
    have N2 := L2.below k5
    have N3 := L3.below k5
    have N4 := L4.below k5
    have N5 := L5.below k5
    have N6 := Loc.new w4 #[.bool b3, .slice A3 m3 c3] 42
    have hq5 := (h3.weak (Y := fun b => b < w.heap.size + 1 + 1 + 1 + 1 ∨ b = w4.heap.size) (fun b h1 h2 => by show b < _; omega)).below (below1 w4 (.cells #[.bool b3, .slice A3 m3 c3] 42))
    have hr5 := (hr1.weak (Y := fun _ => False) (fun _ _ h => h.elim)).below ((hb3.trans ((below1 w4 (.cells #[.bool b3, .slice A3 m3 c3] 42)).mono hb3.size)))
    have hB5 := hB0.trans (k5.mono (by omega))
    obtain ⟨g6, hg6⟩ : ∃ g6, w4.heap.size = g6 := ⟨_, rfl⟩
    have hsg : w.heap.size + 1 + 1 + 1 < g6 := by have := L5.lt; omega
    obtain ⟨Ar, cr, rfl, _, _, hr5⟩ := hr5.open_
    simp only [hg6] at N6 hq5
    clear cx cy M2 M3 L2 L3 L4 L5 K1 K2 ha ha2 hb hb0 hka hkb k1 k2 k3 k4 k5 hq1 hr1 hb1 h3 hb3 hs0 hs4 hs3
    have cx := N2.cell
    have cy := N3.cell
    have hlr := dig_len_pos (val xs % val ys)
    have HLR := Lib.hid hlr
    have HLQ := Lib.hid hlq
    clear hlr hlq
    have hx5 := h1.below hB5
    have hy5 := h2.below hB5
    obtain ⟨rl, hrl⟩ : ∃ rl, (dig (val xs % val ys)).length = rl := ⟨_, rfl⟩
    rw [hrl] at HLR
    go_upto_region 6 with fail
    go_cut [45] (fun x W => ∃ bb : Bool, x = .bool bb ∧ bb = decide (nb = true ∧ val xs % val ys ≠ 0) ∧ W = w4.alloc (.cells #[.bool b3, .slice A3 m3 c3] 42))
    case first =>
      cases nb
      · go_wp2_with fail
        go_meet
        exact ⟨false, rfl, by simp, rfl⟩
      · go_wp2_with fail
        go_meet
        exact ⟨_, rfl, by rw [decide_eq_decide]; exact ⟨fun h => ⟨by first | rfl | trivial, by have := HLR.out.1 h; omega⟩, fun h => HLR.out.2 (by have := h.2; omega)⟩, rfl⟩
    case rest =>
      obtain ⟨bb, rfl, hbb, rfl⟩ := hcut
      have HBB := Lib.hid hbb
      clear hbb cx cy
      generalize w4.alloc (.cells #[.bool b3, .slice A3 m3 c3] 42) = w5 at *
      have hs5 := N6.lt
      go_upto_if 45 with fail
      go_cut [46] (fun _ W => ∃ (b : Bool) (D : Option Addr) (m k : Nat), Loc W w.heap.size 42 #[.bool n1, .slice A xs.length c] ∧ Loc W (w.heap.size + 1) 42 #[.bool n2, .slice B ys.length d] ∧ Loc W (w.heap.size + 1 + 1) 42 #[.bool false, .slice none 0 0] ∧ Loc W (w.heap.size + 1 + 1 + 1) 42 #[.bool false, .slice none 0 0] ∧
        Loc W g6 42 #[.bool b, .slice D m k] ∧ IntV W (fun b => b < w.heap.size + 1 + 1 + 1 + 1 ∨ b = g6) (.agg #[.bool b, .slice D m k]) Z ∧ Below w.heap.size w W)
      case first =>
        cases bb
        · have hc := of_decide_eq_false HBB.out.symm
          have hz2 : sv nb (dig (val xs / val ys)) = Z := by
            rw [HQ.out]
            cases nb
            · rw [sv_false, val_dig]; rfl
            · have hr0 : val xs % val ys = 0 := by
                rcases Nat.eq_zero_or_pos (val xs % val ys) with h | h
                · exact h
                · exact absurd ⟨rfl, by omega⟩ hc
              rw [sv_true, val_dig, if_pos rfl, if_pos hr0]
          rw [hz2] at hq5
          clear hz2 hc
          go_wp2_with fail
          go_meet
          exact ⟨_, _, _, _, N2, N3, N4, N5, N6, hq5, hB5⟩
        · have hc := of_decide_eq_true HBB.out.symm
          have hz2 := HQ.out
          rw [if_pos hc.1, if_neg hc.2] at hz2
          have HZ2 := Lib.hid hz2
          rw [hc.1, sv_true, val_dig] at hq5
          have hlq : (dig (-((val xs / val ys : Nat) : Int)).natAbs).length ≤ xs.length := by
            rw [Int.natAbs_neg, Int.natAbs_natCast]
            exact HLQ.out
          have HLQ2 := Lib.hid hlq
          clear hz2 hlq hc
          have HL1 : Hid ((dig (1 : Int).natAbs).length ≤ 100000000000) := by
            have h : (dig 1).length ≤ 1 := dig_len_le (by decide)
            exact Nat.le_trans h (by decide)
          have hof := fun w' => rof_any w' 1 (by decide) (by decide)
          go_wp2_with fail
          have d0 : ∀ i, w5.drew.cell? ⟨g6, i, none⟩ = #[Value.bool b3, Value.slice A3 m3 c3][i]? := N6.cell
          go_region_with (first
              | (go_at_call 104; refine (hof _).mono ?_; rintro e u1 ⟨v7, rfl, h7, hb7⟩; have k1 := below_undrew hb7; obtain ⟨b7, A7, m7, c7, rfl, h7⟩ := h7.op; have d4 := (N6.below k1).cell)
              | (go_at_call 103; refine (rsub_any _ (fun _ => False) _ _ _ _ _ _ ((hq5.weak (fun _ _ h => h.elim)).below k1) (h7.weak (fun _ _ h => h.elim)) (by have := HLQ2.out; omega) HL1.out).mono ?_; rintro e u2 ⟨v8, rfl, h8, hb8⟩; have k2 := k1.trans (hb8.mono k1.size); obtain ⟨b8, A8, m8, c8, rfl, h8⟩ := h8.op; have c4 := (N6.below k2).cell; have f4 := (N6.below k2).frz))
          all_goals
            rw [sv_dig, sv_dig, ← HZ2.out] at h8
            obtain ⟨R6, hfar⟩ := fill_box (u := .bool b8) (v := .slice A8 m8 c8) (N6.below k2)
            have R2 := hfar (N2.below k2) (by omega)
            have R3 := hfar (N3.below k2) (by omega)
            have R4 := hfar (N4.below k2) (by omega)
            have R5 := hfar (N5.below k2) (by omega)
            have hu1 := k1.size
            have hB8 := ((hB5.trans (k2.mono (by omega))).setCell (p := ⟨g6, 0, none⟩) (by show w.heap.size ≤ g6; omega) (.bool b8)).setCell (p := ⟨g6, 1, none⟩) (by show w.heap.size ≤ g6; omega) (.slice A8 m8 c8)
            have hkp : Keep (fun b => b < w.heap.size + 1 + 1 + 1 + 1 ∨ b = g6) u2 ((u2.setCell ⟨g6, 0, none⟩ (.bool b8)).setCell ⟨g6, 1, none⟩ (.slice A8 m8 c8)) := ((Keep.refl _ _).set (p := ⟨g6, 0, none⟩) (.inl (.inr rfl)) _).set (p := ⟨g6, 1, none⟩) (.inl (.inr rfl)) _
            have h9 := (h8.weak (Y := fun b => b < w.heap.size + 1 + 1 + 1 + 1 ∨ b = g6) (fun b h1 h2 => by show b < _; omega)).keep hkp
            clear c4 f4 d0 hkp
            go_wp2_with fail
            go_meet
            exact ⟨_, _, _, _, R2, R3, R4, R5, R6, h9, hB8⟩
      case rest =>
        obtain ⟨b9, D, m9, k9, Q2, Q3, Q4, Q5, Q6, hq9, hB9⟩ := hcut
        have hsz9 := Q6.lt
        have hx9 := h1.below hB9
        have hy9 := h2.below hB9
        have hzl : (dig Z.natAbs).length ≤ xs.length + 1 := by
          have hb : (dig ((val xs / val ys : Nat) : Int).natAbs).length ≤ xs.length := by
            rw [Int.natAbs_natCast]; exact HLQ.out
          have h0 : (dig (1 : Int).natAbs).length ≤ xs.length + 0 ∨ xs.length = 0 := by
            rcases Nat.eq_zero_or_pos xs.length with h | h
            · exact .inr h
            · exact .inl (Nat.le_trans (show (dig 1).length ≤ 1 from dig_len_le (by decide)) (by omega))
          rw [HQ.out]
          split
          · split
            · rw [Int.natAbs_neg]; omega
            · rcases h0 with h0 | h0
              · exact sub_len _ _ _ (by rw [Int.natAbs_neg]; exact hb) (by simpa using h0)
              · have hx0 : val xs = 0 := by
                  have := List.length_eq_zero_iff.1 h0
                  subst this; rfl
                rename_i hr
                exact absurd (by rw [hx0, Nat.zero_mod]) hr
          · omega
        have HZL := Lib.hid hzl
        have hpl : (dig (Z * sv n2 ys).natAbs).length ≤ xs.length + 1 + ys.length := by
          have h := len_mul (ws_dig Z.natAbs) (ws_dig (sv n2 ys).natAbs)
          rw [val_dig, val_dig, ← Int.natAbs_mul] at h
          have := SL2.out
          omega
        have HPL := Lib.hid hpl
        have KS : Hid (∀ W, Below (w.heap.size + 1 + 1) wc W → Below (g6 + 1) wc W → ((W.cell? ⟨w.heap.size, 0, none⟩ = some (.bool n1) ∧ W.cell? ⟨w.heap.size, 1, none⟩ = some (.slice A xs.length c)) ∧ W.cell? ⟨w.heap.size + 1, 0, none⟩ = some (.bool n2) ∧ W.cell? ⟨w.heap.size + 1, 1, none⟩ = some (.slice B ys.length d)) ∧ W.cell? ⟨g6, 0, none⟩ = some (.bool b9) ∧ W.cell? ⟨g6, 1, none⟩ = some (.slice D m9 k9)) := fun W hW hW2 => ⟨cells_of ⟨Q2.below' hW (by omega), Q3.below' hW (by omega)⟩, (Q6.below' hW2 (by omega)).cell 0, (Q6.below' hW2 (by omega)).cell 1⟩
        clear hzl hpl hq5 hB5 N2 N3 N4 N5 N6 h1 h2 hx5 hy5 hr5
        go_wp2_with fail
        go_region_held3 (fun W => ((W.cell? ⟨w.heap.size, 0, none⟩ = some (.bool n1) ∧ W.cell? ⟨w.heap.size, 1, none⟩ = some (.slice A xs.length c)) ∧ W.cell? ⟨w.heap.size + 1, 0, none⟩ = some (.bool n2) ∧ W.cell? ⟨w.heap.size + 1, 1, none⟩ = some (.slice B ys.length d)) ∧ W.cell? ⟨g6, 0, none⟩ = some (.bool b9) ∧ W.cell? ⟨g6, 1, none⟩ = some (.slice D m9 k9))
          (first | exact ⟨cells_of ⟨R5.2 (R4.2 (Q2.below k2) (by omega)) (by omega), R5.2 (R4.2 (Q3.below k2) (by omega)) (by omega)⟩, (R5.2 (R4.2 (Q6.below k2) (by omega)) (by omega)).cell 0, (R5.2 (R4.2 (Q6.below k2) (by omega)) (by omega)).cell 1⟩ | exact ⟨cells_of ⟨R4.2 (Q2.below k2) (by omega), R4.2 (Q3.below k2) (by omega)⟩, (R4.2 (Q6.below k2) (by omega)).cell 0, (R4.2 (Q6.below k2) (by omega)).cell 1⟩ | exact KS.out _ (k2.mono (by omega)) (k2.mono (by omega)) | exact KS.out _ (k1.mono (by omega)) (k1.mono (by omega)) | exact KS.out _ (Below.refl _ _).drew (Below.refl _ _).drew)
          (first
            | (go_at_call 52; refine (rmul_any _ (fun _ => False) _ _ _ _ _ _ ((hq9.weak (fun _ _ h => h.elim)).below (Below.refl _ _).drew) ((hy9.weak (fun _ _ h => h.elim)).below (Below.refl _ _).drew) (by have := HZL.out; omega) (by omega)).mono ?_; rintro e u1 ⟨v7, rfl, h7, hb7⟩; rw [sv_dig] at h7; have k1 := below_undrew hb7; obtain ⟨b7, A7, m7, c7, rfl, h7⟩ := h7.op)
            | (go_at_call 103; refine (rsub_any _ (fun _ => False) _ _ _ _ _ _ ((hx9.weak (fun _ _ h => h.elim)).below k1) (h7.weak (fun _ _ h => h.elim)) (by omega) (by have := HPL.out; omega)).mono ?_; rintro e u2 ⟨v8, rfl, h8, hb8⟩; rw [sv_dig] at h8; have k2 := k1.trans (hb8.mono k1.size); obtain ⟨b8, A8, m8, c8, rfl, h8⟩ := h8.op; have c4 := (Q4.below k2).cell; have f4 := (Q4.below k2).frz; have c5 := (Q5.below k2).cell; have f5 := (Q5.below k2).frz; have R4 := fill_box (u := .bool b9) (v := .slice D m9 k9) (Q4.below k2); have R5 := fill_box (u := .bool b8) (v := .slice A8 m8 c8) (R4.2 (Q5.below k2) (by omega))))
        all_goals
          have hu1 := k1.size
          have hkp : Keep (fun b => b < w.heap.size + 1 + 1 + 1 + 1 ∨ b = g6) u2 ((((u2.setCell ⟨w.heap.size + 1 + 1, 0, none⟩ (.bool b9)).setCell ⟨w.heap.size + 1 + 1, 1, none⟩ (.slice D m9 k9)).setCell ⟨w.heap.size + 1 + 1 + 1, 0, none⟩ (.bool b8)).setCell ⟨w.heap.size + 1 + 1 + 1, 1, none⟩ (.slice A8 m8 c8)) :=
            ((((Keep.refl _ _).set (p := ⟨w.heap.size + 1 + 1, 0, none⟩) (.inl (.inl (by show w.heap.size + 1 + 1 < w.heap.size + 1 + 1 + 1 + 1; omega))) _).set (p := ⟨w.heap.size + 1 + 1, 1, none⟩) (.inl (.inl (by show w.heap.size + 1 + 1 < w.heap.size + 1 + 1 + 1 + 1; omega))) _).set (p := ⟨w.heap.size + 1 + 1 + 1, 0, none⟩) (.inl (.inl (by show w.heap.size + 1 + 1 + 1 < w.heap.size + 1 + 1 + 1 + 1; omega))) _).set (p := ⟨w.heap.size + 1 + 1 + 1, 1, none⟩) (.inl (.inl (by show w.heap.size + 1 + 1 + 1 < w.heap.size + 1 + 1 + 1 + 1; omega))) _
          have hB8 := ((((hB9.trans (k2.mono (by omega))).setCell (p := ⟨w.heap.size + 1 + 1, 0, none⟩) (by show w.heap.size ≤ w.heap.size + 1 + 1; omega) (.bool b9)).setCell (p := ⟨w.heap.size + 1 + 1, 1, none⟩) (by show w.heap.size ≤ w.heap.size + 1 + 1; omega) (.slice D m9 k9)).setCell (p := ⟨w.heap.size + 1 + 1 + 1, 0, none⟩) (by show w.heap.size ≤ w.heap.size + 1 + 1 + 1; omega) (.bool b8)).setCell (p := ⟨w.heap.size + 1 + 1 + 1, 1, none⟩) (by show w.heap.size ≤ w.heap.size + 1 + 1 + 1; omega) (.slice A8 m8 c8)
          have hf1 := ((hq9.below k2).keep hkp).weak (Y := Old w) (fun b _ h => by have h : b < w.heap.size := h; omega)
          have hf2 := ((h8.weak (Y := fun b => b < w.heap.size + 1 + 1 + 1 + 1 ∨ b = g6) (fun b h1 h2 => by show b < _; omega)).keep hkp).weak (Y := Old w) (fun b _ h => by have h : b < w.heap.size := h; omega)
          have cc := R5.1.cell
          have cd := (R5.2 R4.1 (by omega)).cell
          clear KS hkp c4 f4 c5 f5 R4 R5
          go_wp2_with fail
          refine bodyPost_ret (by simp [results, Tryz.results85, go_sem, cc, cd] <;> rfl) rfl ⟨_, _, rfl, hf1, hf2, hB8⟩
end Go.Proofs.YtpeglenapmkdfaaGreat

