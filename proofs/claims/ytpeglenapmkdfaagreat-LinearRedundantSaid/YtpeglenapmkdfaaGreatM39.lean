/- Contracts of the functions that the statements reach, part 39. -/
import Derived.Test.YtpeglenapmkdfaaGreatRows
import Derived.Test.YtpeglenapmkdfaaGreatM21
import Derived.Test.YtpeglenapmkdfaaGreatM32
import Derived.Test.YtpeglenapmkdfaaGreatM38
set_option linter.unusedSimpArgs false
set_option linter.unusedVariables false

/- Of the reference: Add, Sub, Divide, Compare; printed by gen_rat11.py. -/
namespace Go.Proofs.YtpeglenapmkdfaaGreat
open Go.RowKit
attribute [local go_sem ↓] Go.wp_at_zero Go.wp_at_succ

set_option maxHeartbeats 4000000 in
theorem radd_rat (w : World) (X : Nat → Prop) (v1 v2 : Value) (x y : Rat) (h1 : RatL 1000000 w X v1 x) (h2 : RatL 1000000 w X v2 y) :
    Calls Tryz.prog 21 #[v1, v2] w fun e w' => ∃ v', e = .returned v' ∧ RatV w' (Old w) v' (x + y) ∧ Below w.heap.size w w' := by
  have HX := Lib.hid (h1.rsz (by omega))
  have HY := Lib.hid (h2.rsz (by omega))
  have HV := den_mul_ne x y
  have HE : Hid (Rat.divInt (x.num * (y.den : Int) + y.num * (x.den : Int)) ((x.den : Int) * (y.den : Int)) = x + y) := rat_add x y
  have HA := Lib.hid (len_mulI HX.out.1 HY.out.2)
  have HB := Lib.hid (len_mulI HY.out.1 HX.out.2)
  have HS := Lib.hid (len_addI HA.out (Nat.le_trans HB.out (by omega)))
  obtain ⟨n1, A, m, c, n2, B, m', d, rfl, h1, -⟩ := h1.op
  obtain ⟨o1, C, p, e, o2, D, p', f, rfl, h2, -⟩ := h2.op
  have L1 := made1 w #[.bool n1, .slice A m c, .bool n2, .slice B m' d] 44
  have L2 := made2 w (.cells #[.bool n1, .slice A m c, .bool n2, .slice B m' d] 44) #[.bool o1, .slice C p e, .bool o2, .slice D p' f] 44
  have L3 := made3 w (.cells #[.bool n1, .slice A m c, .bool n2, .slice B m' d] 44) (.cells #[.bool o1, .slice C p e, .bool o2, .slice D p' f] 44) #[.bool false, .slice none 0 0, .bool false, .slice none 0 0] 44
  go_enter Tryz.func21, Tryz.ntmps21
  go_wp2_with fail
  refine (rclean_rat _ (fun _ => False) _ x (h1.mono (by omega)).to).mono ?_
  rintro e w1 ⟨v3, rfl, h3, hb1⟩
  obtain ⟨b3, A3, m3, c3, b3', A3', m3', c3', rfl, h3, i1, i2⟩ := h3.op
  obtain ⟨z1, z2, z3⟩ := sz3 hb1
  obtain ⟨e2, f2, -⟩ := Loc.all L2 (w' := w1)
  have M1 := made1 w1 #[.bool b3, .slice A3 m3 c3, .bool b3', .slice A3' m3' c3'] 44
  go_wp2_with fail
  refine (rclean_rat _ (fun _ => False) _ y (h2.mono (by omega)).to).mono ?_
  rintro e w2 ⟨v4, rfl, h4, hb2⟩
  obtain ⟨b4, A4, m4, c4, b4', A4', m4', c4', rfl, h4, j1, j2⟩ := h4.op
  have y2 := hb2.size; (try simp only [World.size_alloc, size_set, size_drew, size_drewN] at y2)
  have M2 := made1 w2 #[.bool b4, .slice A4 m4 c4, .bool b4', .slice A4' m4' c4'] 44
  clear e2 f2
  go_upto_region 4 with fail
  go_cut [7] (fun v W => ∃ (g : Nat) (b : Bool) (E : Option Addr) (r s : Nat), v = .pointer (some ⟨g, 0, none⟩) ∧ w2.heap.size < g ∧ Loc W g 42 #[.bool b, .slice E r s] ∧ IntV W (fun b => w.heap.size + 2 = b) (.agg #[.bool b, .slice E r s]) (x.num * (y.den : Int) + y.num * (x.den : Int)) ∧ Below (w2.alloc (.cells #[.bool b4, .slice A4 m4 c4, .bool b4', .slice A4' m4' c4'] 44)).heap.size (w2.alloc (.cells #[.bool b4, .slice A4 m4 c4, .bool b4', .slice A4' m4' c4'] 44)) W)
  case first =>
    go_wp2_with fail
    go_region_held3 (fun W => ((W.cell? ⟨w1.heap.size, 0, none⟩ = some (.bool b3) ∧ W.cell? ⟨w1.heap.size, 1, none⟩ = some (.slice A3 m3 c3)) ∧ W.cell? ⟨w1.heap.size, 2, none⟩ = some (.bool b3') ∧ W.cell? ⟨w1.heap.size, 3, none⟩ = some (.slice A3' m3' c3')) ∧ (W.cell? ⟨w2.heap.size, 0, none⟩ = some (.bool b4) ∧ W.cell? ⟨w2.heap.size, 1, none⟩ = some (.slice A4 m4 c4)) ∧ W.cell? ⟨w2.heap.size, 2, none⟩ = some (.bool b4') ∧ W.cell? ⟨w2.heap.size, 3, none⟩ = some (.slice A4' m4' c4'))
      (exact ⟨⟨⟨Loc.c 0 M1, Loc.c 1 M1⟩, Loc.c 2 M1, Loc.c 3 M1⟩, ⟨Loc.c 0 M2, Loc.c 1 M2⟩, Loc.c 2 M2, Loc.c 3 M2⟩)
      (first
        | (go_at_call_of 52 (Value.agg #[Value.bool b3, Value.slice A3 m3 c3]); refine (rmul_any _ (fun _ => False) _ _ _ _ _ _ i1.to j2.to (Nat.le_trans HX.out.1 (by omega)) (Nat.le_trans HY.out.2 (by omega))).mono ?_; rintro e u1 ⟨v5, rfl, k1, hb5⟩; rw [sv_dig, sv_dig] at k1; obtain ⟨b5, A5, m5, c5, rfl, k1⟩ := k1.op; have y5 := hb5.size; (try simp only [World.size_alloc, size_set, size_drew, size_drewN] at y5))
        | (go_at_call_of 52 (Value.agg #[Value.bool b4, Value.slice A4 m4 c4]); refine (rmul_any _ (fun _ => False) _ _ _ _ _ _ j1.to i2.to (Nat.le_trans HY.out.1 (by omega)) (Nat.le_trans HX.out.2 (by omega))).mono ?_; rintro e u2 ⟨v6, rfl, k2, hb6⟩; rw [sv_dig, sv_dig] at k2; obtain ⟨b6, A6, m6, c6, rfl, k2⟩ := k2.op; have y6 := hb6.size; (try simp only [World.size_alloc, size_set, size_drew, size_drewN] at y6))
        | (go_at_call 51; refine (radd_any _ (fun _ => False) _ _ _ _ _ _ k1.to k2.to (Nat.le_trans HA.out (by omega)) (Nat.le_trans HB.out (by omega))).mono ?_; rintro e u3 ⟨v7, rfl, k3, hb7⟩; rw [sv_dig, sv_dig] at k3; obtain ⟨b7, A7, m7, c7, rfl, k3⟩ := k3.op; have y7 := hb7.size; (try simp only [World.size_alloc, size_set, size_drew, size_drewN] at y7); (first
          | (have q7 := (made2 w2 (.cells #[.bool b4, .slice A4 m4 c4, .bool b4', .slice A4' m4' c4'] 44) #[.bool false, .slice none 0 0] 42).all (w' := u3); have h7 := (made2 w2 (.cells #[.bool b4, .slice A4 m4 c4, .bool b4', .slice A4' m4' c4'] 44) #[.bool false, .slice none 0 0] 42).to (w' := u3); obtain ⟨e7, g7, l7⟩ := q7)
          | (have q7 := (made1 u1 #[.bool false, .slice none 0 0] 42).all (w' := u3); have h7 := (made1 u1 #[.bool false, .slice none 0 0] 42).to (w' := u3); obtain ⟨e7, g7, l7⟩ := q7)
          | (have q7 := (made1 u2 #[.bool false, .slice none 0 0] 42).all (w' := u3); have h7 := (made1 u2 #[.bool false, .slice none 0 0] 42).to (w' := u3); obtain ⟨e7, g7, l7⟩ := q7)
          | skip)))
    all_goals
      go_wp2_with fail
      go_meet
      first
        | (have q := Loc.fill2 (u := .bool b7) (v := .slice A7 m7 c7) h7; refine ⟨_, _, _, _, _, rfl, ?_, q, IntV.out k3, bel⟩; omega)
        | (refine ⟨_, _, _, _, _, rfl, ?_, made1 u3 _ _, IntV.out k3, bel⟩; omega)
  case rest =>
    obtain ⟨g, bg, E, r, s, rfl, hg, M3, k3, hB5⟩ := hcut
    have y8 := hB5.size; (try simp only [World.size_alloc, size_set, size_drew, size_drewN] at y8)
    have q3 := Loc.lt M3
    go_wp2_with fail
    go_region_held3 (fun W => ((W.cell? ⟨w1.heap.size, 2, none⟩ = some (.bool b3') ∧ W.cell? ⟨w1.heap.size, 3, none⟩ = some (.slice A3' m3' c3')) ∧ (W.cell? ⟨w2.heap.size, 2, none⟩ = some (.bool b4') ∧ W.cell? ⟨w2.heap.size, 3, none⟩ = some (.slice A4' m4' c4'))) ∧ W.cell? ⟨g, 0, none⟩ = some (.bool bg) ∧ W.cell? ⟨g, 1, none⟩ = some (.slice E r s))
      (exact ⟨⟨⟨Loc.c 2 M1, Loc.c 3 M1⟩, Loc.c 2 M2, Loc.c 3 M2⟩, Loc.c 0 M3, Loc.c 1 M3⟩)
      (first
        | (go_at_call_of 52 (Value.agg #[Value.bool b3', Value.slice A3' m3' c3']); refine (rmul_any _ (fun _ => False) _ _ _ _ _ _ i2.to j2.to (Nat.le_trans HX.out.2 (by omega)) (Nat.le_trans HY.out.2 (by omega))).mono ?_; rintro e u1 ⟨v5, rfl, k1, hb5⟩; rw [sv_dig, sv_dig] at k1; obtain ⟨b5, A5, m5, c5, rfl, k1⟩ := k1.op; have y5 := hb5.size; (try simp only [World.size_alloc, size_set, size_drew, size_drewN] at y5))
        | (go_at_call 53; refine (rnew_any _ (fun _ => False) _ _ _ _ _ _ k3.to k1.to HV.out (Nat.le_trans HS.out (by omega)) (Nat.le_trans (len_mulI HX.out.2 HY.out.2) (by omega))).mono ?_; rintro e u3 ⟨v7, rfl, h8, hb7⟩; rw [sv_dig, sv_dig, HE.out] at h8; obtain ⟨b7, A7, m7, c7, b7', A7', m7', c7', rfl, h8, -, -⟩ := h8.op; have y7 := hb7.size; (try simp only [World.size_alloc, size_set, size_drew, size_drewN] at y7); obtain ⟨e5, g5, l5⟩ := Loc.all L3 (w' := u3); have l51 : w.heap.size + 1 < u3.heap.size := (by omega); have l52 : w.heap.size < u3.heap.size := (by omega); (first
          | (have q7 := (made1 wc #[.bool false, .slice none 0 0, .bool false, .slice none 0 0] 44).all (w' := u3); have h7 := (made1 wc #[.bool false, .slice none 0 0, .bool false, .slice none 0 0] 44).to (w' := u3); obtain ⟨e7, g7, l7⟩ := q7; have n70 : w.heap.size + 1 + 1 ≠ wc.heap.size := (by omega))
          | (have q7 := (made1 u1 #[.bool false, .slice none 0 0, .bool false, .slice none 0 0] 44).all (w' := u3); have h7 := (made1 u1 #[.bool false, .slice none 0 0, .bool false, .slice none 0 0] 44).to (w' := u3); obtain ⟨e7, g7, l7⟩ := q7; have n70 : w.heap.size + 1 + 1 ≠ u1.heap.size := (by omega))
          | skip)))
    all_goals
      go_wp2_with fail
      refine bodyPost_ret (by simp [results, Tryz.results21, go_sem, *] <;> rfl) rfl ⟨_, rfl, h8.out, bel⟩
end Go.Proofs.YtpeglenapmkdfaaGreat

/- Of the reference: Sub, Divide, Compare; printed by gen_rat11.py. -/
namespace Go.Proofs.YtpeglenapmkdfaaGreat
open Go.RowKit
attribute [local go_sem ↓] Go.wp_at_zero Go.wp_at_succ

set_option maxHeartbeats 4000000 in
theorem rsub_rat (w : World) (X : Nat → Prop) (v1 v2 : Value) (x y : Rat) (h1 : RatL 1000000 w X v1 x) (h2 : RatL 1000000 w X v2 y) :
    Calls Tryz.prog 63 #[v1, v2] w fun e w' => ∃ v', e = .returned v' ∧ RatV w' (Old w) v' (x - y) ∧ Below w.heap.size w w' := by
  have HX := Lib.hid (h1.rsz (by omega))
  have HY := Lib.hid (h2.rsz (by omega))
  have HE : Hid (x + -y = x - y) := (Rat.sub_eq_add_neg x y).symm
  obtain ⟨n1, A, m, c, n2, B, m', d, rfl, h1, -⟩ := h1.op
  obtain ⟨o1, C, p, e, o2, D, p', f, rfl, h2, -⟩ := h2.op
  have L1 := made1 w #[.bool n1, .slice A m c, .bool n2, .slice B m' d] 44
  have L2 := made2 w (.cells #[.bool n1, .slice A m c, .bool n2, .slice B m' d] 44) #[.bool o1, .slice C p e, .bool o2, .slice D p' f] 44
  have L3 := made3 w (.cells #[.bool n1, .slice A m c, .bool n2, .slice B m' d] 44) (.cells #[.bool o1, .slice C p e, .bool o2, .slice D p' f] 44) #[.bool false, .slice none 0 0, .bool false, .slice none 0 0] 44
  go_enter Tryz.func63, Tryz.ntmps63
  go_wp2_with fail
  go_region_held3 (fun W => ((W.cell? ⟨w.heap.size, 0, none⟩ = some (.bool n1) ∧ W.cell? ⟨w.heap.size, 1, none⟩ = some (.slice A m c)) ∧ W.cell? ⟨w.heap.size, 2, none⟩ = some (.bool n2) ∧ W.cell? ⟨w.heap.size, 3, none⟩ = some (.slice B m' d)) ∧ (W.cell? ⟨w.heap.size + 1, 0, none⟩ = some (.bool o1) ∧ W.cell? ⟨w.heap.size + 1, 1, none⟩ = some (.slice C p e)) ∧ W.cell? ⟨w.heap.size + 1, 2, none⟩ = some (.bool o2) ∧ W.cell? ⟨w.heap.size + 1, 3, none⟩ = some (.slice D p' f))
    (exact ⟨⟨⟨Loc.c 0 L1, Loc.c 1 L1⟩, Loc.c 2 L1, Loc.c 3 L1⟩, ⟨Loc.c 0 L2, Loc.c 1 L2⟩, Loc.c 2 L2, Loc.c 3 L2⟩)
    (first
      | (go_at_call 95; refine (rneg_rat _ (fun _ => False) _ y (h2.mono (by omega)).to).mono ?_; rintro e u1 ⟨v5, rfl, h5, hb5⟩; obtain ⟨b5, A5, m5, k5, b5', A5', m5', k5', rfl, h5, -, -⟩ := h5.op; have y5 := hb5.size; (try simp only [World.size_alloc, size_set, size_drew, size_drewN] at y5))
      | (go_at_call 21; refine (radd_rat _ (fun _ => False) _ _ x (-y) h1.to (h5.len HY.out.neg).to).mono ?_; rintro e u2 ⟨v6, rfl, h6, hb6⟩; rw [HE.out] at h6; obtain ⟨b6, A6, m6, k6, b6', A6', m6', k6', rfl, h6, -, -⟩ := h6.op; have y6 := hb6.size; (try simp only [World.size_alloc, size_set, size_drew, size_drewN] at y6); obtain ⟨e5, g5, -⟩ := Loc.all L3 (w' := u2)))
  all_goals
    go_wp2_with fail
    refine bodyPost_ret (by simp [results, Tryz.results63, go_sem, e5, g5] <;> rfl) rfl ⟨_, rfl, h6.out, bel⟩

set_option maxHeartbeats 4000000 in
theorem rcompare_rat (w : World) (X : Nat → Prop) (v1 v2 : Value) (x y : Rat) (h1 : RatL 1000000 w X v1 x) (h2 : RatL 1000000 w X v2 y) :
    Calls Tryz.prog 28 #[v1, v2] w fun e w' => e = .returned (.int .i64 (rcmp x y)) ∧ Below w.heap.size w w' := by
  have HX := Lib.hid (h1.rsz (by omega))
  have HY := Lib.hid (h2.rsz (by omega))
  obtain ⟨n1, A, m, c, n2, B, m', d, rfl, h1, -⟩ := h1.op
  obtain ⟨o1, C, p, e, o2, D, p', f, rfl, h2, -⟩ := h2.op
  have L1 := made1 w #[.bool n1, .slice A m c, .bool n2, .slice B m' d] 44
  have L2 := made2 w (.cells #[.bool n1, .slice A m c, .bool n2, .slice B m' d] 44) #[.bool o1, .slice C p e, .bool o2, .slice D p' f] 44
  go_enter Tryz.func28, Tryz.ntmps28
  go_wp2_with fail
  refine (rsub_rat _ (fun _ => False) _ _ x y h1.to h2.to).mono ?_
  rintro e w1 ⟨v3, rfl, h3, hb1⟩
  obtain ⟨b3, A3, m3, c3, b3', A3', m3', c3', rfl, h3, -, -⟩ := h3.op
  obtain ⟨z1, z2⟩ := sz2 hb1
  have HR : Rsz 10000000 (x - y) := by
    rw [Rat.sub_eq_add_neg]
    exact (HX.out.add HY.out.neg).mono (by omega)
  go_wp2_with fail
  refine (rsign_rat _ (fun _ => False) _ (x - y) (h3.len HR).to).mono ?_
  rintro e w2 ⟨rfl, hb2⟩
  have y2 := hb2.size; (try simp only [World.size_alloc, size_set, size_drew, size_drewN] at y2)
  go_wp2_with fail
  go_ret
  exact ⟨rfl, bel⟩
end Go.Proofs.YtpeglenapmkdfaaGreat

/- The reference: Dot, Equal, positive. -/
namespace Go.Proofs.YtpeglenapmkdfaaGreat
open Go.RowKit
attribute [local go_sem ↓] Go.wp_at_zero Go.wp_at_succ

theorem zR4_any (k : Nat) (w : World) (X : Nat → Prop) : RatL k w X (.agg #[.bool false, .slice none 0 0, .bool false, .slice none 0 0]) 0 :=
  ⟨false, [], false, [], ⟨none, 0, none, 0, rfl, ⟨_, rfl, Words.nil _ _⟩, ⟨_, rfl, Words.nil _ _⟩⟩, Nat.zero_le _, Nat.zero_le _, rfl⟩

set_option maxHeartbeats 8000000 in
theorem rdot_any (w : World) (v1 v2 : Value) (n n2 k : Nat) (f q : Nat → Rat) (h1 : Nums k w (fun _ => False) v1 n f) (h2 : Nums k w (fun _ => False) v2 n2 q) (hn : n ≤ n2) (hn2 : n ≤ 200) (hk1 : 1 ≤ k) (hk : k ≤ 2000) :
    Calls Tryz.prog 35 #[v1, v2] w fun e w' => ∃ v', e = .returned v' ∧ RatL 900000 w' (Old w) v' (sm n (fun i => f i * q i)) ∧ Below w.heap.size w w' := by
  obtain ⟨A, c1, rfl, h1, l1, l2⟩ := h1.op
  obtain ⟨B, c2, rfl, h2, l3, l4⟩ := h2.op
  have HF := Lib.hid (h1.rsz hk1)
  have HQ := Lib.hid (h2.rsz hk1)
  have HS : Hid (∀ i, i ≤ n → Rsz 900000 (sm i (fun i => f i * q i))) := fun i hi => dot_rsz (fun j hj => HF.out j (by omega)) (fun j hj => HQ.out j (by omega)) (by omega) hk
  have HN := Lib.hid hn
  have H1 := Lib.hid h1
  have H2 := Lib.hid h2
  clear h1 h2
  have L := made1 w #[.bool false, .slice none 0 0, .bool false, .slice none 0 0] 44
  have M := made2 w (.cells #[.bool false, .slice none 0 0, .bool false, .slice none 0 0] 44) #[.bool false, .slice none 0 0, .bool false, .slice none 0 0] 44
  go_enter Tryz.func35, Tryz.ntmps35
  go_wp2_with fail
  go_loopw [6] (fun i wr => ∃ (c : Nat) (r : R4), c ≤ n ∧ i = .int .i64 c ∧ Loc wr (w.heap.size + 1) 44 #[.bool r.b, .slice r.A r.m r.c, .bool r.b', .slice r.A' r.m' r.c'] ∧ RatL 900000 wr (fun b => b ≤ w.heap.size + 1) r.v (sm c (fun i => f i * q i)) ∧
      Loc wr w.heap.size 44 #[.bool false, .slice none 0 0, .bool false, .slice none 0 0] ∧ Below w.heap.size w wr) (fun i _ => n - (intOf i).toNat)
  case atStart => exact ⟨0, zR4, by omega, rfl, M, zR4_any _ _ _, L.to, bel⟩
  case round =>
    obtain ⟨c, r, hc, rfl, N, s1, NL, hB⟩ := hrel
    obtain ⟨wo, rfl⟩ : ∃ wo : World, wo = wr := ⟨_, rfl⟩
    obtain ⟨b2, A2, m2, c2, b2', A2', m2', c2'⟩ := r
    unfold R4.v at s1
    dsimp only at N s1
    have q1 := Loc.lt N
    have q2 := Loc.lt NL
    clear M L
    by_cases hlt : c < n
    · obtain ⟨a, b3, A3, m3, c3, b3', A3', m3', c3', rfl, ha, -, x0, x1, x2, x3, r3⟩ := Nums.at (Nums.keep H1.out (.of_below hB)) hlt
      obtain ⟨a', b4, A4, m4, c4, b4', A4', m4', c4', rfl, ha', -, y0, y1, y2, y3, r4⟩ := Nums.at (Nums.keep H2.out (.of_below hB)) (show c < n2 by have := HN.out; omega)
      have hcn2 : c < n2 := by have := HN.out; omega
      have HL : Hid (∀ W, Below wo.heap.size wo W → ((W.cell? (a.add (c * 4)) = some (.bool b3) ∧ W.cell? ⟨(a.add (c * 4)).block, (a.add (c * 4)).off + 1, none⟩ = some (.slice A3 m3 c3)) ∧ W.cell? ⟨(a.add (c * 4)).block, (a.add (c * 4)).off + 2, none⟩ = some (.bool b3') ∧ W.cell? ⟨(a.add (c * 4)).block, (a.add (c * 4)).off + 3, none⟩ = some (.slice A3' m3' c3')) ∧
          (W.cell? (a'.add (c * 4)) = some (.bool b4) ∧ W.cell? ⟨(a'.add (c * 4)).block, (a'.add (c * 4)).off + 1, none⟩ = some (.slice A4 m4 c4)) ∧ W.cell? ⟨(a'.add (c * 4)).block, (a'.add (c * 4)).off + 2, none⟩ = some (.bool b4') ∧ W.cell? ⟨(a'.add (c * 4)).block, (a'.add (c * 4)).off + 3, none⟩ = some (.slice A4' m4' c4')) := fun W hW => by
        refine ⟨⟨⟨?_, ?_⟩, ?_, ?_⟩, ⟨?_, ?_⟩, ?_, ?_⟩
        · exact cell_keep (X := fun _ => False) x0 (by rw [add_block]; exact ha) id (.of_below hW)
        · exact cell_keep (X := fun _ => False) x1 (by simp only [add_block]; exact ha) id (.of_below hW)
        · exact cell_keep (X := fun _ => False) x2 (by simp only [add_block]; exact ha) id (.of_below hW)
        · exact cell_keep (X := fun _ => False) x3 (by simp only [add_block]; exact ha) id (.of_below hW)
        · exact cell_keep (X := fun _ => False) y0 (by rw [add_block]; exact ha') id (.of_below hW)
        · exact cell_keep (X := fun _ => False) y1 (by simp only [add_block]; exact ha') id (.of_below hW)
        · exact cell_keep (X := fun _ => False) y2 (by simp only [add_block]; exact ha') id (.of_below hW)
        · exact cell_keep (X := fun _ => False) y3 (by simp only [add_block]; exact ha') id (.of_below hW)
      have HM : Hid (Rsz (k + k) (f c * q c)) := (HF.out c hlt).mul (HQ.out c hcn2)
      have HE : Hid (sm c (fun i => f i * q i) + f c * q c = sm (c + 1) (fun i => f i * q i)) := rfl
      have HC1 := Lib.hid (HS.out (c + 1) (by omega))
      clear x0 x1 x2 x3 y0 y1 y2 y3
      go_upto_block 1 with fail
      go_cut [] from 9 to 26 (fun W => ∃ r : R4, Loc W (w.heap.size + 1) 44 #[.bool r.b, .slice r.A r.m r.c, .bool r.b', .slice r.A' r.m' r.c'] ∧ RatL 900000 W (fun b => b ≤ w.heap.size + 1) r.v (sm (c + 1) (fun i => f i * q i)) ∧
        Loc W w.heap.size 44 #[.bool false, .slice none 0 0, .bool false, .slice none 0 0] ∧ Below w.heap.size w W)
      case first =>
        go_wp2_with fail
        go_region_held3 (fun W => ((W.cell? (a.add (c * 4)) = some (.bool b3) ∧ W.cell? ⟨(a.add (c * 4)).block, (a.add (c * 4)).off + 1, none⟩ = some (.slice A3 m3 c3)) ∧ W.cell? ⟨(a.add (c * 4)).block, (a.add (c * 4)).off + 2, none⟩ = some (.bool b3') ∧ W.cell? ⟨(a.add (c * 4)).block, (a.add (c * 4)).off + 3, none⟩ = some (.slice A3' m3' c3')) ∧
          (W.cell? (a'.add (c * 4)) = some (.bool b4) ∧ W.cell? ⟨(a'.add (c * 4)).block, (a'.add (c * 4)).off + 1, none⟩ = some (.slice A4 m4 c4)) ∧ W.cell? ⟨(a'.add (c * 4)).block, (a'.add (c * 4)).off + 2, none⟩ = some (.bool b4') ∧ W.cell? ⟨(a'.add (c * 4)).block, (a'.add (c * 4)).off + 3, none⟩ = some (.slice A4' m4' c4'))
          (exact HL.out _ bel)
          (first | (go_at_call 22; refine (rmul_rat _ (fun _ => False) _ _ (f c) (q c) (RatL.to (r3.mono (by omega))) (RatL.to (r4.mono (by omega)))).mono ?_; rintro e u1 ⟨v5, rfl, i5, hb5⟩; obtain ⟨b5, A5, m5, c5, b5', A5', m5', c5', rfl, i5, -, -⟩ := i5.op; have y5 := hb5.size; (try simp only [World.size_alloc, size_set, size_drew, size_drewN] at y5); (first
            | (have h7 : Loc u1 wo.heap.size 44 #[.bool false, .slice none 0 0, .bool false, .slice none 0 0] := (made1 wo #[.bool false, .slice none 0 0, .bool false, .slice none 0 0] 44).to (w' := u1); obtain ⟨e7, g7, l7⟩ := h7.all (w' := u1))
            | skip)))
        all_goals
          obtain ⟨e2, f2, l2⟩ := Loc.all N (w' := u1)
          go_wp2_with fail
          refine (radd_rat _ (fun _ => False) _ _ (sm c (fun i => f i * q i)) (f c * q c) (RatL.to (s1.mono (by omega))) (RatL.to ((i5.len HM.out).mono (by omega)))).mono ?_
          rintro e u2 ⟨v6, rfl, i6, hb6⟩
          rw [HE.out] at i6
          obtain ⟨b6, A6, m6, c6, b6', A6', m6', c6', rfl, i6, -, -⟩ := i6.op
          have y6 := hb6.size; (try simp only [World.size_alloc, size_set, size_drew, size_drewN] at y6)
          clear e2 f2
          have N6 : Loc u2 _ _ _ := Loc.to N (w' := u2)
          obtain ⟨e2, f2, l3⟩ := Loc.all N6 (w' := u2)
          go_wp2_with fail
          go_meet
          refine ⟨⟨b6, A6, m6, c6, b6', A6', m6', c6'⟩, Loc.fill4 N6, ?_, Loc.to NL, bel⟩
          refine RatV.len (q := sm (c + 1) (fun i => f i * q i)) (RatV.out i6) HC1.out
      case rest =>
        obtain ⟨r, N6, s6, NL6, hB6⟩ := hcut
        obtain ⟨w6, rfl⟩ : ∃ w6 : World, w6 = wc := ⟨_, rfl⟩
        go_wp2_with fail
        go_roundw
        case rel => exact ⟨c + 1, r, by omega, by go_num, N6, s6, NL6, hB6⟩
        case measure => simp only [intOf]; omega
    · obtain rfl : c = n := by omega
      obtain ⟨e1, f1, -⟩ := Loc.all N (w' := wo)
      obtain ⟨e4, f4, -⟩ := Loc.all NL (w' := wo)
      go_wp2_with fail
      refine bodyPost_ret (by simp [results, Tryz.results35, go_sem, e4, f4] <;> rfl) rfl ⟨_, rfl, ?_, bel⟩
      exact (s1.keep kp).weak (fun b _ hb => by show b ≤ w.heap.size + 1; have : b < w.heap.size := hb; omega)
end Go.Proofs.YtpeglenapmkdfaaGreat

/- The reference: Column, Equal, positive, Valid. -/
namespace Go.Proofs.YtpeglenapmkdfaaGreat
open Go.RowKit
attribute [local go_sem ↓] Go.wp_at_zero Go.wp_at_succ

set_option maxHeartbeats 4000000 in
theorem rcolumn_any (w : World) (va vb : Value) (m j k : Nat) (N : Nat → Nat) (F : Nat → Nat → Rat) (h : Mat k w (fun _ => False) va m N F) (hs : ∃ B p c, vb = .slice B p c) (hj : ∀ i, i < m → j < N i) (hm : m ≤ 200) :
    Calls Tryz.prog 46 #[.agg #[va, vb], .int .i64 j] w fun e w' => ∃ v', e = .returned v' ∧ Nums k w' (fun _ => False) v' m (fun i => F i j) ∧ Below w.heap.size w w' := by
  obtain ⟨A, c1, rfl, h, l1, l2⟩ := h.op
  obtain ⟨B, p, c2, rfl⟩ := hs
  have H := Lib.hid h
  have HJ := Lib.hid hj
  have i0 : (0 : Int) ≤ (j : Int) := by omega
  have L := made1 w #[.slice A m c1, .slice B p c2] 25
  clear h hj
  go_enter Tryz.func46, Tryz.ntmps46
  go_wp2_with fail
  go_loopw [5, 6] (fun v i wr => ∃ (c : Nat) (rs : List R4), c ≤ m ∧ i = .int .i64 c ∧ OwnR wr (w.heap.size + 1) v rs ∧ rs.length = c ∧ ValL k w (fun _ => False) rs (fun i => F i j) ∧ Below w.heap.size w wr ∧ Loc wr w.heap.size 25 #[.slice A m c1, .slice B p c2]) (fun _ i _ => m - (intOf i).toNat)
  case atStart => exact ⟨0, [], by omega, rfl, OwnR.nil _ _, rfl, fun i r hr => by simp at hr, bel, L.to⟩
  case round =>
    obtain ⟨c, rs, hc, rfl, hown, hrl, hv, hB, N1⟩ := hrel
    obtain ⟨wo, rfl⟩ : ∃ wo : World, wo = wr := ⟨_, rfl⟩
    have y5 := hB.size; (try simp only [World.size_alloc, size_set, size_drew, size_drewN] at y5)
    have q1 := Loc.lt N1
    obtain ⟨e1, f1, -⟩ := N1.all (w' := wo)
    by_cases hlt : c < m
    · obtain ⟨a, D, d, rfl, hab, -, hcell, hnum, l3, l4⟩ := Mat.at H.out hlt
      have hjc := HJ.out c hlt
      have j1 : (j : Int) < (N c : Int) := by omega
      obtain ⟨a', b3, A3, m3, c3, b3', A3', m3', c3', rfl, ha', -, x0, x1, x2, x3, r3⟩ := Nums.at hnum hjc
      have hcell' : wo.cell? (a.add c) = _ := cell_keep (X := fun _ => False) hcell (by rw [add_block]; exact hab) id (.of_below hB)
      replace x0 : wo.cell? (a'.add (j * 4)) = _ := cell_keep (X := fun _ => False) x0 (by rw [add_block]; exact ha') id (.of_below hB)
      replace x1 : wo.cell? ⟨(a'.add (j * 4)).block, (a'.add (j * 4)).off + 1, none⟩ = _ := cell_keep (X := fun _ => False) x1 (by simp only [add_block]; exact ha') id (.of_below hB)
      replace x2 : wo.cell? ⟨(a'.add (j * 4)).block, (a'.add (j * 4)).off + 2, none⟩ = _ := cell_keep (X := fun _ => False) x2 (by simp only [add_block]; exact ha') id (.of_below hB)
      replace x3 : wo.cell? ⟨(a'.add (j * 4)).block, (a'.add (j * 4)).off + 3, none⟩ = _ := cell_keep (X := fun _ => False) x3 (by simp only [add_block]; exact ha') id (.of_below hB)
      go_wp2_with (at_builtin; refine wpList_pushR _ rfl _ _ rfl (w.heap.size + 1) _ rs rfl (hown.below ((Below.refl _ _).alloc (Nat.le_refl _) _)) _ ⟨b3, A3, m3, c3, b3', A3', m3', c3'⟩ rfl (heap_alloc_new wo _) (by omega) (by simp only [World.size_alloc]; omega) ?_)
      intro g cap w2 hown2 hg2 ho hl
      have hb2 : Below w.heap.size w w2 := below_own (hB.alloc y5 _) (hown.below ((Below.refl _ _).alloc (Nat.le_refl _) _)) hg2 (by omega) (by simp only [World.size_alloc]; omega)
      have N2 : Loc w2 w.heap.size 25 _ := Loc.to N1 (k := (Stay.refl.alloc).grown hg2 (fun hgg => by have := (hown.lt hgg).2; omega))
      go_wp2_with fail
      go_roundw
      case rel =>
        refine ⟨c + 1, rs ++ [⟨b3, A3, m3, c3, b3', A3', m3', c3'⟩], by omega, by go_num, ?_, by simp [hrl], hv.push (by rw [hrl]; exact r3), hb2, N2⟩
        exact hown2
      case measure => simp only [intOf]; omega
    · obtain rfl : c = m := by omega
      go_wp2_with fail
      go_ret
      subst hrl
      exact ⟨_, rfl, hown.nums (hv.keep (.of_below hB)) (fun _ _ h => h) (fun _ _ h => h), hB⟩

set_option maxHeartbeats 4000000 in
theorem equal_any (w : World) (X : Nat → Prop) (v1 v2 : Value) (x y : Rat) (h1 : RatL 1000000 w X v1 x) (h2 : RatL 1000000 w X v2 y) :
    Calls Tryz.prog 27 #[v1, v2] w fun e w' => Tells (x = y) e ∧ Below w.heap.size w w' := by
  obtain ⟨q, hq⟩ : ∃ q, rcmp x y = q := ⟨_, rfl⟩
  have HQ : Hid (q = 0 ↔ x = y) := by show _ ↔ _; rw [← hq]; exact rcmp_zero x y
  have HQQ := Lib.hid hq
  clear hq
  obtain ⟨n1, A, m, c, n2, B, m', d, rfl, h1, -⟩ := h1.op
  obtain ⟨o1, C, p, e, o2, D, p', f, rfl, h2, -⟩ := h2.op
  go_enter Tryz.func27, Tryz.ntmps27
  go_wp2_with fail
  refine (rcompare_rat _ (fun _ => False) _ _ x y (RatL.to h1) (RatL.to h2)).mono ?_
  rintro e w1 ⟨he, hb1⟩
  rw [HQQ.out] at he
  subst he
  obtain ⟨z1, z2⟩ := sz2 hb1
  by_cases h0 : q = 0
  · subst h0
    have HV := Lib.hid (HQ.out.1 rfl)
    clear HQ
    go_wp2_with fail
    go_ret
    exact ⟨Tells.yes HV.out, bel⟩
  · have HV : Hid (¬ x = y) := fun h => h0 (HQ.out.2 h)
    have hqf : (q == 0) = false := beq_eq_false_iff_ne.2 h0
    clear HQ
    go_wp2_with fail
    go_ret
    refine ⟨?_, bel⟩
    simp [hqf]
    exact Tells.no HV.out

set_option maxHeartbeats 4000000 in
theorem positive_any (w : World) (va : Value) (m k : Nat) (f : Nat → Rat) (h : Nums k w (fun _ => False) va m f) (hk : k ≤ 2000) (hm : m ≤ 1000000) :
    Calls Tryz.prog 41 #[va] w fun e w' => Tells (∀ i, i < m → ¬ f i < 0) e ∧ Below w.heap.size w w' := by
  obtain ⟨A, c1, rfl, h, l1, l2⟩ := h.op
  have H := Lib.hid h
  clear h
  go_enter Tryz.func41, Tryz.ntmps41
  go_wp2_with fail
  go_loopw [3] (fun i wr => ∃ (c : Nat), c ≤ m ∧ i = .int .i64 c ∧ Hid (∀ i, i < c → ¬ f i < 0) ∧ Below w.heap.size w wr) (fun i _ => m - (intOf i).toNat)
  case atStart => exact ⟨0, by omega, rfl, Lib.hid (fun i hi => absurd hi (by omega)), bel⟩
  case round =>
    obtain ⟨c, hc, rfl, hall, hB⟩ := hrel
    obtain ⟨wo, rfl⟩ : ∃ wo : World, wo = wr := ⟨_, rfl⟩
    have y5 := hB.size; (try simp only [World.size_alloc, size_set, size_drew, size_drewN] at y5)
    by_cases hlt : c < m
    · obtain ⟨a, b3, A3, m3, c3, b3', A3', m3', c3', rfl, ha, -, x0, x1, x2, x3, r3⟩ := Nums.at (Nums.keep H.out (.of_below hB)) hlt
      replace x1 : wo.cell? ⟨(a.add (c * 4)).block, (a.add (c * 4)).off + 1, none⟩ = _ := x1
      replace x2 : wo.cell? ⟨(a.add (c * 4)).block, (a.add (c * 4)).off + 2, none⟩ = _ := x2
      replace x3 : wo.cell? ⟨(a.add (c * 4)).block, (a.add (c * 4)).off + 3, none⟩ = _ := x3
      have hsn := sign_neg_iff (f c)
      obtain ⟨sg, hsg⟩ : ∃ s, (f c).num.sign = s := ⟨_, rfl⟩
      rw [hsg] at hsn
      have HSN := Lib.hid hsn
      have HSG := Lib.hid hsg
      clear hsn hsg
      go_wp2_with fail
      refine (rsign_rat _ (fun _ => False) _ (f c) (r3.mono (by omega))).mono ?_
      rintro e w2 ⟨he, hb2⟩
      rw [HSG.out] at he
      subst he
      have y2 := hb2.size; (try simp only [World.size_alloc, size_set, size_drew, size_drewN] at y2)
      by_cases hneg : sg < 0
      · have HV : Hid (¬ ∀ i, i < m → ¬ f i < 0) := fun h => h c hlt (HSN.out.1 hneg)
        clear HSN HSG
        go_wp2_with fail
        go_ret
        exact ⟨Tells.no HV.out, bel⟩
      · have HV : Hid (¬ f c < 0) := fun h => hneg (HSN.out.2 h)
        clear HSN HSG
        go_wp2_with fail
        go_roundw
        case rel =>
          refine ⟨c + 1, by omega, by go_num, Lib.hid (fun i hi => ?_), bel⟩
          by_cases hic : i < c
          · exact hall.out i hic
          · obtain rfl : i = c := by omega
            exact HV.out
        case measure => simp only [intOf]; omega
    · obtain rfl : c = m := by omega
      go_wp2_with fail
      go_ret
      exact ⟨Tells.yes hall.out, hB⟩
end Go.Proofs.YtpeglenapmkdfaaGreat

