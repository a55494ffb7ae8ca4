/- Contracts of the functions that the statements reach, part 20. -/
import Derived.Test.YtpeglenapmkdfaaGreatRows
import Derived.Deep.CutBlock
import Derived.Test.YtpeglenapmkdfaaGreatM9
import Derived.Test.YtpeglenapmkdfaaGreatM10
import Derived.Test.YtpeglenapmkdfaaGreatM16
import Derived.Test.YtpeglenapmkdfaaGreatM18
import Derived.Test.YtpeglenapmkdfaaGreatM19
set_option linter.unusedSimpArgs false
set_option linter.unusedVariables false

/- rational.Sub; of the reference: isZero, zero, New, Clean, Of, Sign. -/
namespace Go.Proofs.YtpeglenapmkdfaaGreat
open Go.RowKit
attribute [local go_sem ↓] Go.wp_at_zero Go.wp_at_succ

set_option maxHeartbeats 2000000 in
theorem sub_rat (w : World) (X : Nat → Prop) (v1 v2 : Value) (x y : Rat) (h1 : RatL 10000000 w X v1 x) (h2 : RatL 10000000 w X v2 y) :
    Calls Tryz.prog 74 #[v1, v2] w fun e w' => ∃ v', e = .returned v' ∧ RatV w' (Old w) v' (x - y) ∧ Below w.heap.size w w' := by
  have HY := Lib.hid ((h2.rsz (by omega)).neg)
  have HE : Hid (x + -y = x - y) := (Rat.sub_eq_add_neg x y).symm
  obtain ⟨n1, A, m, c, n2, B, m', d, rfl, h1, -⟩ := h1.op
  obtain ⟨o1, C, p, e, o2, D, p', f, rfl, h2, -⟩ := h2.op
  go_enter Tryz.func74, Tryz.ntmps74
  go_wp2_with fail
  have L1 := made1 w #[.bool n1, .slice A m c, .bool n2, .slice B m' d] 44
  have L2 := made2 w (.cells #[.bool n1, .slice A m c, .bool n2, .slice B m' d] 44) #[.bool o1, .slice C p e, .bool o2, .slice D p' f] 44
  have L3 := made3 w (.cells #[.bool n1, .slice A m c, .bool n2, .slice B m' d] 44) (.cells #[.bool o1, .slice C p e, .bool o2, .slice D p' f] 44) #[.bool false, .slice none 0 0, .bool false, .slice none 0 0] 44
  go_region_held3 (fun W => ((W.cell? ⟨w.heap.size, 0, none⟩ = some (.bool n1) ∧ W.cell? ⟨w.heap.size, 1, none⟩ = some (.slice A m c)) ∧ W.cell? ⟨w.heap.size, 2, none⟩ = some (.bool n2) ∧ W.cell? ⟨w.heap.size, 3, none⟩ = some (.slice B m' d)) ∧ (W.cell? ⟨w.heap.size + 1, 0, none⟩ = some (.bool o1) ∧ W.cell? ⟨w.heap.size + 1, 1, none⟩ = some (.slice C p e)) ∧ W.cell? ⟨w.heap.size + 1, 2, none⟩ = some (.bool o2) ∧ W.cell? ⟨w.heap.size + 1, 3, none⟩ = some (.slice D p' f))
    (exact ⟨⟨⟨Loc.c 0 L1, Loc.c 1 L1⟩, Loc.c 2 L1, Loc.c 3 L1⟩, ⟨Loc.c 0 L2, Loc.c 1 L2⟩, Loc.c 2 L2, Loc.c 3 L2⟩)
    (first
      | (go_at_call 59; refine (neg_rat _ (fun _ => False) _ y (h2.mono (by omega)).to).mono ?_; rintro e u1 ⟨v5, rfl, h5, hb5⟩; obtain ⟨b5, A5, m5, k5, b5', A5', m5', k5', rfl, h5, -, -⟩ := h5.op; have y5 := hb5.size; (try simp only [World.size_alloc, size_set, size_drew, size_drewN] at y5))
      | (go_at_call 71; refine (add_rat _ (fun _ => False) _ _ x (-y) h1.to (h5.len HY.out).to).mono ?_; rintro e u2 ⟨v6, rfl, h6, hb6⟩; rw [HE.out] at h6; obtain ⟨b6, A6, m6, k6, b6', A6', m6', k6', rfl, h6, -, -⟩ := h6.op; have y6 := hb6.size; (try simp only [World.size_alloc, size_set, size_drew, size_drewN] at y6); obtain ⟨e5, g5, -⟩ := Loc.all L3 (w' := u2)))
  all_goals
    go_wp2_with fail
    refine bodyPost_ret (by simp [results, Tryz.results74, go_sem, e5, g5] <;> rfl) rfl ⟨_, rfl, h6.out, bel⟩

set_option maxHeartbeats 1000000 in
theorem rsmallI (w : World) (n : Int) (h0 : -9223372036854775808 ≤ n) (h1 : n ≤ 9223372036854775807) :
    Calls Tryz.prog 86 #[.int .i64 n] w fun e w' => ∃ v', e = .returned v' ∧ IntV w' (Old w) v' n ∧ Below w.heap.size w w' := by
  go_enter Tryz.func86, Tryz.ntmps86
  go_wp2_with fail
  refine (rof_any _ n h0 h1).mono ?_
  rintro e w1 ⟨v1, rfl, i1, hb1⟩
  obtain ⟨b1, A1, m1, c1, rfl, i1⟩ := i1.op
  have z1 := sz1 hb1
  obtain ⟨e4, g4, -⟩ := (made1 w #[.bool false, .slice none 0 0] 42).all (w' := w1)
  go_wp2_with fail
  refine bodyPost_ret (by simp [results, Tryz.results86, go_sem, e4, g4] <;> rfl) rfl ⟨_, rfl, i1.out, bel⟩

theorem field_words (w : World) (b : Bool) (A : Option Addr) (n c : Nat) : (Instr.field 42 (.agg #[.bool b, .slice A n c]) 1).run Tryz.prog w = .ok (.slice A n c) w := by kernel_rfl
attribute [local go_sem] field_words
theorem dig_len_zero (z : Int) : (dig z.natAbs).length = 0 ↔ z = 0 := by
  have := dig_len_pos z.natAbs
  omega

set_option maxHeartbeats 1000000 in
theorem isZero_any (w : World) (X : Nat → Prop) (v : Value) (neg : Bool) (xs : List Nat) (h : IntR w X v neg xs) (hsz : xs.length ≤ 100000000) :
    Calls Tryz.prog 72 #[v] w fun e w' => e = .returned (.bool (decide (sv neg xs = 0))) ∧ Below w.heap.size w w' := by
  obtain ⟨A, c, rfl, h⟩ := h.op
  obtain ⟨z, hz⟩ : ∃ z, sv neg xs = z := ⟨_, rfl⟩
  rw [hz]
  have HZ := Lib.hid hz
  have HSZ := Lib.hid hsz
  clear hz hsz
  go_enter Tryz.func72, Tryz.ntmps72
  go_wp2_with fail
  refine (rclean_any _ (fun _ => False) _ neg xs h.to (by have := HSZ.out; omega)).mono ?_
  rintro e w1 ⟨v1, rfl, i1, hb1⟩
  rw [HZ.out] at i1
  obtain ⟨b1, A1, m1, c1, rfl, i1, -, HM⟩ := i1.opb
  have hd := dig_len_zero z
  rw [← HM.out] at hd
  by_cases hm : m1 = 0
  · subst hm
    have hz0 : z = 0 := hd.1 rfl
    subst hz0
    clear hd
    go_wp2_with fail
    go_ret
    exact ⟨rfl, bel⟩
  · have hz0 : z ≠ 0 := fun h => hm (hd.2 h)
    have hb : ((m1 : Int) == 0) = false := by rw [beq_eq_false_iff_ne]; omega
    have HZ0 := Lib.hid (decide_eq_false hz0)
    clear hd hz0 hm
    go_wp2_with fail
    go_ret
    exact ⟨by rw [HZ0.out]; rfl, bel⟩

set_option maxHeartbeats 1000000 in
theorem rzero_rat (w : World) :
    Calls Tryz.prog 75 #[] w fun e w' => ∃ v', e = .returned v' ∧ RatV w' (Old w) v' 0 ∧ Below w.heap.size w w' := by
  go_enter Tryz.func75, Tryz.ntmps75
  go_wp2_with fail
  refine (rsmallI _ 0 (by decide) (by decide)).mono ?_
  rintro e w1 ⟨v1, rfl, h1, hb1⟩
  obtain ⟨b1, A1, m1, c1, rfl, h1⟩ := h1.op
  have z1 := sz1 hb1
  go_wp2_with fail
  refine (rsmallI _ 1 (by decide) (by decide)).mono ?_
  rintro e w2 ⟨v2, rfl, h2, hb2⟩
  obtain ⟨b2, A2, m2, c2, rfl, h2⟩ := h2.op
  have z2 := hb2.size
  obtain ⟨c5, f5, l5⟩ := (made1 w #[.bool false, .slice none 0 0, .bool false, .slice none 0 0] 44).all (w' := w2)
  go_wp2_with fail
  refine bodyPost_ret (by simp [results, Tryz.results75, go_sem, c5, f5, l5] <;> rfl) rfl ⟨_, rfl, RatV.of h1.out h2.out, bel⟩
end Go.Proofs.YtpeglenapmkdfaaGreat

/- whole, zero, negative, dot. -/
namespace Go.Proofs.YtpeglenapmkdfaaGreat
open Go.RowKit
attribute [local go_sem ↓] Go.wp_at_zero Go.wp_at_succ

theorem divInt_int (z : Int) : Rat.divInt z 1 = (z : Rat) := by rw [Rat.divInt_eq_div]; have : ((1 : Int) : Rat) = 1 := rfl; grind

theorem rsz_int {z : Int} (h0 : -9223372036854775808 ≤ z) (h1 : z ≤ 9223372036854775807) : Rsz 2 (z : Rat) := by
  rw [← divInt_int]; exact divInt_Rsz (by omega) (dig_i64 z h0 h1) (dig_i64 1 (by decide) (by decide))

set_option maxHeartbeats 2000000 in
theorem whole_lin (w : World) (n : Int) (h0 : -9223372036854775808 ≤ n) (h1 : n ≤ 9223372036854775807) :
    Calls Tryz.prog 62 #[.int .i64 n] w fun e w' => ∃ v', e = .returned v' ∧ RatV w' (Old w) v' (n : Rat) ∧ Below w.heap.size w w' := by
  have L := made1 w #[.bool false, .slice none 0 0, .bool false, .slice none 0 0] 44
  go_enter Tryz.func62, Tryz.ntmps62
  go_wp2_with fail
  refine (ratof_any _ n 1 (by decide) h0 h1 (by decide) (by decide)).mono ?_
  rintro e w1 ⟨v1, rfl, i1, hb1⟩
  rw [divInt_int] at i1
  obtain ⟨b1, A1, m1, c1, b1', A1', m1', c1', rfl, i1, -, -⟩ := i1.op
  have z1 := sz1 hb1
  have M := made1 w1 #[.bool b1, .slice A1 m1 c1, .bool b1', .slice A1' m1' c1'] 44
  obtain ⟨e4, g4, -⟩ := L.all (w' := w1.alloc (.cells #[.bool b1, .slice A1 m1 c1, .bool b1', .slice A1' m1' c1'] 44))
  obtain ⟨e6, g6, l6⟩ := L.all (w' := w1)
  obtain ⟨e5, g5, -⟩ := M.all (w' := w1.alloc (.cells #[.bool b1, .slice A1 m1 c1, .bool b1', .slice A1' m1' c1'] 44))
  have LF := Loc.fill4 (u := .bool b1) (v := .slice A1 m1 c1) (x := .bool b1') (y := .slice A1' m1' c1') (L.to (w' := w1))
  obtain ⟨e8, g8, -⟩ := LF.all (w' := ((((w1.setCell ⟨w.heap.size, 0, none⟩ (.bool b1)).setCell ⟨w.heap.size, 1, none⟩ (.slice A1 m1 c1)).setCell ⟨w.heap.size, 2, none⟩ (.bool b1')).setCell ⟨w.heap.size, 3, none⟩ (.slice A1' m1' c1')).alloc (.cells #[.bool b1, .slice A1 m1 c1, .bool b1', .slice A1' m1' c1'] 44))
  go_wp2_with fail
  refine bodyPost_ret (by simp [results, Tryz.results62, go_sem, e8, g8] <;> rfl) rfl ⟨_, rfl, RatV.out i1, bel⟩

set_option maxHeartbeats 2000000 in
theorem zero_lin (w : World) :
    Calls Tryz.prog 55 #[] w fun e w' => ∃ v', e = .returned v' ∧ RatV w' (Old w) v' 0 ∧ Below w.heap.size w w' := by
  have L := made1 w #[.bool false, .slice none 0 0, .bool false, .slice none 0 0] 44
  go_enter Tryz.func55, Tryz.ntmps55
  go_wp2_with fail
  refine (whole_lin _ 0 (by decide) (by decide)).mono ?_
  rintro e w1 ⟨v1, rfl, i1, hb1⟩
  rw [show ((0 : Int) : Rat) = 0 from rfl] at i1
  obtain ⟨b1, A1, m1, c1, b1', A1', m1', c1', rfl, i1, -, -⟩ := i1.op
  have z1 := sz1 hb1
  obtain ⟨e4, g4, -⟩ := L.all (w' := w1)
  go_wp2_with fail
  refine bodyPost_ret (by simp [results, Tryz.results55, go_sem, e4, g4] <;> rfl) rfl ⟨_, rfl, RatV.out i1, bel⟩

theorem sign_neg_iff (q : Rat) : q.num.sign < 0 ↔ q < 0 := by
  have h : q.num.sign < 0 ↔ ¬ 0 ≤ q := by
    rw [← Rat.num_nonneg]
    rcases Int.lt_trichotomy q.num 0 with h | h | h
    · rw [Int.sign_eq_neg_one_of_neg h]; omega
    · rw [h]; decide
    · rw [Int.sign_eq_one_of_pos h]; omega
  rw [h, Rat.not_le]

set_option maxHeartbeats 2000000 in
theorem negative_any (w : World) (k : Nat) (v : Value) (q : Rat) (h : RatL k w (fun _ => False) v q) :
    Calls Tryz.prog 42 #[v] w fun e w' => e = .returned (.bool (decide (q < 0))) ∧ Below w.heap.size w w' := by
  have hq := sign_neg_iff q
  obtain ⟨b, hb⟩ : ∃ b, decide (q < 0) = b := ⟨_, rfl⟩
  rw [hb]
  obtain ⟨n1, A, m, c, n2, B, m', d, rfl, h, -⟩ := h.op
  have HB : Hid (decide (q.num.sign < 0) = b) := by show _ = _; rw [← hb]; exact decide_eq_decide.2 hq
  clear hq hb
  go_enter Tryz.func42, Tryz.ntmps42
  go_wp2_with fail
  refine (sign_rat _ (fun _ => False) k _ q h.to).mono ?_
  rintro e w1 ⟨rfl, hb1⟩
  have z1 := sz1 hb1
  have HB2 := HB.out
  generalize q.num.sign = s at *
  clear HB
  cases b
  · have h2 : ¬ s < 0 := of_decide_eq_false HB2
    go_wp2_with fail
    go_ret
    refine ⟨?_, bel⟩
    simp
  · have h2 : s < 0 := of_decide_eq_true HB2
    go_wp2_with fail
    go_ret
    exact ⟨rfl, bel⟩

set_option maxHeartbeats 8000000 in
theorem dot_any (w : World) (v1 v2 : Value) (n n2 k : Nat) (f q : Nat → Rat) (h1 : Nums k w (fun _ => False) v1 n f) (h2 : Nums k w (fun _ => False) v2 n2 q) (hn : n ≤ n2) (hn2 : n ≤ 200) (hk1 : 1 ≤ k) (hk : k ≤ 10000) :
    Calls Tryz.prog 43 #[v1, v2] w fun e w' => ∃ v', e = .returned v' ∧ RatV w' (Old w) v' (sm n (fun i => f i * q i)) ∧ Below w.heap.size w w' := by
  obtain ⟨A, c1, rfl, h1, l1, l2⟩ := h1.op
  obtain ⟨B, c2, rfl, h2, l3, l4⟩ := h2.op
  have HF := Lib.hid (h1.rsz hk1)
  have HQ := Lib.hid (h2.rsz hk1)
  have HS : Hid (∀ i, i ≤ n → Rsz ((2 * k + 2) * i + 2) (sm i (fun i => f i * q i))) := fun i => by
    induction i with
    | zero => intro _; exact (rsz_int (z := 0) (by decide) (by decide))
    | succ i ih =>
      intro hi
      rw [sm_succ]
      exact ((ih (by omega)).add ((HF.out i (by omega)).mul (HQ.out i (by omega)))).mono (by rw [Nat.mul_add]; omega)
  have HN := Lib.hid hn
  have HKB : Hid (∀ i, i ≤ n → (2 * k + 2) * i + 2 ≤ 4010000) := fun i hi => by
    have : (2 * k + 2) * i ≤ (2 * 10000 + 2) * 200 := Nat.mul_le_mul (by omega) (by omega)
    omega
  have H1 := Lib.hid h1
  have H2 := Lib.hid h2
  clear h1 h2
  have L := made1 w #[.bool false, .slice none 0 0, .bool false, .slice none 0 0] 44
  go_enter Tryz.func43, Tryz.ntmps43
  go_wp2_with fail
  refine (zero_lin _).mono ?_
  rintro e w1 ⟨v1, rfl, i1, hb1⟩
  obtain ⟨b1, A1, m1, c1, b1', A1', m1', c1', rfl, i1, -, -⟩ := i1.op
  have z1 := sz1 hb1
  have M := made1 w1 #[.bool b1, .slice A1 m1 c1, .bool b1', .slice A1' m1' c1'] 44
  go_wp2_with fail
  go_loopw [10] (fun i wr => ∃ (c : Nat) (r : R4), c ≤ n ∧ i = .int .i64 c ∧ Loc wr w1.heap.size 44 #[.bool r.b, .slice r.A r.m r.c, .bool r.b', .slice r.A' r.m' r.c'] ∧ RatV wr (fun b => b ≤ w.heap.size ∨ b = w1.heap.size) r.v (sm c (fun i => f i * q i)) ∧
      Loc wr w.heap.size 44 #[.bool false, .slice none 0 0, .bool false, .slice none 0 0] ∧ Below w.heap.size w wr) (fun i _ => n - (intOf i).toNat)
  case atStart => exact ⟨0, ⟨b1, A1, m1, c1, b1', A1', m1', c1'⟩, by omega, rfl, M, RatV.out i1, L.to, bel⟩
  case round =>
    obtain ⟨c, r, hc, rfl, N, s1, NL, hB⟩ := hrel
    obtain ⟨wo, rfl⟩ : ∃ wo : World, wo = wr := ⟨_, rfl⟩
    obtain ⟨b2, A2, m2, c2, b2', A2', m2', c2'⟩ := r
    unfold R4.v at s1
    dsimp only at N s1
    have q1 := Loc.lt N
    have q2 := Loc.lt NL
    clear i1 M L hb1
    by_cases hlt : c < n
    · obtain ⟨a, b3, A3, m3, c3, b3', A3', m3', c3', rfl, ha, -, x0, x1, x2, x3, r3⟩ := Nums.at (Nums.keep H1.out (.of_below hB)) hlt
      obtain ⟨a', b4, A4, m4, c4, b4', A4', m4', c4', rfl, ha', -, y0, y1, y2, y3, r4⟩ := Nums.at (Nums.keep H2.out (.of_below hB)) (show c < n2 by have := HN.out; omega)
      have hcn2 : c < n2 := by have := HN.out; omega
      replace x0 : wo.drew.cell? (a.add (c * 4)) = _ := x0
      replace x1 : wo.drew.cell? ⟨(a.add (c * 4)).block, (a.add (c * 4)).off + 1, none⟩ = _ := x1
      replace x2 : wo.drew.cell? ⟨(a.add (c * 4)).block, (a.add (c * 4)).off + 2, none⟩ = _ := x2
      replace x3 : wo.drew.cell? ⟨(a.add (c * 4)).block, (a.add (c * 4)).off + 3, none⟩ = _ := x3
      replace y0 : wo.drew.cell? (a'.add (c * 4)) = _ := y0
      replace y1 : wo.drew.cell? ⟨(a'.add (c * 4)).block, (a'.add (c * 4)).off + 1, none⟩ = _ := y1
      replace y2 : wo.drew.cell? ⟨(a'.add (c * 4)).block, (a'.add (c * 4)).off + 2, none⟩ = _ := y2
      replace y3 : wo.drew.cell? ⟨(a'.add (c * 4)).block, (a'.add (c * 4)).off + 3, none⟩ = _ := y3
      obtain ⟨e1, f1, -⟩ := Loc.all N (w' := wo.drew)
      have HM : Hid (Rsz (k + k) (f c * q c)) := (HF.out c hlt).mul (HQ.out c hcn2)
      have HC := Lib.hid (HS.out c hc)
      have HCK := Lib.hid (HKB.out c hc)
      have HE : Hid (sm c (fun i => f i * q i) + f c * q c = sm (c + 1) (fun i => f i * q i)) := rfl
      go_upto_block 1 with fail
      go_cut [] from 11 to 23 (fun W => ∃ r : R4, Loc W w1.heap.size 44 #[.bool r.b, .slice r.A r.m r.c, .bool r.b', .slice r.A' r.m' r.c'] ∧ RatV W (fun b => b ≤ w.heap.size ∨ b = w1.heap.size) r.v (sm (c + 1) (fun i => f i * q i)) ∧
        Loc W w.heap.size 44 #[.bool false, .slice none 0 0, .bool false, .slice none 0 0] ∧ Below w.heap.size w W)
      case first =>
        go_wp2_with fail
        go_region_with (first
          | (go_at_call 61; go_loud (refine (mul_rat _ (fun _ => False) _ _ (f c) (q c) (RatL.to (r3.mono (by omega))) (RatL.to (r4.mono (by omega)))).mono ?_; rintro e u1 ⟨v5, rfl, i5, hb5⟩; obtain ⟨b5, A5, m5, c5, b5', A5', m5', c5', rfl, i5, -, -⟩ := i5.op; have y5 := hb5.size; (try simp only [World.size_alloc, size_set, size_drew, size_drewN] at y5); obtain ⟨e2, f2, -⟩ := Loc.all N (w' := u1)))
          | (go_at_call 71; refine (add_rat _ (fun _ => False) _ _ (sm c (fun i => f i * q i)) (f c * q c) (RatL.to ((s1.len HC.out).mono (Nat.le_trans HCK.out (by omega)))) (RatL.to ((i5.len HM.out).mono (by omega)))).mono ?_; rintro e u2 ⟨v6, rfl, i6, hb6⟩; rw [HE.out] at i6; obtain ⟨b6, A6, m6, c6, b6', A6', m6', c6', rfl, i6, -, -⟩ := i6.op; have y6 := hb6.size; (try simp only [World.size_alloc, size_set, size_drew, size_drewN] at y6); obtain ⟨e3, f3, -⟩ := Loc.all N (w' := u2)))
        all_goals
          go_wp2_with fail
          go_meet
          exact ⟨⟨b6, A6, m6, c6, b6', A6', m6', c6'⟩, Loc.fill4 (Loc.to N (w' := u2)), RatV.out i6, Loc.to NL, bel⟩
      case rest =>
        obtain ⟨r, N6, s6, NL6, hB6⟩ := hcut
        obtain ⟨w6, rfl⟩ : ∃ w6 : World, w6 = wc := ⟨_, rfl⟩
        clear x0 x1 x2 x3 y0 y1 y2 y3 e1 f1
        go_wp2_with fail
        go_roundw
        case rel => exact ⟨c + 1, r, by omega, by go_num, N6, s6, NL6, hB6⟩
        case measure => simp only [intOf]; omega
    · obtain rfl : c = n := by omega
      obtain ⟨e1, f1, -⟩ := Loc.all N (w' := wo)
      obtain ⟨e4, f4, -⟩ := Loc.all NL (w' := wo)
      go_wp2_with fail
      refine bodyPost_ret (by simp [results, Tryz.results43, go_sem, e4, f4] <;> rfl) rfl ⟨_, rfl, RatV.out s1, bel⟩
end Go.Proofs.YtpeglenapmkdfaaGreat

/- slices.ContainsFunc at the two predicates: a row of another length, a number below zero. -/
namespace Go.Proofs.YtpeglenapmkdfaaGreat
open Go.RowKit
attribute [local go_sem ↓] Go.wp_at_zero Go.wp_at_succ

set_option maxHeartbeats 2000000 in
theorem valid1_any (w : World) (D : Option Addr) (l d g n : Nat) (hg : w.cell? ⟨g, 0, none⟩ = some (.int .i64 n)) :
    Calls Tryz.prog 39 #[.slice D l d, .pointer (some ⟨g, 0, none⟩)] w fun e w' => e = .returned (.bool (!decide (l = n))) ∧ Below w.heap.size w w' := by
  obtain ⟨b, hb⟩ : ∃ b, (!decide (l = n)) = b := ⟨_, rfl⟩
  rw [hb]
  by_cases h : l = n
  · obtain rfl : b = false := by rw [← hb, decide_eq_true h]; rfl
    clear hb
    subst h
    go_enter Tryz.func39, Tryz.ntmps39
    go_wp2_with fail
    go_ret
    refine ⟨?_, bel⟩
    simp
  · obtain rfl : b = true := by rw [← hb, decide_eq_false h]; rfl
    clear hb
    have h2 : ((l : Int) == (n : Int)) = false := beq_eq_false_iff_ne.2 (by omega)
    have h3 : ((l : Int) != (n : Int)) = true := bne_iff_ne.2 (by omega)
    go_enter Tryz.func39, Tryz.ntmps39
    go_wp2_with fail
    go_ret
    refine ⟨?_, bel⟩
    simp [h, h2, h3]

set_option maxHeartbeats 4000000 in
theorem indexLen_any (w : World) (va : Value) (m k g n : Nat) (N : Nat → Nat) (F : Nat → Nat → Rat) (h : Mat k w (fun _ => False) va m N F) (hg : w.cell? ⟨g, 0, none⟩ = some (.int .i64 n)) (hm : m ≤ 1000000) (hgl : g < w.heap.size) :
    Calls Tryz.prog 69 #[va, .func (Fn.func 39) #[] #[.pointer (some ⟨g, 0, none⟩)]] w fun e w' => ∃ r : Int, e = .returned (.int .i64 r) ∧ ((0 ≤ r ∧ ¬ ∀ i, i < m → N i = n) ∨ (r < 0 ∧ ∀ i, i < m → N i = n)) ∧ Below w.heap.size w w' := by
  obtain ⟨A, c1, rfl, h, l1, l2⟩ := h.op
  have H := Lib.hid h
  clear h
  go_enter Tryz.func69, Tryz.ntmps69
  go_wp2_with fail
  go_loopw [8] (fun i wr => ∃ (c : Nat), c ≤ m ∧ i = .int .i64 c ∧ Hid (∀ i, i < c → N i = n) ∧ Below w.heap.size w wr) (fun i _ => m - (intOf i).toNat)
  case atStart => exact ⟨0, by omega, rfl, Lib.hid (fun i hi => absurd hi (by omega)), bel⟩
  case round =>
    obtain ⟨c, hc, rfl, hall, hB⟩ := hrel
    obtain ⟨wo, rfl⟩ : ∃ wo : World, wo = wr := ⟨_, rfl⟩
    have y5 := hB.size; (try simp only [World.size_alloc, size_set, size_drew, size_drewN] at y5)
    by_cases hlt : c < m
    · obtain ⟨a, D, d, rfl, hab, -, hcell, hnum, l3, l4⟩ := Mat.at (Mat.keep H.out (.of_below hB)) hlt
      go_wp2_with fail
      refine (valid1_any _ D (N c) d g n (cell_keep (X := fun _ => False) hg hgl id (.of_below hB))).mono ?_
      rintro e w2 ⟨he, hb2⟩
      have y2 := hb2.size; (try simp only [World.size_alloc, size_set, size_drew, size_drewN] at y2)
      rcases Classical.em ((fun i => N i = n) c) with hgd | hgd
      · have he2 : e = .returned (.bool false) := by rw [he, decide_eq_true (show N c = n from hgd)]; rfl
        subst he2
        have HGD := Lib.hid hgd
        clear hgd he
        go_wp2_with fail
        go_roundw
        case rel =>
          refine ⟨c + 1, by omega, by go_num, Lib.hid (fun i hi => ?_), bel⟩
          by_cases hic : i < c
          · exact hall.out i hic
          · obtain rfl : i = c := by omega
            exact HGD.out
        case measure => simp only [intOf]; omega
      · have he2 : e = .returned (.bool true) := by rw [he, decide_eq_false (show ¬ N c = n from hgd)]; rfl
        subst he2
        have HGD := Lib.hid hgd
        clear hgd he
        go_wp2_with fail
        go_ret
        exact ⟨_, rfl, .inl ⟨by omega, fun hh => HGD.out (hh c hlt)⟩, bel⟩
    · obtain rfl : c = m := by omega
      go_wp2_with fail
      go_ret
      exact ⟨_, rfl, .inr ⟨by decide, hall.out⟩, hB⟩

set_option maxHeartbeats 4000000 in
theorem containsLen_any (w : World) (va : Value) (m k g n : Nat) (N : Nat → Nat) (F : Nat → Nat → Rat) (h : Mat k w (fun _ => False) va m N F) (hg : w.cell? ⟨g, 0, none⟩ = some (.int .i64 n)) (hm : m ≤ 1000000) (hgl : g < w.heap.size) :
    Calls Tryz.prog 38 #[va, .func (Fn.func 39) #[] #[.pointer (some ⟨g, 0, none⟩)]] w fun e w' => ∃ b : Bool, e = .returned (.bool b) ∧ (b = false ↔ ∀ i, i < m → N i = n) ∧ Below w.heap.size w w' := by
  obtain ⟨A, c1, rfl, h, l1, l2⟩ := h.op
  have H := Lib.hid h
  clear h
  go_enter Tryz.func38, Tryz.ntmps38
  go_wp2_with fail
  refine (indexLen_any _ _ m k g n N F H.out hg hm hgl).mono ?_
  rintro e w1 ⟨r, rfl, hr, hb1⟩
  have y1 := hb1.size; (try simp only [World.size_alloc, size_set, size_drew, size_drewN] at y1)
  have HR := Lib.hid hr
  clear hr
  by_cases h0 : 0 ≤ r
  · go_wp2_with fail
    go_ret
    refine ⟨true, rfl, ?_, bel⟩
    rcases HR.out with ⟨_, h⟩ | ⟨h, _⟩
    · exact ⟨fun h' => (by cases h'), fun h' => absurd h' h⟩
    · omega
  · go_wp2_with fail
    go_ret
    refine ⟨false, ?_, ?_, bel⟩
    · simp
      omega
    · rcases HR.out with ⟨h, _⟩ | ⟨_, h⟩
      · omega
      · exact ⟨fun _ => h, fun _ => rfl⟩

set_option maxHeartbeats 4000000 in
theorem indexNeg_any (w : World) (va : Value) (m k : Nat) (f : Nat → Rat) (h : Nums k w (fun _ => False) va m f) (hm : m ≤ 1000000) :
    Calls Tryz.prog 98 #[va, .func (Fn.func 42) #[] #[]] w fun e w' => ∃ r : Int, e = .returned (.int .i64 r) ∧ ((0 ≤ r ∧ ¬ ∀ i, i < m → ¬ f i < 0) ∨ (r < 0 ∧ ∀ i, i < m → ¬ f i < 0)) ∧ Below w.heap.size w w' := by
  obtain ⟨A, c1, rfl, h, l1, l2⟩ := h.op
  have H := Lib.hid h
  clear h
  go_enter Tryz.func98, Tryz.ntmps98
  go_wp2_with fail
  go_loopw [8] (fun i wr => ∃ (c : Nat), c ≤ m ∧ i = .int .i64 c ∧ Hid (∀ i, i < c → ¬ f i < 0) ∧ Below w.heap.size w wr) (fun i _ => m - (intOf i).toNat)
  case atStart => exact ⟨0, by omega, rfl, Lib.hid (fun i hi => absurd hi (by omega)), bel⟩
  case round =>
    obtain ⟨c, hc, rfl, hall, hB⟩ := hrel
    obtain ⟨wo, rfl⟩ : ∃ wo : World, wo = wr := ⟨_, rfl⟩
    have y5 := hB.size; (try simp only [World.size_alloc, size_set, size_drew, size_drewN] at y5)
    by_cases hlt : c < m
    · obtain ⟨a, b3, A3, m3, c3, b3', A3', m3', c3', rfl, ha, -, x0, x1, x2, x3, r3⟩ := Nums.at (Nums.keep H.out (.of_below hB)) hlt
      replace x1 : wo.cell? ⟨(a.add (c * 4)).block, (a.add (c * 4)).off + 1, none⟩ = _ := x1
      replace x2 : wo.cell? ⟨(a.add (c * 4)).block, (a.add (c * 4)).off + 2, none⟩ = _ := x2
      replace x3 : wo.cell? ⟨(a.add (c * 4)).block, (a.add (c * 4)).off + 3, none⟩ = _ := x3
      go_wp2_with fail
      refine (negative_any _ k _ (f c) r3).mono ?_
      rintro e w2 ⟨he, hb2⟩
      have y2 := hb2.size; (try simp only [World.size_alloc, size_set, size_drew, size_drewN] at y2)
      rcases Classical.em ((fun i => ¬ f i < 0) c) with hgd | hgd
      · have he2 : e = .returned (.bool false) := by rw [he, decide_eq_false (show ¬ f c < 0 from hgd)]
        subst he2
        have HGD := Lib.hid hgd
        clear hgd he
        go_wp2_with fail
        go_roundw
        case rel =>
          refine ⟨c + 1, by omega, by go_num, Lib.hid (fun i hi => ?_), bel⟩
          by_cases hic : i < c
          · exact hall.out i hic
          · obtain rfl : i = c := by omega
            exact HGD.out
        case measure => simp only [intOf]; omega
      · have he2 : e = .returned (.bool true) := by rw [he, decide_eq_true (show f c < 0 from Classical.not_not.1 hgd)]
        subst he2
        have HGD := Lib.hid hgd
        clear hgd he
        go_wp2_with fail
        go_ret
        exact ⟨_, rfl, .inl ⟨by omega, fun hh => HGD.out (hh c hlt)⟩, bel⟩
    · obtain rfl : c = m := by omega
      go_wp2_with fail
      go_ret
      exact ⟨_, rfl, .inr ⟨by decide, hall.out⟩, hB⟩

set_option maxHeartbeats 4000000 in
theorem containsNeg_any (w : World) (va : Value) (m k : Nat) (f : Nat → Rat) (h : Nums k w (fun _ => False) va m f) (hm : m ≤ 1000000) :
    Calls Tryz.prog 70 #[va, .func (Fn.func 42) #[] #[]] w fun e w' => ∃ b : Bool, e = .returned (.bool b) ∧ (b = false ↔ ∀ i, i < m → ¬ f i < 0) ∧ Below w.heap.size w w' := by
  obtain ⟨A, c1, rfl, h, l1, l2⟩ := h.op
  have H := Lib.hid h
  clear h
  go_enter Tryz.func70, Tryz.ntmps70
  go_wp2_with fail
  refine (indexNeg_any _ _ m k f H.out hm).mono ?_
  rintro e w1 ⟨r, rfl, hr, hb1⟩
  have y1 := hb1.size; (try simp only [World.size_alloc, size_set, size_drew, size_drewN] at y1)
  have HR := Lib.hid hr
  clear hr
  by_cases h0 : 0 ≤ r
  · go_wp2_with fail
    go_ret
    refine ⟨true, rfl, ?_, bel⟩
    rcases HR.out with ⟨_, h⟩ | ⟨h, _⟩
    · exact ⟨fun h' => (by cases h'), fun h' => absurd h' h⟩
    · omega
  · go_wp2_with fail
    go_ret
    refine ⟨false, ?_, ?_, bel⟩
    · simp
      omega
    · rcases HR.out with ⟨h, _⟩ | ⟨_, h⟩
      · omega
      · exact ⟨fun _ => h, fun _ => rfl⟩
end Go.Proofs.YtpeglenapmkdfaaGreat

/- Valid. -/
namespace Go.Proofs.YtpeglenapmkdfaaGreat
open Go.RowKit
attribute [local go_sem ↓] Go.wp_at_zero Go.wp_at_succ

/-- The sizes of a system are right. -/
def VS (m mb : Nat) (N : Nat → Nat) : Prop := 1 ≤ m ∧ m ≤ 80 ∧ mb = m ∧ 1 ≤ N 0 ∧ N 0 ≤ 80 ∧ ∀ i, i < m → N i = N 0

/-- The answer is a bool that tells whether P. -/
def Tells (P : Prop) (e : Ending) : Prop := ∃ b : Bool, e = .returned (.bool b) ∧ Hid (b = true ↔ P)
theorem Tells.yes {P : Prop} (h : P) : Tells P (.returned (.bool true)) := ⟨true, rfl, fun _ => h, fun _ => rfl⟩
theorem Tells.no {P : Prop} (h : ¬ P) : Tells P (.returned (.bool false)) := ⟨false, rfl, fun h => (by cases h), fun h' => absurd h' h⟩

set_option maxHeartbeats 4000000 in
theorem valid_any (w : World) (va vb : Value) (m mb k : Nat) (N : Nat → Nat) (F : Nat → Nat → Rat) (Bv : Nat → Rat) (h : Mat k w (fun _ => False) va m N F) (hb : Nums k w (fun _ => False) vb mb Bv) :
    Calls Tryz.prog 14 #[.agg #[va, vb]] w fun e w' => Tells (VS m mb N) e ∧ Below w.heap.size w w' := by
  have H := Lib.hid h
  obtain ⟨A, c1, rfl, h, l1, l2⟩ := h.op
  obtain ⟨B, c2, rfl, hb, l3, l4⟩ := hb.op
  by_cases h1 : m < 1
  · have hv : Hid (¬ VS m mb N) := fun h => by have := h.1; omega
    clear h
    go_enter Tryz.func14, Tryz.ntmps14
    go_wp2_with fail
    go_ret
    exact ⟨Tells.no hv.out, bel⟩
  by_cases h2 : 80 < m
  · have hv : Hid (¬ VS m mb N) := fun h => by have := h.2.1; omega
    clear h
    go_enter Tryz.func14, Tryz.ntmps14
    go_wp2_with fail
    go_ret
    exact ⟨Tells.no hv.out, bel⟩
  by_cases h3 : mb ≠ m
  · have hv : Hid (¬ VS m mb N) := fun h => by have := h.2.2.1; omega
    have h4 : ((mb : Int) == (m : Int)) = false := beq_eq_false_iff_ne.2 (by omega)
    have h5 : ((mb : Int) != (m : Int)) = true := bne_iff_ne.2 (by omega)
    clear h
    go_enter Tryz.func14, Tryz.ntmps14
    go_wp2_with fail
    go_ret
    exact ⟨Tells.no hv.out, bel⟩
  obtain rfl : mb = m := Classical.not_not.1 h3
  clear h3
  obtain ⟨a, D, d, rfl, hab, -, hcell, hnum, l5, l6⟩ := Mat.at h (show 0 < mb by omega)
  have e0 : a.add 0 = a := by simp [Addr.add]
  rw [e0] at hcell
  have hc2 : (w.alloc (.cells #[.slice (some a) mb c1, .slice B mb c2] 25)).cell? a = _ := cell_keep (X := fun _ => False) hcell hab id kp
  have q0 : (0 : Int) < (mb : Int) := by omega
  obtain ⟨n, hn⟩ : ∃ n, N 0 = n := ⟨_, rfl⟩
  have HN := Lib.hid hn
  rw [hn] at hcell hnum hc2 l5
  clear hn hnum h hb
  have hVS : Hid (VS mb mb N ↔ (1 ≤ n ∧ n ≤ 80 ∧ ∀ i, i < mb → N i = n)) := by
    show _ ↔ _
    unfold VS
    rw [HN.out]
    constructor
    · rintro ⟨_, _, _, h⟩; exact h
    · intro h; exact ⟨by omega, by omega, rfl, h⟩
  by_cases h6 : n < 1
  · have hv : Hid (¬ VS mb mb N) := fun h => by have := (hVS.out.1 h).1; omega
    go_enter Tryz.func14, Tryz.ntmps14
    go_wp2_with fail
    go_ret
    exact ⟨Tells.no hv.out, bel⟩
  by_cases h7 : 80 < n
  · have hv : Hid (¬ VS mb mb N) := fun h => by have := (hVS.out.1 h).2.1; omega
    go_enter Tryz.func14, Tryz.ntmps14
    go_wp2_with fail
    go_ret
    exact ⟨Tells.no hv.out, bel⟩
  go_enter Tryz.func14, Tryz.ntmps14
  go_wp2_with fail
  have hq : ((w.alloc (.cells #[.slice (some a) mb c1, .slice B mb c2] 25)).alloc (.cells #[.int .i64 n] 3)).cell? ⟨w.heap.size + 1, 0, none⟩ = some (.int .i64 n) := Loc.c 0 (made2 w (.cells #[.slice (some a) mb c1, .slice B mb c2] 25) #[.int .i64 n] 3)
  refine (containsLen_any _ _ mb k (w.heap.size + 1) n N F (Mat.keep H.out kp) hq (by omega) (by simp only [World.size_alloc]; omega)).mono ?_
  rintro e w1 ⟨b, rfl, hbi, hb1⟩
  obtain ⟨z1, z2⟩ := sz2 hb1
  have HB : Hid (b = false ↔ ∀ i, i < mb → N i = n) := hbi
  clear hbi
  cases b
  · have HV : Hid (VS mb mb N) := hVS.out.2 ⟨by omega, by omega, HB.out.1 rfl⟩
    clear HB
    go_wp2_with fail
    go_ret
    exact ⟨Tells.yes HV.out, bel⟩
  · have HV : Hid (¬ VS mb mb N) := fun h => by have := HB.out.2 (hVS.out.1 h).2.2; cases this
    clear HB
    go_wp2_with fail
    go_ret
    exact ⟨Tells.no HV.out, bel⟩
end Go.Proofs.YtpeglenapmkdfaaGreat

