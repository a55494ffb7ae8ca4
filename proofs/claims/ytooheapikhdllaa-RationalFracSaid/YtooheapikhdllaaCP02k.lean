/- For every input the law returns true: the law's walk, and the statement out of it. -/
import Derived.Test.YtooheapikhdllaaRows
import Derived.Shelf.Bits.Mul64
import Derived.Test.YtooheapikhdllaaM7
set_option linter.unusedSimpArgs false
set_option linter.unusedVariables false

/- Small fractions: gcd, Reduce of the reference; small, FromFrac, Less of both; math/bits.Mul64. -/
namespace Go.Proofs.Ytooheapikhdllaa
open Go.RowKit
attribute [local go_sem ↓] Go.wp_at_zero Go.wp_at_succ

set_option maxHeartbeats 2000000 in
theorem mul64_any (w : World) (x y : Nat) (hx : x < 18446744073709551616) (hy : y < 18446744073709551616) :
    Calls Try.prog 89 #[.int .u64 x, .int .u64 y] w fun e w' => e = .returned (.tuple #[.int .u64 ((x * y / 18446744073709551616 : Nat) : Int), .int .u64 ((x * y % 18446744073709551616 : Nat) : Int)]) ∧ w' = w := by
  obtain ⟨bd, bt, bw, hhi⟩ := Lib.mul64_hi x y hx hy
  have ba := Lib.half_mul_le (a := x / 4294967296) (b := y / 4294967296) (by omega) (by omega)
  have bb := Lib.half_mul_le (a := x / 4294967296) (b := y % 4294967296) (by omega) (by omega)
  have bc := Lib.half_mul_le (a := x % 4294967296) (b := y / 4294967296) (by omega) (by omega)
  have ba' : x / 4294967296 * (y / 4294967296) < 18446744073709551616 := by omega
  have bb' : x / 4294967296 * (y % 4294967296) < 18446744073709551616 := by omega
  have bc' : x % 4294967296 * (y / 4294967296) < 18446744073709551616 := by omega
  have bh1 : x / 4294967296 * (y / 4294967296) + (x / 4294967296 * (y % 4294967296) + x % 4294967296 * (y % 4294967296) / 4294967296) / 4294967296 < 18446744073709551616 := by omega
  have bh : x / 4294967296 * (y / 4294967296) + (x / 4294967296 * (y % 4294967296) + x % 4294967296 * (y % 4294967296) / 4294967296) / 4294967296 + ((x / 4294967296 * (y % 4294967296) + x % 4294967296 * (y % 4294967296) / 4294967296) % 4294967296 + x % 4294967296 * (y / 4294967296)) / 4294967296 < 18446744073709551616 := by omega
  go_enter Try.func89, Try.ntmps89
  go_wp2_with fail
  simp only [Mul64.maskN x hx, Mul64.maskN y hy, Mul64.divN, Mul64.mulN, Mul64.addN, Mul64.wrapN _ bd, Mul64.wrapN _ bb', Mul64.wrapN _ bt, Mul64.maskN _ bt, Mul64.wrapN _ bc', Mul64.wrapN _ bw, Mul64.wrapN _ ba', Mul64.wrapN _ bh1, Mul64.wrapN _ bh, Mul64.wrapM (x * y)]
  rw [hhi]
  go_ret2
  exact ⟨rfl, rfl⟩

set_option maxHeartbeats 2000000 in
theorem rgcd_nat (w : World) (a b : Nat) (ha : a ≤ 9223372036854775807) (hb : b ≤ 9223372036854775807) :
    Calls Try.prog 87 #[.int .i64 (a : Nat), .int .i64 (b : Nat)] w fun e w' => e = .returned (.int .i64 (Nat.gcd a b : Nat)) ∧ ∃ n, w' = w.drewN n := by
  go_enter Try.func87, Try.ntmps87
  go_wp2_with fail
  go_loopw [0, 1] (fun p q wr => ∃ (x y n : Nat), p = .int .i64 (x : Nat) ∧ q = .int .i64 (y : Nat) ∧ Hid (Nat.gcd x y = Nat.gcd a b) ∧ x ≤ 9223372036854775807 ∧ y ≤ 9223372036854775807 ∧ wr = w.drewN n) (fun _ q _ => (intOf q).toNat)
  case atStart => exact ⟨a, b, 0, rfl, rfl, rfl, ha, hb, rfl⟩
  case round =>
    obtain ⟨x, y, n, rfl, rfl, HG, hx, hy, rfl⟩ := hrel
    by_cases h0 : y = 0
    · subst h0
      go_wp2_with fail
      go_ret
      refine ⟨?_, n, rfl⟩
      have := HG.out
      rw [Nat.gcd_zero_right] at this
      rw [← this]; rfl
    · have hpos : (0 : Int) < (y : Int) := by omega
      have hne2 : ((y : Int) == 0) = false := by rw [beq_eq_false_iff_ne]; omega
      have hlt := Nat.mod_lt x (show 0 < y by omega)
      have HG2 : Hid (Nat.gcd y (x % y) = Nat.gcd a b) := by
        show _ = _
        rw [← HG.out, Nat.gcd_comm x y, Nat.gcd_rec y x, Nat.gcd_comm]
      have HLT := Lib.hid hlt
      clear hlt
      go_wp2_with fail
      go_quiet (fail)
      go_wp2_with fail
      go_roundw
      case rel => exact ⟨y, x % y, n + nq, rfl, by go_num, HG2, hy, by have := HLT.out; omega, by rw [World.drewN_drewN]⟩
      case measure => simp only [intOf]; have := HLT.out; omega

set_option maxHeartbeats 2000000 in
theorem rreduce_bad (w : World) (n d : Int) (h : n < 0 ∨ d < 1) :
    Calls Try.prog 50 #[.int .i64 n, .int .i64 d] w fun e w' => e = .returned (.tuple #[.agg #[.int .i64 0, .int .i64 0], .int .i64 3]) ∧ Below w.heap.size w w' := by
  have L := made1 w #[.int .i64 0, .int .i64 0] 52
  obtain ⟨e1, f1, -⟩ := L.all (w' := w.alloc (.cells #[.int .i64 0, .int .i64 0] 52))
  by_cases hn : n < 0
  · clear h
    go_enter Try.func50, Try.ntmps50
    go_wp2_with fail
    refine bodyPost_ret (by simp [results, Try.results50, go_sem, e1, f1] <;> rfl) rfl ⟨rfl, bel⟩
  · have hd : d < 1 := h.resolve_left hn
    clear h
    go_enter Try.func50, Try.ntmps50
    go_wp2_with fail
    refine bodyPost_ret (by simp [results, Try.results50, go_sem, e1, f1] <;> rfl) rfl ⟨rfl, bel⟩

set_option maxHeartbeats 2000000 in
theorem rreduce_any (w : World) (a b : Nat) (hb0 : 1 ≤ b) (ha : a ≤ 9223372036854775807) (hb : b ≤ 9223372036854775807) :
    Calls Try.prog 50 #[.int .i64 (a : Nat), .int .i64 (b : Nat)] w fun e w' => e = .returned (.tuple #[.agg #[.int .i64 ((a / Nat.gcd a b : Nat) : Int), .int .i64 ((b / Nat.gcd a b : Nat) : Int)], .int .i64 0]) ∧ Below w.heap.size w w' := by
  obtain ⟨g, hg⟩ : ∃ g, Nat.gcd a b = g := ⟨_, rfl⟩
  have hg0 : 0 < g := by rw [← hg]; exact Nat.gcd_pos_of_pos_right _ hb0
  have hgb : g ≤ b := by rw [← hg]; exact Nat.gcd_le_right _ hb0
  rw [hg]
  have HG := Lib.hid hg
  clear hg
  have hq1 : (a : Int) / (g : Int) = ((a / g : Nat) : Int) := by rw [Int.natCast_ediv]
  have hq2 : (b : Int) / (g : Int) = ((b / g : Nat) : Int) := by rw [Int.natCast_ediv]
  have hd1 := Nat.div_le_self a g
  have hd2 := Nat.div_le_self b g
  generalize a / g = x at *
  generalize b / g = y at *
  have hgz : ((g : Int) == 0) = false := by rw [beq_eq_false_iff_ne]; omega
  have L := made1 w #[.int .i64 0, .int .i64 0] 52
  go_enter Try.func50, Try.ntmps50
  go_wp2_with fail
  refine (rgcd_nat _ a b ha hb).mono ?_
  rintro e w' ⟨he, n, rfl⟩
  rw [HG.out] at he
  subst he
  have hw1 : IntKind.i64.wrap ((x : Nat) : Int) = (x : Int) := by rw [IntKind.wrap_i64]; omega
  have hw2 : IntKind.i64.wrap ((y : Nat) : Int) = (y : Int) := by rw [IntKind.wrap_i64]; omega
  obtain ⟨e1, f1, -⟩ := Loc.all L (w' := ((w.alloc (.cells #[.int .i64 0, .int .i64 0] 52)).drewN n).drew)
  go_wp2_with fail
  go_region_with (fail)
  all_goals
    go_wp2_with fail
    refine bodyPost_ret (by simp [results, Try.results50, go_sem, e1, f1] <;> rfl) rfl ⟨?_, bel⟩
    rfl

/-- Is a small fraction valid? -/
def smallB (a b : Int) : Bool := decide (0 ≤ a) && decide (1 ≤ b)
set_option maxHeartbeats 2000000 in
theorem small_frac (w : World) (a b : Int) :
    Calls Try.prog 88 #[.agg #[.int .i64 a, .int .i64 b]] w fun e w' => e = .returned (.bool (smallB a b)) ∧ Below w.heap.size w w' := by
  unfold smallB
  by_cases h1 : 0 ≤ a
  · by_cases h2 : 1 ≤ b
    · rw [decide_eq_true h1, decide_eq_true h2]
      go_enter Try.func88, Try.ntmps88
      go_wp2_with fail
      go_ret
      exact ⟨rfl, bel⟩
    · rw [decide_eq_true h1, decide_eq_false h2]
      go_enter Try.func88, Try.ntmps88
      go_wp2_with fail
      go_ret
      exact ⟨rfl, bel⟩
  · rw [decide_eq_false h1]
    go_enter Try.func88, Try.ntmps88
    go_wp2_with fail
    go_ret
    exact ⟨rfl, bel⟩
end Go.Proofs.Ytooheapikhdllaa

/- FromFrac and Less of both packages. -/
namespace Go.Proofs.Ytooheapikhdllaa
open Go.RowKit
attribute [local go_sem ↓] Go.wp_at_zero Go.wp_at_succ

/-- The fraction 0 / 0 of a failed call. -/
def noRat : Value := .agg #[.bool false, .slice none 0 0, .bool false, .slice none 0 0]

set_option maxHeartbeats 2000000 in
theorem fromFrac_bad (w : World) (a b : Int) (h : smallB a b = false) :
    Calls Try.prog 51 #[.agg #[.int .i64 a, .int .i64 b]] w fun e w' => e = .returned (.tuple #[.agg #[.bool false, .slice none 0 0, .bool false, .slice none 0 0], .int .i64 3]) ∧ Below w.heap.size w w' := by
  have H := Lib.hid h
  clear h
  have L := made1 w #[.int .i64 a, .int .i64 b] 52
  have L5 := made2 w (.cells #[.int .i64 a, .int .i64 b] 52) #[.bool false, .slice none 0 0, .bool false, .slice none 0 0] 27
  go_enter Try.func51, Try.ntmps51
  go_wp2_with fail
  refine (small_frac _ a b).mono ?_
  rintro e w1 ⟨he, hb1⟩
  rw [H.out] at he
  subst he
  obtain ⟨z1, z2⟩ := sz2 hb1
  obtain ⟨e4, g4, -⟩ := L5.all (w' := w1)
  go_wp2_with fail
  have L6 := L5.to (w' := w1)
  refine bodyPost_ret (by simp [results, Try.results51, go_sem, e4, g4] <;> rfl) rfl ⟨rfl, bel⟩

set_option maxHeartbeats 2000000 in
theorem fromFrac_any (w : World) (a b : Int) (h : smallB a b = true) (ha : a ≤ 9223372036854775807) (hb : b ≤ 9223372036854775807) :
    Calls Try.prog 51 #[.agg #[.int .i64 a, .int .i64 b]] w fun e w' => ∃ v', e = .returned (.tuple #[v', .int .i64 0]) ∧ RatV w' (Old w) v' (Rat.divInt a b) ∧ Below w.heap.size w w' := by
  have H := Lib.hid h
  unfold smallB at h
  rw [Bool.and_eq_true, decide_eq_true_eq, decide_eq_true_eq] at h
  have H2 := Lib.hid h
  clear h
  have L := made1 w #[.int .i64 a, .int .i64 b] 52
  have L5 := made2 w (.cells #[.int .i64 a, .int .i64 b] 52) #[.bool false, .slice none 0 0, .bool false, .slice none 0 0] 27
  go_enter Try.func51, Try.ntmps51
  go_wp2_with fail
  refine (small_frac _ a b).mono ?_
  rintro e w1 ⟨he, hb1⟩
  rw [H.out] at he
  subst he
  obtain ⟨z1, z2⟩ := sz2 hb1
  obtain ⟨e1, g1, -⟩ := L.all (w' := w1)
  go_wp2_with fail
  refine (ratof_any _ a b (by have := H2.out; omega) (by have := H2.out; omega) ha (by have := H2.out; omega) hb).mono ?_
  rintro e w2 ⟨v2, rfl, i2, hb2⟩
  obtain ⟨b2, A2, m2, c2, b3, A3, m3, c3, rfl, i2, -, -⟩ := i2.op
  have y2 := hb2.size; (try simp only [World.size_alloc, size_set, size_drew, size_drewN] at y2)
  obtain ⟨e4, g4, -⟩ := L5.all (w' := w2)
  go_wp2_with fail
  refine bodyPost_ret (by simp [results, Try.results51, go_sem, e4, g4] <;> rfl) rfl ⟨_, rfl, i2.out, bel⟩

set_option maxHeartbeats 2000000 in
theorem rfromFrac_bad (w : World) (a b : Int) (h : smallB a b = false) :
    Calls Try.prog 52 #[.agg #[.int .i64 a, .int .i64 b]] w fun e w' => e = .returned (.tuple #[.agg #[.bool false, .slice none 0 0, .bool false, .slice none 0 0], .int .i64 3]) ∧ Below w.heap.size w w' := by
  unfold smallB at h
  have L5 := made2 w (.cells #[.int .i64 a, .int .i64 b] 52) #[.bool false, .slice none 0 0, .bool false, .slice none 0 0] 27
  by_cases h1 : a < 0
  · clear h
    go_enter Try.func52, Try.ntmps52
    obtain ⟨e4, g4, -⟩ := L5.all (w' := (w.alloc (.cells #[.int .i64 a, .int .i64 b] 52)).alloc (.cells #[.bool false, .slice none 0 0, .bool false, .slice none 0 0] 27))
    go_wp2_with fail
    refine bodyPost_ret (by simp [results, Try.results52, go_sem, e4, g4] <;> rfl) rfl ⟨rfl, bel⟩
  · have h2 : b < 1 := by
      rw [decide_eq_true (show 0 ≤ a by omega), Bool.true_and, decide_eq_false_iff_not] at h; omega
    clear h
    go_enter Try.func52, Try.ntmps52
    obtain ⟨e4, g4, -⟩ := L5.all (w' := (w.alloc (.cells #[.int .i64 a, .int .i64 b] 52)).alloc (.cells #[.bool false, .slice none 0 0, .bool false, .slice none 0 0] 27))
    go_wp2_with fail
    refine bodyPost_ret (by simp [results, Try.results52, go_sem, e4, g4] <;> rfl) rfl ⟨rfl, bel⟩

set_option maxHeartbeats 2000000 in
theorem rfromFrac_any (w : World) (a b : Int) (h : smallB a b = true) (ha : a ≤ 9223372036854775807) (hb : b ≤ 9223372036854775807) :
    Calls Try.prog 52 #[.agg #[.int .i64 a, .int .i64 b]] w fun e w' => ∃ v', e = .returned (.tuple #[v', .int .i64 0]) ∧ RatV w' (Old w) v' (Rat.divInt a b) ∧ Below w.heap.size w w' := by
  unfold smallB at h
  rw [Bool.and_eq_true, decide_eq_true_eq, decide_eq_true_eq] at h
  have H2 := Lib.hid h
  have h3 : ¬ a < 0 := by omega
  have h4 : ¬ b < 1 := by omega
  clear h
  have L5 := made2 w (.cells #[.int .i64 a, .int .i64 b] 52) #[.bool false, .slice none 0 0, .bool false, .slice none 0 0] 27
  go_enter Try.func52, Try.ntmps52
  go_wp2_with fail
  refine (rratof_any _ a b (by have := H2.out; omega) (by have := H2.out; omega) ha (by have := H2.out; omega) hb).mono ?_
  rintro e w2 ⟨v2, rfl, i2, hb2⟩
  obtain ⟨b2, A2, m2, c2, b3, A3, m3, c3, rfl, i2, -, -⟩ := i2.op
  obtain ⟨z1, z2⟩ := sz2 hb2
  obtain ⟨e4, g4, -⟩ := L5.all (w' := w2)
  go_wp2_with fail
  refine bodyPost_ret (by simp [results, Try.results52, go_sem, e4, g4] <;> rfl) rfl ⟨_, rfl, i2.out, bel⟩

/-- Is one small fraction less than another? -/
def lessB (a b c d : Int) : Bool := smallB a b && smallB c d && decide (a * d < c * b)

set_option maxHeartbeats 4000000 in
theorem less_any (w : World) (a b c d : Int) (ha : a ≤ 9223372036854775807) (hb : b ≤ 9223372036854775807) (hc : c ≤ 9223372036854775807) (hd : d ≤ 9223372036854775807) :
    Calls Try.prog 53 #[.agg #[.int .i64 a, .int .i64 b], .agg #[.int .i64 c, .int .i64 d]] w fun e w' => e = .returned (.bool (lessB a b c d)) ∧ Below w.heap.size w w' := by
  have L1 := made1 w #[.int .i64 a, .int .i64 b] 52
  have L2 := made2 w (.cells #[.int .i64 a, .int .i64 b] 52) #[.int .i64 c, .int .i64 d] 52
  obtain ⟨s1, hs1⟩ : ∃ s, smallB a b = s := ⟨_, rfl⟩
  obtain ⟨s2, hs2⟩ : ∃ s, smallB c d = s := ⟨_, rfl⟩
  have H1 := Lib.hid hs1
  have H2 := Lib.hid hs2
  obtain ⟨lb, hlb⟩ : ∃ l, lessB a b c d = l := ⟨_, rfl⟩
  rw [hlb]
  unfold lessB at hlb
  rw [hs1, hs2] at hlb
  have HL := Lib.hid hlb.symm
  clear hs1 hs2 hlb
  cases s1
  · obtain rfl : lb = false := by rw [HL.out, Bool.false_and, Bool.false_and]
    go_enter Try.func53, Try.ntmps53
    go_wp2_with fail
    refine (small_frac _ a b).mono ?_
    rintro e w1 ⟨he, hb1⟩
    rw [H1.out] at he
    subst he
    obtain ⟨z1, z2⟩ := sz2 hb1
    go_wp2_with fail
    go_ret
    exact ⟨rfl, bel⟩
  · go_enter Try.func53, Try.ntmps53
    go_wp2_with fail
    refine (small_frac _ a b).mono ?_
    rintro e w1 ⟨he, hb1⟩
    rw [H1.out] at he
    subst he
    obtain ⟨z1, z2⟩ := sz2 hb1
    obtain ⟨e2, g2, -⟩ := L2.all (w' := w1)
    go_wp2_with fail
    refine (small_frac _ c d).mono ?_
    rintro e w2 ⟨he, hb2⟩
    rw [H2.out] at he
    subst he
    have y2 := hb2.size; (try simp only [World.size_alloc, size_set, size_drew, size_drewN] at y2)
    clear e2 g2
    cases s2
    · obtain rfl : lb = false := by rw [HL.out, Bool.and_false, Bool.false_and]
      go_wp2_with fail
      go_ret
      exact ⟨rfl, bel⟩
    · have q1 := H1.out
      have q2 := H2.out
      unfold smallB at q1 q2
      rw [Bool.and_eq_true, decide_eq_true_eq, decide_eq_true_eq] at q1 q2
      obtain ⟨p, rfl⟩ : ∃ p : Nat, a = p := ⟨a.toNat, by omega⟩
      obtain ⟨q, rfl⟩ : ∃ p : Nat, b = p := ⟨b.toNat, by omega⟩
      obtain ⟨r, rfl⟩ : ∃ p : Nat, c = p := ⟨c.toNat, by omega⟩
      obtain ⟨s, rfl⟩ : ∃ p : Nat, d = p := ⟨d.toNat, by omega⟩
      have w1a : IntKind.u64.wrap (p : Int) = p := by rw [IntKind.wrap_u64]; omega
      have w2a : IntKind.u64.wrap (q : Int) = q := by rw [IntKind.wrap_u64]; omega
      have w3a : IntKind.u64.wrap (r : Int) = r := by rw [IntKind.wrap_u64]; omega
      have w4a : IntKind.u64.wrap (s : Int) = s := by rw [IntKind.wrap_u64]; omega
      obtain ⟨e1, g1, -⟩ := L1.all (w' := w2)
      obtain ⟨e2, g2, -⟩ := L2.all (w' := w2)
      have HD : Hid (lb = decide (p * s < r * q)) := by show _ = _; rw [HL.out, Bool.true_and, Bool.true_and]; congr 1; rw [← Int.natCast_mul, ← Int.natCast_mul]; exact propext Int.ofNat_lt
      obtain ⟨P, hP⟩ : ∃ P, p * s = P := ⟨_, rfl⟩
      obtain ⟨Q, hQ⟩ : ∃ Q, r * q = Q := ⟨_, rfl⟩
      obtain ⟨P1, hP1⟩ : ∃ z : Int, ((P / 18446744073709551616 : Nat) : Int) = z := ⟨_, rfl⟩
      obtain ⟨P2, hP2⟩ : ∃ z : Int, ((P % 18446744073709551616 : Nat) : Int) = z := ⟨_, rfl⟩
      obtain ⟨Q1, hQ1⟩ : ∃ z : Int, ((Q / 18446744073709551616 : Nat) : Int) = z := ⟨_, rfl⟩
      obtain ⟨Q2, hQ2⟩ : ∃ z : Int, ((Q % 18446744073709551616 : Nat) : Int) = z := ⟨_, rfl⟩
      have HC : Hid (lb = decide (P1 < Q1 ∨ P1 = Q1 ∧ P2 < Q2)) := by
        show _ = _
        rw [HD.out, hP, hQ]
        congr 1
        apply propext
        omega
      have HP := Lib.hid hP
      have HQ := Lib.hid hQ
      have HP1 := Lib.hid hP1
      have HP2 := Lib.hid hP2
      have HQ1 := Lib.hid hQ1
      have HQ2 := Lib.hid hQ2
      clear HL q1 q2 HD hP hQ hP1 hP2 hQ1 hQ2
      go_wp2_with fail
      refine (mul64_any _ p s (by omega) (by omega)).mono ?_
      rintro e w3 ⟨he, rfl⟩
      rw [HP.out, HP1.out, HP2.out] at he
      subst he
      go_wp2_with fail
      refine (mul64_any _ r q (by omega) (by omega)).mono ?_
      rintro e w4 ⟨he, rfl⟩
      rw [HQ.out, HQ1.out, HQ2.out] at he
      subst he
      by_cases c1 : P1 < Q1
      · obtain rfl : lb = true := by rw [HC.out]; exact decide_eq_true (Or.inl c1)
        go_wp2_with fail
        go_ret
        exact ⟨rfl, bel⟩
      · by_cases c2 : P1 = Q1
        · subst c2
          by_cases c4 : P2 < Q2
          · obtain rfl : lb = true := by rw [HC.out]; exact decide_eq_true (Or.inr ⟨rfl, c4⟩)
            go_wp2_with fail
            go_ret
            exact ⟨rfl, bel⟩
          · obtain rfl : lb = false := by rw [HC.out]; exact decide_eq_false (by omega)
            go_wp2_with fail
            go_ret
            refine ⟨?_, bel⟩
            simp [c4]
        · obtain rfl : lb = false := by rw [HC.out]; exact decide_eq_false (by omega)
          go_wp2_with fail
          go_ret
          refine ⟨?_, bel⟩
          simp [c2]
          omega

theorem less_divInt {a b c d : Int} (h1 : smallB a b = true) (h2 : smallB c d = true) : (Rat.divInt a b < Rat.divInt c d) = (a * d < c * b) := by
  unfold smallB at h1 h2
  rw [Bool.and_eq_true, decide_eq_true_eq, decide_eq_true_eq] at h1 h2
  have hb : (0 : Rat) < (b : Rat) := by have := Rat.intCast_lt_intCast.2 (show (0 : Int) < b by omega); exact this
  have hd : (0 : Rat) < (d : Rat) := by have := Rat.intCast_lt_intCast.2 (show (0 : Int) < d by omega); exact this
  have e1 : (b : Rat) * (d : Rat) * Rat.divInt a b = ((a * d : Int) : Rat) := by rw [Rat.divInt_eq_div, Rat.intCast_mul]; grind
  have e2 : (b : Rat) * (d : Rat) * Rat.divInt c d = ((c * b : Int) : Rat) := by rw [Rat.divInt_eq_div, Rat.intCast_mul]; grind
  apply propext
  rw [← Rat.mul_lt_mul_left (Rat.mul_pos hb hd), e1, e2, Rat.intCast_lt_intCast]

theorem rcmp_lt (x y : Rat) : rcmp x y < 0 ↔ x < y := by
  have h := rcmp_le y x
  rw [rcmp_neg] at h
  rw [← Rat.not_le, ← h]; omega

set_option maxHeartbeats 4000000 in
theorem rless_any (w : World) (a b c d : Int) (ha : a ≤ 9223372036854775807) (hb : b ≤ 9223372036854775807) (hc : c ≤ 9223372036854775807) (hd : d ≤ 9223372036854775807) :
    Calls Try.prog 54 #[.agg #[.int .i64 a, .int .i64 b], .agg #[.int .i64 c, .int .i64 d]] w fun e w' => e = .returned (.bool (lessB a b c d)) ∧ Below w.heap.size w w' := by
  have L1 := made1 w #[.int .i64 a, .int .i64 b] 52
  have L2 := made2 w (.cells #[.int .i64 a, .int .i64 b] 52) #[.int .i64 c, .int .i64 d] 52
  obtain ⟨s1, hs1⟩ : ∃ s, smallB a b = s := ⟨_, rfl⟩
  obtain ⟨s2, hs2⟩ : ∃ s, smallB c d = s := ⟨_, rfl⟩
  have H1 := Lib.hid hs1
  have H2 := Lib.hid hs2
  obtain ⟨lb, hlb⟩ : ∃ l, lessB a b c d = l := ⟨_, rfl⟩
  rw [hlb]
  unfold lessB at hlb
  rw [hs1, hs2] at hlb
  have HL := Lib.hid hlb.symm
  clear hs1 hs2 hlb
  cases s1
  · obtain rfl : lb = false := by rw [HL.out, Bool.false_and, Bool.false_and]
    go_enter Try.func54, Try.ntmps54
    go_wp2_with fail
    refine (rfromFrac_bad _ a b H1.out).mono ?_
    rintro e w1 ⟨rfl, hb1⟩
    obtain ⟨z1, z2⟩ := sz2 hb1
    obtain ⟨e2, g2, -⟩ := L2.all (w' := w1)
    have M1 := made1 w1 #[.bool false, .slice none 0 0, .bool false, .slice none 0 0] 27
    go_wp2_with fail
    cases s2
    · refine (rfromFrac_bad _ c d H2.out).mono ?_
      rintro e w2 ⟨rfl, hb2⟩
      have y2 := hb2.size; (try simp only [World.size_alloc, size_set, size_drew, size_drewN] at y2)
      clear e2 g2
      go_wp2_with fail
      go_ret
      exact ⟨rfl, bel⟩
    · refine (rfromFrac_any _ c d H2.out hc hd).mono ?_
      rintro e w2 ⟨v2, rfl, i2, hb2⟩
      obtain ⟨b2, A2, m2, c2, b2', A2', m2', c2', rfl, i2, -, -⟩ := i2.op
      have y2 := hb2.size; (try simp only [World.size_alloc, size_set, size_drew, size_drewN] at y2)
      clear e2 g2
      go_wp2_with fail
      go_ret
      exact ⟨rfl, bel⟩
  · have q1 := H1.out
    unfold smallB at q1
    rw [Bool.and_eq_true, decide_eq_true_eq, decide_eq_true_eq] at q1
    go_enter Try.func54, Try.ntmps54
    go_wp2_with fail
    refine (rfromFrac_any _ a b H1.out ha hb).mono ?_
    rintro e w1 ⟨v1, rfl, i1, hb1⟩
    obtain ⟨b1, A1, m1, c1, b1', A1', m1', c1', rfl, i1, -, -⟩ := i1.op
    obtain ⟨z1, z2⟩ := sz2 hb1
    obtain ⟨e2, g2, -⟩ := L2.all (w' := w1)
    have M1 := made1 w1 #[.bool b1, .slice A1 m1 c1, .bool b1', .slice A1' m1' c1'] 27
    have HQ1 : Hid (Rsz 2 (Rat.divInt a b)) := divInt_Rsz (by omega) (dig_i64 a (by omega) ha) (dig_i64 b (by omega) hb)
    clear q1
    go_wp2_with fail
    cases s2
    · obtain rfl : lb = false := by rw [HL.out, Bool.and_false, Bool.false_and]
      refine (rfromFrac_bad _ c d H2.out).mono ?_
      rintro e w2 ⟨rfl, hb2⟩
      have y2 := hb2.size; (try simp only [World.size_alloc, size_set, size_drew, size_drewN] at y2)
      clear e2 g2
      go_wp2_with fail
      go_ret
      exact ⟨rfl, bel⟩
    · have q2 := H2.out
      unfold smallB at q2
      rw [Bool.and_eq_true, decide_eq_true_eq, decide_eq_true_eq] at q2
      have HQ2 : Hid (Rsz 2 (Rat.divInt c d)) := divInt_Rsz (by omega) (dig_i64 c (by omega) hc) (dig_i64 d (by omega) hd)
      clear q2
      refine (rfromFrac_any _ c d H2.out hc hd).mono ?_
      rintro e w2 ⟨v2, rfl, i2, hb2⟩
      obtain ⟨b2, A2, m2, c2, b2', A2', m2', c2', rfl, i2, -, -⟩ := i2.op
      have y2 := hb2.size; (try simp only [World.size_alloc, size_set, size_drew, size_drewN] at y2)
      clear e2 g2
      obtain ⟨e1, g1, -⟩ := M1.all (w' := w2.alloc (.cells #[.bool b2, .slice A2 m2 c2, .bool b2', .slice A2' m2' c2'] 27))
      have HLT : Hid (lb = decide (Rat.divInt a b < Rat.divInt c d)) := by
        show _ = _
        rw [HL.out, Bool.true_and, Bool.true_and]
        exact decide_eq_decide.2 (by rw [less_divInt H1.out H2.out])
      go_wp2_with fail
      refine (rcompare_rat _ (fun _ => False) _ _ (Rat.divInt a b) (Rat.divInt c d) (RatL.to ((i1.len HQ1.out).mono (by omega))) (RatL.to ((i2.len HQ2.out).mono (by omega)))).mono ?_
      rintro e w3 ⟨rfl, hb3⟩
      have hq := rcmp_lt (Rat.divInt a b) (Rat.divInt c d)
      generalize rcmp (Rat.divInt a b) (Rat.divInt c d) = q at *
      have y3 := hb3.size; (try simp only [World.size_alloc, size_set, size_drew, size_drewN] at y3)
      by_cases h : q < 0
      · obtain rfl : lb = true := by rw [HLT.out]; exact decide_eq_true (hq.1 h)
        clear hq
        go_wp2_with fail
        go_ret
        exact ⟨rfl, bel⟩
      · obtain rfl : lb = false := by rw [HLT.out]; exact decide_eq_false (fun h2 => h (hq.2 h2))
        clear hq
        go_wp2_with fail
        go_ret
        refine ⟨?_, bel⟩
        simp
        omega
end Go.Proofs.Ytooheapikhdllaa

/- Arguments opened: a small fraction. -/
namespace Go.Proofs.Ytooheapikhdllaa
open Go.ChangeShapes Go.WideShapes Go.ChangeAt Go.RowKit Go.Joins

theorem cellsFrac : Try.prog.cellsOf 52 = 2 := by kernel_rfl
theorem open_Frac {H : Type} {enc : TypeId × Value → H} {W : World} {base : Nat} {r : Reach} {b0 : Nat} {v : Value} {d : DataW H} {p : List MemPlace}
    (hv : Value.okWide Try.prog W r b0 52 v) (h : DataW.Trod enc Try.prog W base (fun _ => true) true 52 v d p) :
    ∃ x y : Int, v = .agg #[.int .i64 x, .int .i64 y] ∧ x ≤ 9223372036854775807 ∧ y ≤ 9223372036854775807 := by
  obtain ⟨c0, c1, y0, y1, m, rfl, _, _, h0, h1⟩ := open_agg2 Try.underlying52 (by kernel_rfl) cellsFrac hv h
  obtain ⟨x, e, _, hx⟩ := DataW.trod_int Try.underlying3 h0
  simp at e
  subst e
  obtain ⟨y, e, _, hy⟩ := DataW.trod_int Try.underlying3 h1
  simp at e
  subst e
  exact ⟨x, y, rfl, (bounds_i64 hx).2, (bounds_i64 hy).2⟩
end Go.Proofs.Ytooheapikhdllaa

/- RationalFrac: the law's walk. -/
namespace Go.Proofs.Ytooheapikhdllaa
open Go.RowKit
attribute [local go_sem ↓] Go.wp_at_zero Go.wp_at_succ
attribute [local go_sem] beq_self_eq_true bne_self_eq_false

theorem reduce_all (n d : Int) (hn : n ≤ 9223372036854775807) (hd : d ≤ 9223372036854775807) : ∃ p q k : Int, p ≤ 9223372036854775807 ∧ q ≤ 9223372036854775807 ∧
    (∀ w, Calls Try.prog 49 #[.int .i64 n, .int .i64 d] w fun e w' => e = .returned (.tuple #[.agg #[.int .i64 p, .int .i64 q], .int .i64 k]) ∧ Below w.heap.size w w') ∧
    (∀ w, Calls Try.prog 50 #[.int .i64 n, .int .i64 d] w fun e w' => e = .returned (.tuple #[.agg #[.int .i64 p, .int .i64 q], .int .i64 k]) ∧ Below w.heap.size w w') := by
  by_cases h : n < 0 ∨ d < 1
  · exact ⟨0, 0, 3, by omega, by omega, fun w => reduce_bad w n d h, fun w => rreduce_bad w n d h⟩
  · obtain ⟨a, rfl⟩ : ∃ a : Nat, n = a := ⟨n.toNat, by omega⟩
    obtain ⟨b, rfl⟩ : ∃ a : Nat, d = a := ⟨d.toNat, by omega⟩
    have h1 := Nat.div_le_self a (Nat.gcd a b)
    have h2 := Nat.div_le_self b (Nat.gcd a b)
    exact ⟨_, _, 0, by omega, by omega, fun w => reduce_any w a b (by omega) (by omega) (by omega), fun w => rreduce_any w a b (by omega) (by omega) (by omega)⟩

theorem noRatR (w : World) (X : Nat → Prop) : RatR w X (.agg #[.bool false, .slice none 0 0, .bool false, .slice none 0 0]) false [] false [] :=
  ⟨none, 0, none, 0, rfl, ⟨_, rfl, Words.nil _ _⟩, ⟨_, rfl, Words.nil _ _⟩⟩

theorem fromFrac_all (a b : Int) (ha : a ≤ 9223372036854775807) (hb : b ≤ 9223372036854775807) : ∃ (n1 : Bool) (xs : List Nat) (n2 : Bool) (ys : List Nat) (k : Int),
    (∀ w, Calls Try.prog 51 #[.agg #[.int .i64 a, .int .i64 b]] w fun e w' => ∃ v', e = .returned (.tuple #[v', .int .i64 k]) ∧ RatR w' (Old w) v' n1 xs n2 ys ∧ Below w.heap.size w w') ∧
    (∀ w, Calls Try.prog 52 #[.agg #[.int .i64 a, .int .i64 b]] w fun e w' => ∃ v', e = .returned (.tuple #[v', .int .i64 k]) ∧ RatR w' (Old w) v' n1 xs n2 ys ∧ Below w.heap.size w w') := by
  cases h : smallB a b
  · exact ⟨false, [], false, [], 3, fun w => (fromFrac_bad w a b h).mono fun e w' hh => ⟨_, hh.1, noRatR _ _, hh.2⟩, fun w => (rfromFrac_bad w a b h).mono fun e w' hh => ⟨_, hh.1, noRatR _ _, hh.2⟩⟩
  · exact ⟨_, _, _, _, 0, fun w => fromFrac_any w a b h ha hb, fun w => rfromFrac_any w a b h ha hb⟩

theorem rsame_self (w : World) (X : Nat → Prop) (v1 v2 : Value) (n1 n2 : Bool) (xs ys : List Nat) (h1 : RatR w X v1 n1 xs n2 ys) (h2 : RatR w X v2 n1 xs n2 ys) :
    Calls Try.prog 17 #[v1, v2] w fun e w' => e = .returned (.bool true) ∧ Below w.heap.size w w' :=
  (rsame_any w X v1 v2 _ _ _ _ _ _ _ _ h1 h2).mono fun e w' h => by
    rw [show (sameR n1 xs n1 xs && sameR n2 ys n2 ys) = true by unfold sameR; simp] at h
    exact h

theorem lessB_self (a b : Int) : lessB a b a b = false := by unfold lessB; rw [decide_eq_false (show ¬ a * b < a * b by omega), Bool.and_false]

set_option maxHeartbeats 8000000 in
theorem frac_walk (w : World) (n d x y : Int) (hn : n ≤ 9223372036854775807) (hd : d ≤ 9223372036854775807) (hx : x ≤ 9223372036854775807) (hy : y ≤ 9223372036854775807) :
    Calls Try.prog 13 #[.int .i64 n, .int .i64 d, .agg #[.int .i64 x, .int .i64 y]] w fun e w' => e = .returned (.bool true) ∧ Below w.heap.size w w' := by
  obtain ⟨p, q, k, hp, hq, R1, R2⟩ := reduce_all n d hn hd
  obtain ⟨n1, xs, n2, ys, k2, F1, F2⟩ := fromFrac_all x y hx hy
  have HR1 := Lib.hid R1
  have HR2 := Lib.hid R2
  have HF1 := Lib.hid F1
  have HF2 := Lib.hid F2
  clear R1 R2 F1 F2
  have L5 := made1 w #[.int .i64 x, .int .i64 y] 52
  obtain ⟨lrf, hlrf⟩ : ∃ l, lessB p q x y = l := ⟨_, rfl⟩
  obtain ⟨lfr, hlfr⟩ : ∃ l, lessB x y n d = l := ⟨_, rfl⟩
  have H1 := Lib.hid hlrf
  have H2 := Lib.hid hlfr
  clear hlrf hlfr
  go_enter Try.func13, Try.ntmps13
  go_wp2_with fail
  refine (rknown_any _).mono ?_
  rintro e w1 ⟨rfl, hb1⟩
  have z1 := sz1 hb1
  go_wp2_with fail
  refine (HR1.out _).mono ?_
  rintro e w2 ⟨rfl, hb2⟩
  have y2 := hb2.size; (try simp only [World.size_alloc, size_set, size_drew, size_drewN] at y2)
  have M7 := made1 w2 #[.int .i64 p, .int .i64 q] 52
  go_wp2_with fail
  refine (HR2.out _).mono ?_
  rintro e w3 ⟨rfl, hb3⟩
  have y3 := hb3.size; (try simp only [World.size_alloc, size_set, size_drew, size_drewN] at y3)
  have M9 := made1 w3 #[.int .i64 p, .int .i64 q] 52
  obtain ⟨e5, f5, -⟩ := L5.all (w' := w3.alloc (.cells #[.int .i64 p, .int .i64 q] 52))
  go_wp2_with fail
  refine (HF1.out _).mono ?_
  rintro e w4 ⟨v4, rfl, i4, hb4⟩
  have j4 := i4
  obtain ⟨A4, c4, B4, d4, rfl, -, -⟩ := j4
  have y4 := hb4.size; (try simp only [World.size_alloc, size_set, size_drew, size_drewN] at y4)
  clear e5 f5
  have M11 := made1 w4 #[.bool n1, .slice A4 xs.length c4, .bool n2, .slice B4 ys.length d4] 27
  obtain ⟨e5, f5, -⟩ := L5.all (w' := w4.alloc (.cells #[.bool n1, .slice A4 xs.length c4, .bool n2, .slice B4 ys.length d4] 27))
  go_wp2_with fail
  refine (HF2.out _).mono ?_
  rintro e w5 ⟨v5, rfl, i5, hb5⟩
  have j5 := i5
  obtain ⟨A5, c5, B5, d5, rfl, -, -⟩ := j5
  have y5 := hb5.size; (try simp only [World.size_alloc, size_set, size_drew, size_drewN] at y5)
  clear e5 f5
  have M13 := made1 w5 #[.bool n1, .slice A5 xs.length c5, .bool n2, .slice B5 ys.length d5] 27
  obtain ⟨e7, f7, -⟩ := M7.all (w' := w5.alloc (.cells #[.bool n1, .slice A5 xs.length c5, .bool n2, .slice B5 ys.length d5] 27))
  obtain ⟨e9, f9, -⟩ := M9.all (w' := w5.alloc (.cells #[.bool n1, .slice A5 xs.length c5, .bool n2, .slice B5 ys.length d5] 27))
  obtain ⟨e11, f11, -⟩ := M11.all (w' := w5.alloc (.cells #[.bool n1, .slice A5 xs.length c5, .bool n2, .slice B5 ys.length d5] 27))
  go_wp2_with fail
  refine (rsame_self _ (fun _ => False) _ _ n1 n2 xs ys (RatR.to i4) (RatR.to i5)).mono ?_
  rintro e w6 ⟨rfl, hb6⟩
  have y6 := hb6.size; (try simp only [World.size_alloc, size_set, size_drew, size_drewN] at y6)
  clear e7 f7 e9 f9 e11 f11
  have M15 := made1 w6 #[.int .i64 n, .int .i64 d] 52
  have hq5 := Loc.lt L5
  go_wp2_with fail
  go_region_held3 (fun W => (W.cell? ⟨w.heap.size, 0, none⟩ = some (.int .i64 x) ∧ W.cell? ⟨w.heap.size, 1, none⟩ = some (.int .i64 y)) ∧ (W.cell? ⟨w2.heap.size, 0, none⟩ = some (.int .i64 p) ∧ W.cell? ⟨w2.heap.size, 1, none⟩ = some (.int .i64 q)) ∧ (W.cell? ⟨w6.heap.size, 0, none⟩ = some (.int .i64 n) ∧ W.cell? ⟨w6.heap.size, 1, none⟩ = some (.int .i64 d)))
    (exact ⟨⟨Loc.c 0 L5, Loc.c 1 L5⟩, ⟨Loc.c 0 M7, Loc.c 1 M7⟩, Loc.c 0 M15, Loc.c 1 M15⟩)
    (first
      | (go_at_call_of 53 (#[Value.agg #[Value.int .i64 p, Value.int .i64 q], Value.agg #[Value.int .i64 x, Value.int .i64 y]]); refine (less_any _ p q x y hp hq hx hy).mono ?_; rintro e u1 ⟨he, hb10⟩; rw [H1.out] at he; subst he; have y10 := hb10.size; (try simp only [World.size_alloc, size_set, size_drew, size_drewN] at y10))
      | (go_at_call_of 54 (#[Value.agg #[Value.int .i64 p, Value.int .i64 q], Value.agg #[Value.int .i64 x, Value.int .i64 y]]); refine (rless_any _ p q x y hp hq hx hy).mono ?_; rintro e u2 ⟨he, hb11⟩; rw [H1.out] at he; subst he; have y11 := hb11.size; (try simp only [World.size_alloc, size_set, size_drew, size_drewN] at y11))
      | (go_at_call_of 53 (#[Value.agg #[Value.int .i64 x, Value.int .i64 y], Value.agg #[Value.int .i64 n, Value.int .i64 d]]); refine (less_any _ x y n d hx hy hn hd).mono ?_; rintro e u3 ⟨he, hb12⟩; rw [H2.out] at he; subst he; have y12 := hb12.size; (try simp only [World.size_alloc, size_set, size_drew, size_drewN] at y12))
      | (go_at_call_of 54 (#[Value.agg #[Value.int .i64 x, Value.int .i64 y], Value.agg #[Value.int .i64 n, Value.int .i64 d]]); refine (rless_any _ x y n d hx hy hn hd).mono ?_; rintro e u4 ⟨he, hb13⟩; rw [H2.out] at he; subst he; have y13 := hb13.size; (try simp only [World.size_alloc, size_set, size_drew, size_drewN] at y13))
      | (go_at_call_of 53 (#[Value.agg #[Value.int .i64 x, Value.int .i64 y], Value.agg #[Value.int .i64 x, Value.int .i64 y]]); refine (less_any _ x y x y hx hy hx hy).mono ?_; rintro e u5 ⟨he, hb14⟩; rw [lessB_self] at he; subst he; have y14 := hb14.size; (try simp only [World.size_alloc, size_set, size_drew, size_drewN] at y14)))
  all_goals
    go_wp2_with fail
    go_ret
    exact ⟨rfl, bel⟩
end Go.Proofs.Ytooheapikhdllaa

/- The statement 'RationalFrac' out of its walk. The frame is the guide's own (proof-skeleton), printed by lawgen.py. -/
namespace Go.Proofs.Ytooheapikhdllaa.rationalFrac
open Go.ChangeShapes Go.WideShapes Go.ChangeAt Go.RowKit Go.Proofs.Ytooheapikhdllaa
open Go.ChangeMaps (open_string shut_string)
set_option linter.unusedVariables false

set_option maxRecDepth 100000 in
theorem lifted (os : Os) (started : os.Started) (H : Type) (enc : TypeId × Value → H) :
    ReturnsInHanded {} Try.checked os 13 .any (Rows.rationalFracSpec.pre6 enc Try.prog Try.f13 Rows.rationalFracRow.domain false) (Rows.rationalFracSpec.post enc Try.prog Try.f13 false true false false) := by
  refine returnsInHanded_of_change (C := Try.checked) own started (by kernel_rfl) Try.func13
    (ChangeSpec.witness6 (enc := enc) (C := Try.checked) false ⟨#[], #[.int .i64 0, .int .i64 0, .agg #[.int .i64 0, .int .i64 0]], []⟩ 8 (by kernel_rfl) (by kernel_rfl) (by kernel_rfl) (by kernel_rfl)) ?_
  intro W base args ds gs before hval0 hW hcnd _
  have hval : ∀ (j : Nat) t v, Try.f13.params[j]? = some t → args[j]? = some v → Value.okWide Try.prog W .any base t v := hval0
  have hW' := hW
  obtain ⟨p, q, hA0, hV, rfl, hfz, hnd⟩ := hW
  have hA : DataW.TrodAll enc Try.prog W 0 (fun _ => true) true Try.f13.params.toList args.toList ds p := hA0
  rw [Try.params13] at hA hval
  obtain ⟨v0, vs0, d0, ds0, p0, q0, hargs, rfl, rfl, h0, r0⟩ := trodAll_cons hA
  obtain ⟨v1, vs1, d1, ds1, p1, q1, rfl, rfl, rfl, h1, r1⟩ := trodAll_cons r0
  obtain ⟨v2, vs2, d2, ds2, p2, q2, rfl, rfl, rfl, h2, r2⟩ := trodAll_cons r1
  obtain ⟨rfl, rfl, rfl⟩ := trodAll_nil r2
  obtain rfl : args = #[v0, v1, v2] := by cases args; simp_all
  obtain ⟨rfl, rfl⟩ := trodVars_none hV
  have lt0 : ∀ x ∈ p0, x.block < W.heap.size := by obtain ⟨m, hm⟩ := h0; exact DataW.trod_lt m _ _ _ hm
  have k0 := fun (W' : World) (bel : Below W.heap.size W W') => Below.trod laidOut (by kernel_rfl) (of_decide_eq_true (by kernel_rfl)) h0 bel lt0
  obtain ⟨a0, e0, _, _, w0⟩ := open_int Try.underlying3 (hval 0 3 v0 rfl rfl) h0
  have b0 := bounds_i64 w0
  have lt1 : ∀ x ∈ p1, x.block < W.heap.size := by obtain ⟨m, hm⟩ := h1; exact DataW.trod_lt m _ _ _ hm
  have k1 := fun (W' : World) (bel : Below W.heap.size W W') => Below.trod laidOut (by kernel_rfl) (of_decide_eq_true (by kernel_rfl)) h1 bel lt1
  obtain ⟨a1, e1, _, _, w1⟩ := open_int Try.underlying3 (hval 1 3 v1 rfl rfl) h1
  have b1 := bounds_i64 w1
  have lt2 : ∀ x ∈ p2, x.block < W.heap.size := by obtain ⟨m, hm⟩ := h2; exact DataW.trod_lt m _ _ _ hm
  have k2 := fun (W' : World) (bel : Below W.heap.size W W') => Below.trod laidOut (by kernel_rfl) (of_decide_eq_true (by kernel_rfl)) h2 bel lt2
  obtain ⟨x2, y2, e2, bx2, by2⟩ := open_Frac (hval 2 52 v2 rfl rfl) h2
  subst e0
  subst e1
  subst e2
  refine (frac_walk W a0 a1 x2 y2 b0.2 b1.2 bx2 by2).mono fun e W' ⟨he, bel⟩ => ?_
  subst he
  exact ⟨_, rfl, _, _, _, [], _, [], hW', trodAll_mk1 (shut_bool Try.underlying4 _), (trodAll_cons_mk (k0 _ bel) (trodAll_cons_mk (k1 _ bel) (trodAll_cons_mk (k2 _ bel) trodAll_mk0))), rfl, bel.frame _, fun h => by cases h⟩

theorem over : Rows.rationalFracRow.holds Try.pinned (OpenSpec.ofChange Rows.rationalFracSpec) :=
  OpenClaim.holds_of_wide 13 Try.f13 rfl rfl rfl rfl rfl rfl rfl ⟨rfl, rfl, rfl, rfl, rfl⟩ rfl rfl rfl rfl rfl (by kernel_rfl) Try.func13 (by kernel_rfl)
    (of_decide_eq_true (by kernel_rfl)) (by unfold Func.isWrapper; first | (rw [if_pos (by decide +kernel)]; kernel_rfl) | (rw [if_neg (by decide +kernel)]; exact ⟨rfl, rfl⟩))
    (fun os started H enc _ => lifted os started H enc)

/-- The statement: for every input the law returns true; each argument reads behind the call as it read before. -/
theorem proved : Rows.RationalFracSaid := over
end Go.Proofs.Ytooheapikhdllaa.rationalFrac

