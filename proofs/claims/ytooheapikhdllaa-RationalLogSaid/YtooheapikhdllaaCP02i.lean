/- For every input the law returns true: the law's walk, and the statement out of it. -/
import Derived.Test.YtooheapikhdllaaRows
import Derived.Test.YtooheapikhdllaaM7
set_option linter.unusedSimpArgs false
set_option linter.unusedVariables false

/- The reference's powers of two and logarithms. -/
namespace Go.Proofs.Ytooheapikhdllaa
open Go.RowKit
attribute [local go_sem ↓] Go.wp_at_zero Go.wp_at_succ

/-- 2 to the power of j; of -j. -/
def pUp (j : Nat) : Rat := Rat.divInt ((2 ^ j : Nat) : Int) 1
def pDn (j : Nat) : Rat := Rat.divInt 1 ((2 ^ j : Nat) : Int)
def pow2 (k : Int) : Rat := if 0 ≤ k then pUp k.toNat else pDn (-k).toNat
theorem pUp_succ (j : Nat) : pUp j * Rat.divInt 2 1 = pUp (j + 1) := by
  unfold pUp
  rw [Rat.divInt_mul_divInt, Nat.pow_succ]; rfl
theorem pDn_succ (j : Nat) : pDn j * Rat.divInt 1 2 = pDn (j + 1) := by
  unfold pDn
  rw [Rat.divInt_mul_divInt, Nat.pow_succ]; rfl
theorem pow2_len (j : Nat) : (dig ((2 ^ j : Nat) : Int).natAbs).length ≤ j + 1 := by
  rw [Int.natAbs_natCast]
  refine dig_len_le (Nat.lt_of_le_of_lt (Nat.pow_le_pow_left (by decide : 2 ≤ 4294967296) j) (Nat.pow_lt_pow_right (by decide) (by omega)))
theorem one_len : (dig (1 : Int).natAbs).length ≤ 2 := dig_i64 1 (by decide) (by decide)
theorem pUp_Rsz (j : Nat) : Rsz (j + 2) (pUp j) := divInt_Rsz (by omega) (Nat.le_trans (pow2_len j) (by omega)) (Nat.le_trans one_len (by omega))
theorem pDn_Rsz (j : Nat) : Rsz (j + 2) (pDn j) := divInt_Rsz (by omega) (Nat.le_trans one_len (by omega)) (Nat.le_trans (pow2_len j) (by omega))
theorem pow2_Rsz (k : Int) (N : Nat) (h : k.natAbs ≤ N) : Rsz (N + 2) (pow2 k) := by
  unfold pow2
  split
  · exact (pUp_Rsz _).mono (by omega)
  · exact (pDn_Rsz _).mono (by omega)
theorem two_Rsz : Rsz 2 (Rat.divInt 2 1) := divInt_Rsz (by omega) (dig_i64 2 (by decide) (by decide)) one_len
theorem half_Rsz : Rsz 2 (Rat.divInt 1 2) := divInt_Rsz (by omega) one_len (dig_i64 2 (by decide) (by decide))

theorem rcmp_pUp (j : Nat) (x : Rat) : rcmp (pUp j) x = -scl x (j : Int) := by
  have e : pUp j = (((2 ^ j : Nat) : Int) : Rat) := by unfold pUp; exact Rat.num_divInt_den (((2 ^ j : Nat) : Int) : Rat)
  have h := rat_cmp (pUp j) x
  unfold rcmp scl
  rw [← h, if_pos (by omega), e, Rat.num_intCast, Rat.den_intCast, ← Int.sign_neg]
  congr 1
  have : ((j : Int)).toNat = j := rfl
  rw [this, Int.mul_comm (x.den : Int)]
  omega
theorem rcmp_pDn (j : Nat) (hj : 0 < j) (x : Rat) : rcmp (pDn j) x = -scl x (-(j : Int)) := by
  have h2 : (0 : Int) < ((2 ^ j : Nat) : Int) := Int.natCast_pos.2 (Nat.pow_pos (by decide))
  have e : pDn j - x = Rat.divInt (1 * (x.den : Int) - x.num * ((2 ^ j : Nat) : Int)) (((2 ^ j : Nat) : Int) * (x.den : Int)) := by
    unfold pDn
    conv => lhs; rw [← Rat.num_divInt_den x]
    rw [Rat.divInt_sub_divInt _ _ (by omega) (rat_den0 x)]
  unfold rcmp scl
  rw [e, divInt_sign _ _ (Int.mul_pos h2 (by have := x.den_nz; omega)), if_neg (by omega), ← Int.sign_neg]
  congr 1
  have : (-(-(j : Int))).toNat = j := by omega
  rw [this]
  omega
theorem rcmp_pow2 (k : Int) (x : Rat) : rcmp (pow2 k) x = -scl x k := by
  unfold pow2
  by_cases h : 0 ≤ k
  · rw [if_pos h, rcmp_pUp, Int.toNat_of_nonneg h]
  · rw [if_neg h, rcmp_pDn _ (by omega), Int.toNat_of_nonneg (by omega), Int.neg_neg]

set_option maxHeartbeats 4000000 in
theorem rpower_any (w : World) (k : Int) (h0 : -100000 ≤ k) (h1 : k ≤ 100000) :
    Calls Try.prog 79 #[.int .i64 k] w fun e w' => ∃ v', e = .returned v' ∧ RatV w' (Old w) v' (pow2 k) ∧ Below w.heap.size w w' := by
  have L := made1 w #[.bool false, .slice none 0 0, .bool false, .slice none 0 0] 27
  go_enter Try.func79, Try.ntmps79
  go_wp2_with fail
  refine (rratof_any _ 1 1 (by decide) (by decide) (by decide) (by decide) (by decide)).mono ?_
  rintro e w1 ⟨v1, rfl, i1, hb1⟩
  obtain ⟨b1, A1, m1, c1, b1', A1', m1', c1', rfl, i1, -, -⟩ := i1.op
  have y1 := hb1.size; (try simp only [World.size_alloc, size_set, size_drew, size_drewN] at y1)
  have M1 := made1 w1 #[.bool b1, .slice A1 m1 c1, .bool b1', .slice A1' m1' c1'] 27
  go_wp2_with fail
  refine (rratof_any _ 2 1 (by decide) (by decide) (by decide) (by decide) (by decide)).mono ?_
  rintro e w2 ⟨v2, rfl, i2, hb2⟩
  obtain ⟨b2, A2, m2, c2, b2', A2', m2', c2', rfl, i2, -, -⟩ := i2.op
  have y2 := hb2.size; (try simp only [World.size_alloc, size_set, size_drew, size_drewN] at y2)
  have M2 := made1 w2 #[.bool b2, .slice A2 m2 c2, .bool b2', .slice A2' m2' c2'] 27
  go_wp2_with fail
  refine (rratof_any _ 1 2 (by decide) (by decide) (by decide) (by decide) (by decide)).mono ?_
  rintro e w3 ⟨v3, rfl, i3, hb3⟩
  obtain ⟨b3, A3, m3, c3, b3', A3', m3', c3', rfl, i3, -, -⟩ := i3.op
  have y3 := hb3.size; (try simp only [World.size_alloc, size_set, size_drew, size_drewN] at y3)
  have M3 := made1 w3 #[.bool b3, .slice A3 m3 c3, .bool b3', .slice A3' m3' c3'] 27
  go_wp2_with fail
  go_loopw [9] (fun i wr => ∃ (j : Nat) (b : Bool) (A : Option Addr) (m c : Nat) (b' : Bool) (A' : Option Addr) (m' c' : Nat), (j : Int) ≤ (if 0 ≤ k then k else 0) ∧ i = .int .i64 j ∧
      Loc wr w1.heap.size 27 #[.bool b, .slice A m c, .bool b', .slice A' m' c'] ∧ RatV wr (fun g => g ≤ w.heap.size ∨ g = w1.heap.size) (.agg #[.bool b, .slice A m c, .bool b', .slice A' m' c']) (pUp j) ∧
      Loc wr w2.heap.size 27 #[.bool b2, .slice A2 m2 c2, .bool b2', .slice A2' m2' c2'] ∧ RatV wr (fun g => g ≤ w.heap.size ∨ g = w1.heap.size) (.agg #[.bool b2, .slice A2 m2 c2, .bool b2', .slice A2' m2' c2']) (Rat.divInt 2 1) ∧
      Loc wr w3.heap.size 27 #[.bool b3, .slice A3 m3 c3, .bool b3', .slice A3' m3' c3'] ∧ RatV wr (fun g => g ≤ w.heap.size ∨ g = w1.heap.size) (.agg #[.bool b3, .slice A3 m3 c3, .bool b3', .slice A3' m3' c3']) (Rat.divInt 1 2) ∧
      Loc wr w.heap.size 27 #[.bool false, .slice none 0 0, .bool false, .slice none 0 0] ∧ Below w.heap.size w wr) (fun i _ => k.toNat - (intOf i).toNat)
  case atStart => exact ⟨0, b1, A1, m1, c1, b1', A1', m1', c1', by split <;> omega, rfl, Loc.to M1, RatV.out i1, Loc.to M2, RatV.out i2, M3, RatV.out i3, L.to, bel⟩
  case round =>
    obtain ⟨j, b, A, m, c, b', A', m', c', hj, rfl, N1, s1, N2, s2, N3, s3, NL, hB⟩ := hrel
    obtain ⟨wo, rfl⟩ : ∃ wo : World, wo = wr := ⟨_, rfl⟩
    clear i1 i2 i3 M1 M2 M3 L
    have y5 := hB.size; (try simp only [World.size_alloc, size_set, size_drew, size_drewN] at y5)
    have q1 := Loc.lt N1
    have q2 := Loc.lt N2
    have q3 := Loc.lt N3
    have q4 := Loc.lt NL
    obtain ⟨e1, f1, -⟩ := Loc.all N1 (w' := wo)
    obtain ⟨e2, f2, -⟩ := Loc.all N2 (w' := wo)
    obtain ⟨e3, f3, -⟩ := Loc.all N3 (w' := wo)
    by_cases hlt : (j : Int) < k
    · rw [if_pos (by omega)] at hj
      have HR := Lib.hid (pUp_Rsz j)
      have HS := Lib.hid (pUp_succ j)
      go_wp2_with fail
      refine (rmul_rat _ (fun _ => False) _ _ (pUp j) (Rat.divInt 2 1) (RatL.to ((s1.len HR.out).mono (by omega))) (RatL.to ((s2.len two_Rsz).mono (by omega)))).mono ?_
      rintro e u1 ⟨v5, rfl, i5, hb5⟩
      rw [HS.out] at i5
      obtain ⟨b5, A5, m5, c5, b5', A5', m5', c5', rfl, i5, -, -⟩ := i5.op
      have y6 := hb5.size; (try simp only [World.size_alloc, size_set, size_drew, size_drewN] at y6)
      clear e1 f1 e2 f2 e3 f3
      obtain ⟨e1, f1, -⟩ := Loc.all N1 (w' := u1)
      go_wp2_with fail
      go_roundw
      case rel => exact ⟨j + 1, b5, A5, m5, c5, b5', A5', m5', c5', by rw [if_pos (by omega)]; omega, by go_num, Loc.fill4 (Loc.to N1 (w' := u1)), RatV.out i5, Loc.to N2, RatV.out s2, Loc.to N3, RatV.out s3, Loc.to NL, bel⟩
      case measure => simp only [intOf]; omega
    · have HU : Hid (pow2 k = if 0 ≤ k then pUp j else pow2 k) := by
        show _ = _
        by_cases h : 0 ≤ k
        · rw [if_pos h] at hj ⊢
          unfold pow2; rw [if_pos h]; congr 1; omega
        · rw [if_neg h]
      have H0 : Hid (pUp j = if 0 ≤ k then pow2 k else pDn 0) := by
        show _ = _
        by_cases h : 0 ≤ k
        · rw [if_pos h] at hj ⊢
          unfold pow2; rw [if_pos h]; congr 1; omega
        · rw [if_neg h] at hj ⊢
          have : j = 0 := by omega
          subst this; rfl
      clear e1 f1 e2 f2 e3 f3 hj
      rw [H0.out] at s1
      clear HU
      go_wp2_with fail
      go_loopw [10] (fun i wr => ∃ (j : Nat) (b : Bool) (A : Option Addr) (m c : Nat) (b' : Bool) (A' : Option Addr) (m' c' : Nat), (j : Int) ≤ (if 0 ≤ k then 0 else -k) ∧ i = .int .i64 j ∧
          Loc wr w1.heap.size 27 #[.bool b, .slice A m c, .bool b', .slice A' m' c'] ∧ RatV wr (fun g => g ≤ w.heap.size ∨ g = w1.heap.size) (.agg #[.bool b, .slice A m c, .bool b', .slice A' m' c']) (if 0 ≤ k then pow2 k else pDn j) ∧
          Loc wr w3.heap.size 27 #[.bool b3, .slice A3 m3 c3, .bool b3', .slice A3' m3' c3'] ∧ RatV wr (fun g => g ≤ w.heap.size ∨ g = w1.heap.size) (.agg #[.bool b3, .slice A3 m3 c3, .bool b3', .slice A3' m3' c3']) (Rat.divInt 1 2) ∧
          Loc wr w.heap.size 27 #[.bool false, .slice none 0 0, .bool false, .slice none 0 0] ∧ Below w.heap.size w wr) (fun i _ => (-k).toNat - (intOf i).toNat)
      case atStart => exact ⟨0, b, A, m, c, b', A', m', c', by split <;> omega, rfl, N1, s1, N3, s3, NL, hB⟩
      case round =>
        clear N1 s1 N2 s2 N3 s3 NL hB q1 q2 q3 q4
        obtain ⟨j, b, A, m, c, b', A', m', c', hj, rfl, N1, s1, N3, s3, NL, hB⟩ := hrel
        obtain ⟨wo, rfl⟩ : ∃ wo : World, wo = wr := ⟨_, rfl⟩
        have y7 := hB.size; (try simp only [World.size_alloc, size_set, size_drew, size_drewN] at y7)
        have q1 := Loc.lt N1
        have q3 := Loc.lt N3
        have q4 := Loc.lt NL
        have hwk : IntKind.i64.wrap (-k) = -k := by rw [IntKind.wrap_i64]; omega
        obtain ⟨e1, f1, -⟩ := Loc.all N1 (w' := wo)
        obtain ⟨e3, f3, -⟩ := Loc.all N3 (w' := wo)
        obtain ⟨e4, f4, -⟩ := Loc.all NL (w' := wo)
        by_cases hlt2 : (j : Int) < -k
        · have hk0 : ¬ 0 ≤ k := by omega
          rw [if_neg hk0] at hj s1
          have HR := Lib.hid (pDn_Rsz j)
          have HS := Lib.hid (pDn_succ j)
          go_wp2_with fail
          refine (rmul_rat _ (fun _ => False) _ _ (pDn j) (Rat.divInt 1 2) (RatL.to ((s1.len HR.out).mono (by omega))) (RatL.to ((s3.len half_Rsz).mono (by omega)))).mono ?_
          rintro e u1 ⟨v5, rfl, i5, hb5⟩
          rw [HS.out] at i5
          obtain ⟨b5, A5, m5, c5, b5', A5', m5', c5', rfl, i5, -, -⟩ := i5.op
          have y8 := hb5.size; (try simp only [World.size_alloc, size_set, size_drew, size_drewN] at y8)
          clear e1 f1 e3 f3 e4 f4
          obtain ⟨e1, f1, -⟩ := Loc.all N1 (w' := u1)
          go_wp2_with fail
          go_roundw
          case rel => exact ⟨j + 1, b5, A5, m5, c5, b5', A5', m5', c5', by rw [if_neg (by omega)]; omega, by go_num, Loc.fill4 (Loc.to N1 (w' := u1)), by rw [if_neg (by omega)]; exact RatV.out i5, Loc.to N3, RatV.out s3, Loc.to NL, bel⟩
          case measure => simp only [intOf]; omega
        · have HE : Hid ((if 0 ≤ k then pow2 k else pDn j) = pow2 k) := by
            show _ = _
            by_cases h : 0 ≤ k
            · rw [if_pos h]
            · rw [if_neg h] at hj ⊢
              unfold pow2; rw [if_neg h]; congr 1; omega
          rw [HE.out] at s1
          clear hj
          go_wp2_with fail
          refine bodyPost_ret (by simp [results, Try.results79, go_sem, e4, f4] <;> rfl) rfl ⟨_, rfl, RatV.out s1, bel⟩
end Go.Proofs.Ytooheapikhdllaa

/- The reference's logarithms. -/
namespace Go.Proofs.Ytooheapikhdllaa
open Go.RowKit
attribute [local go_sem ↓] Go.wp_at_zero Go.wp_at_succ

theorem rlog2floor_neg (w : World) (X : Nat → Prop) (v : Value) (x : Rat) (h : RatL 1000 w X v x) (hx : ¬ 0 < x.num) :
    Calls Try.prog 28 #[v] w fun e w' => e = .returned (.tuple #[.int .i64 0, .int .i64 3]) ∧ Below w.heap.size w w' := by
  obtain ⟨n1, A, m, c, n2, B, m', d, rfl, h, -⟩ := h.op
  obtain ⟨s, hs⟩ : ∃ s, x.num.sign = s := ⟨_, rfl⟩
  have hs0 : s < 1 := by rw [← hs]; rcases sign_cases x.num with ⟨a, e⟩ | ⟨a, e⟩ | ⟨a, e⟩ <;> omega
  have HS := Lib.hid hs
  clear hs hx
  have L := made1 w #[.bool n1, .slice A m c, .bool n2, .slice B m' d] 27
  go_enter Try.func28, Try.ntmps28
  go_wp2_with fail
  refine (rsign_rat _ (fun _ => False) _ x (h.mono (by omega)).to).mono ?_
  rintro e w1 ⟨he, hb1⟩
  rw [HS.out] at he
  subst he
  have y1 := hb1.size; (try simp only [World.size_alloc, size_set, size_drew, size_drewN] at y1)
  go_wp2_with fail
  go_ret2
  exact ⟨rfl, bel⟩

set_option maxHeartbeats 4000000 in
theorem rlog2floor_pos (w : World) (X : Nat → Prop) (v : Value) (x : Rat) (K : Int) (h : RatL 1000 w X v x) (hx : 0 < x.num) (hK : LgF x K) (h0 : -10000 ≤ K) (h1 : K ≤ 10000) :
    Calls Try.prog 28 #[v] w fun e w' => e = .returned (.tuple #[.int .i64 K, .int .i64 0]) ∧ Below w.heap.size w w' := by
  obtain ⟨n1, A, m, c, n2, B, m', d, rfl, h, -⟩ := h.op
  have HS : Hid (x.num.sign = 1) := Int.sign_eq_one_of_pos hx
  have HX : Hid (Rsz 1000 x) := h.rsz (by omega)
  have HLO : Hid (∀ k : Int, scl x k < 0 → K < k) := fun k hk => Classical.byContradiction fun h => by
    have := scl_mono x k K (by omega) hK.1
    omega
  have HHI : Hid (∀ k : Int, ¬ scl x k < 0 → k ≤ K) := fun k hk => Classical.byContradiction fun h => by
    have := scl_mono x (K + 1) k (by omega) (by omega)
    have := hK.2
    omega
  clear hK hx
  have L := made1 w #[.bool n1, .slice A m c, .bool n2, .slice B m' d] 27
  go_enter Try.func28, Try.ntmps28
  go_wp2_with fail
  refine (rsign_rat _ (fun _ => False) _ x (h.mono (by omega)).to).mono ?_
  rintro e w1 ⟨he, hb1⟩
  rw [HS.out] at he
  subst he
  have y1 := hb1.size; (try simp only [World.size_alloc, size_set, size_drew, size_drewN] at y1)
  go_wp2_with fail
  go_loopw [4] (fun i wr => ∃ k : Int, k ≤ 0 ∧ (K ≤ k ∨ k = 0) ∧ i = .int .i64 k ∧ Loc wr w.heap.size 27 #[.bool n1, .slice A m c, .bool n2, .slice B m' d] ∧ RatL 1000 wr (fun _ => False) (.agg #[.bool n1, .slice A m c, .bool n2, .slice B m' d]) x ∧ Below w.heap.size w wr) (fun i _ => (intOf i + 10001).toNat)
  case atStart => exact ⟨0, by omega, by omega, rfl, L.to, RatL.to h, bel⟩
  case round =>
    obtain ⟨k, hk1, hk2, rfl, M, r, hB⟩ := hrel
    obtain ⟨wo, rfl⟩ : ∃ wo : World, wo = wr := ⟨_, rfl⟩
    clear h L
    have y3 := hB.size; (try simp only [World.size_alloc, size_set, size_drew, size_drewN] at y3)
    have q1 := Loc.lt M
    obtain ⟨sc, hsc⟩ : ∃ s, scl x k = s := ⟨_, rfl⟩
    have HL := Lib.hid (HLO.out k)
    have HH := Lib.hid (HHI.out k)
    rw [hsc] at HL HH
    obtain ⟨ns, hns⟩ : ∃ n, -sc = n := ⟨_, rfl⟩
    have HC : Hid (rcmp (pow2 k) x = ns) := by show _ = _; rw [rcmp_pow2, hsc, hns]
    have HP : Hid (Rsz 10002 (pow2 k)) := pow2_Rsz k 10000 (by omega)
    clear hsc
    by_cases hlt : sc < 0
    · have hlo := HL.out hlt
      have hpos : 0 < ns := by omega
      clear hns hlt
      go_wp2_with fail
      go_region_held3 (fun W => ((W.cell? ⟨w.heap.size, 0, none⟩ = some (.bool n1) ∧ W.cell? ⟨w.heap.size, 1, none⟩ = some (.slice A m c)) ∧ W.cell? ⟨w.heap.size, 2, none⟩ = some (.bool n2) ∧ W.cell? ⟨w.heap.size, 3, none⟩ = some (.slice B m' d)))
        (exact ⟨⟨Loc.c 0 M, Loc.c 1 M⟩, Loc.c 2 M, Loc.c 3 M⟩)
        (first
          | (go_at_call 79; refine (rpower_any _ k (by omega) (by omega)).mono ?_; rintro e u1 ⟨v5, rfl, i5, hb5⟩; obtain ⟨b5, A5, m5, c5, b5', A5', m5', c5', rfl, i5, -, -⟩ := i5.op; have y5 := hb5.size; (try simp only [World.size_alloc, size_set, size_drew, size_drewN] at y5))
          | (go_at_call 31; refine (rcompare_rat _ (fun _ => False) _ _ (pow2 k) x (RatL.to ((i5.len HP.out).mono (by omega))) (RatL.to (r.mono (by omega)))).mono ?_; rintro e u2 ⟨he, hb6⟩; rw [HC.out] at he; subst he; have y6 := hb6.size; (try simp only [World.size_alloc, size_set, size_drew, size_drewN] at y6)))
      all_goals
        go_wp2_with fail
        go_roundw
        case rel => exact ⟨k - 1, by omega, by omega, by go_num, Loc.to M, RatL.to r, bel⟩
        case measure => simp only [intOf]; omega
    · have hhi := HH.out (by omega)
      have hpos : ¬ 0 < ns := by omega
      clear hns hlt
      have hklo : -10000 ≤ k := by omega
      go_wp2_with fail
      go_region_held3 (fun W => ((W.cell? ⟨w.heap.size, 0, none⟩ = some (.bool n1) ∧ W.cell? ⟨w.heap.size, 1, none⟩ = some (.slice A m c)) ∧ W.cell? ⟨w.heap.size, 2, none⟩ = some (.bool n2) ∧ W.cell? ⟨w.heap.size, 3, none⟩ = some (.slice B m' d)))
        (exact ⟨⟨Loc.c 0 M, Loc.c 1 M⟩, Loc.c 2 M, Loc.c 3 M⟩)
        (first
          | (go_at_call 79; refine (rpower_any _ (k) (by omega) (by omega)).mono ?_; rintro e u1 ⟨v5, rfl, i5, hb5⟩; obtain ⟨b5, A5, m5, c5, b5', A5', m5', c5', rfl, i5, -, -⟩ := i5.op; have y5 := hb5.size; (try simp only [World.size_alloc, size_set, size_drew, size_drewN] at y5))
          | (go_at_call 31; refine (rcompare_rat _ (fun _ => False) _ _ (pow2 (k)) x (RatL.to ((i5.len HP.out).mono (by omega))) (RatL.to (r.mono (by omega)))).mono ?_; rintro e u2 ⟨he, hb6⟩; rw [HC.out] at he; subst he; have y6 := hb6.size; (try simp only [World.size_alloc, size_set, size_drew, size_drewN] at y6)))
      all_goals
        clear HL HH HC HP hk1 hk2
        go_wp2_with fail
        go_loopw [4] (fun i wr => ∃ k : Int, k ≤ K ∧ -10000 ≤ k ∧ i = .int .i64 k ∧ Loc wr w.heap.size 27 #[.bool n1, .slice A m c, .bool n2, .slice B m' d] ∧ RatL 1000 wr (fun _ => False) (.agg #[.bool n1, .slice A m c, .bool n2, .slice B m' d]) x ∧ Below w.heap.size w wr) (fun i _ => (10001 - intOf i).toNat)
        case atStart => exact ⟨k, hhi, hklo, rfl, Loc.to M, RatL.to r, bel⟩
        case round =>
          clear hpos hhi hklo M r hB i5
          obtain ⟨k, hk1, hk2, rfl, M, r, hB⟩ := hrel
          obtain ⟨wo, rfl⟩ : ∃ wo : World, wo = wr := ⟨_, rfl⟩
          have y7 := hB.size; (try simp only [World.size_alloc, size_set, size_drew, size_drewN] at y7)
          have q1 := Loc.lt M
          have hw : IntKind.i64.wrap (k + 1) = k + 1 := by rw [IntKind.wrap_i64]; omega
          obtain ⟨sc, hsc⟩ : ∃ s, scl x (k + 1) = s := ⟨_, rfl⟩
          have HL := Lib.hid (HLO.out (k + 1))
          have HH := Lib.hid (HHI.out (k + 1))
          rw [hsc] at HL HH
          obtain ⟨ns, hns⟩ : ∃ n, -sc = n := ⟨_, rfl⟩
          have HC : Hid (rcmp (pow2 (k + 1)) x = ns) := by show _ = _; rw [rcmp_pow2, hsc, hns]
          have HP : Hid (Rsz 10003 (pow2 (k + 1))) := pow2_Rsz (k + 1) 10001 (by omega)
          clear hsc
          by_cases hlt : sc < 0
          · have hlo := HL.out hlt
            have hpos : ¬ ns ≤ 0 := by omega
            clear hns hlt
            obtain rfl : k = K := by omega
            clear hk1
            go_wp2_with fail
            go_region_held3 (fun W => ((W.cell? ⟨w.heap.size, 0, none⟩ = some (.bool n1) ∧ W.cell? ⟨w.heap.size, 1, none⟩ = some (.slice A m c)) ∧ W.cell? ⟨w.heap.size, 2, none⟩ = some (.bool n2) ∧ W.cell? ⟨w.heap.size, 3, none⟩ = some (.slice B m' d)))
              (exact ⟨⟨Loc.c 0 M, Loc.c 1 M⟩, Loc.c 2 M, Loc.c 3 M⟩)
              (first
                | (go_at_call 79; refine (rpower_any _ (k + 1) (by omega) (by omega)).mono ?_; rintro e u1 ⟨v5, rfl, i5, hb5⟩; obtain ⟨b5, A5, m5, c5, b5', A5', m5', c5', rfl, i5, -, -⟩ := i5.op; have y5 := hb5.size; (try simp only [World.size_alloc, size_set, size_drew, size_drewN] at y5))
                | (go_at_call 31; refine (rcompare_rat _ (fun _ => False) _ _ (pow2 (k + 1)) x (RatL.to ((i5.len HP.out).mono (by omega))) (RatL.to (r.mono (by omega)))).mono ?_; rintro e u2 ⟨he, hb6⟩; rw [HC.out] at he; subst he; have y6 := hb6.size; (try simp only [World.size_alloc, size_set, size_drew, size_drewN] at y6)))
            all_goals
              go_wp2_with fail
              go_ret2
              exact ⟨rfl, bel⟩
          · have hhi := HH.out (by omega)
            have hpos : ns ≤ 0 := by omega
            clear hns hlt
            go_wp2_with fail
            go_region_held3 (fun W => ((W.cell? ⟨w.heap.size, 0, none⟩ = some (.bool n1) ∧ W.cell? ⟨w.heap.size, 1, none⟩ = some (.slice A m c)) ∧ W.cell? ⟨w.heap.size, 2, none⟩ = some (.bool n2) ∧ W.cell? ⟨w.heap.size, 3, none⟩ = some (.slice B m' d)))
              (exact ⟨⟨Loc.c 0 M, Loc.c 1 M⟩, Loc.c 2 M, Loc.c 3 M⟩)
              (first
                | (go_at_call 79; refine (rpower_any _ (k + 1) (by omega) (by omega)).mono ?_; rintro e u1 ⟨v5, rfl, i5, hb5⟩; obtain ⟨b5, A5, m5, c5, b5', A5', m5', c5', rfl, i5, -, -⟩ := i5.op; have y5 := hb5.size; (try simp only [World.size_alloc, size_set, size_drew, size_drewN] at y5))
                | (go_at_call 31; refine (rcompare_rat _ (fun _ => False) _ _ (pow2 (k + 1)) x (RatL.to ((i5.len HP.out).mono (by omega))) (RatL.to (r.mono (by omega)))).mono ?_; rintro e u2 ⟨he, hb6⟩; rw [HC.out] at he; subst he; have y6 := hb6.size; (try simp only [World.size_alloc, size_set, size_drew, size_drewN] at y6)))
            all_goals
              go_wp2_with fail
              go_roundw
              case rel => exact ⟨k + 1, by omega, by omega, by go_num, Loc.to M, RatL.to r, bel⟩
              case measure => simp only [intOf]; omega
set_option maxHeartbeats 4000000 in
theorem rlog2ceil_neg (w : World) (X : Nat → Prop) (v : Value) (x : Rat) (h : RatL 1000 w X v x) (hx : ¬ 0 < x.num) :
    Calls Try.prog 29 #[v] w fun e w' => e = .returned (.tuple #[.int .i64 0, .int .i64 3]) ∧ Below w.heap.size w w' := by
  have HX := Lib.hid hx
  clear hx
  obtain ⟨n1, A, m, c, n2, B, m', d, rfl, h, -⟩ := h.op
  have L := made1 w #[.bool n1, .slice A m c, .bool n2, .slice B m' d] 27
  go_enter Try.func29, Try.ntmps29
  go_wp2_with fail
  refine (rlog2floor_neg _ (fun _ => False) _ x h.to (by have := HX.out; omega)).mono ?_
  rintro e w1 ⟨rfl, hb1⟩
  have y1 := hb1.size; (try simp only [World.size_alloc, size_set, size_drew, size_drewN] at y1)
  go_wp2_with fail
  refine wp_region_noPanic ?_
  refine wp_region_held_drew (S := (fun W => ((W.cell? ⟨w.heap.size, 0, none⟩ = some (.bool n1) ∧ W.cell? ⟨w.heap.size, 1, none⟩ = some (.slice A m c)) ∧ W.cell? ⟨w.heap.size, 2, none⟩ = some (.bool n2) ∧ W.cell? ⟨w.heap.size, 3, none⟩ = some (.slice B m' d)))) (by kernel_rfl) ?_ (fun hHeld => ?_)
  · exact ⟨⟨Loc.c 0 L, Loc.c 1 L⟩, Loc.c 2 L, Loc.c 3 L⟩
  refine wpAnyH_take (i := 0) (v := ?_) rfl (by kernel_rfl) (by kernel_rfl) (by kernel_rfl) (fun _ _ _ h => h) (Or.inl ⟨by kernel_rfl, ?_⟩) (by assumption) ?_
  rotate_left 1
  · (intro w hSw; (try dsimp only at hSw); first | (go_simp; done) | (go_simp; with_reducible rfl))
  (try simp only [Act.put, List.getElem_toArray, List.getElem_cons_succ, List.getElem_cons_zero, List.setIfInBounds_toArray, List.set_cons_zero, List.set_cons_succ])
  refine wpAnyH_take (i := 1) (v := ?_) rfl (by kernel_rfl) (by kernel_rfl) (by kernel_rfl) (fun _ _ _ h => h) (Or.inl ⟨by kernel_rfl, ?_⟩) (by assumption) ?_
  rotate_left 1
  · (intro w hSw; (try dsimp only at hSw); first | (go_simp; done) | (go_simp; with_reducible rfl))
  (try simp only [Act.put, List.getElem_toArray, List.getElem_cons_succ, List.getElem_cons_zero, List.setIfInBounds_toArray, List.set_cons_zero, List.set_cons_succ])
  refine wpAnyH_take (i := 2) (v := ?_) rfl (by kernel_rfl) (by kernel_rfl) (by kernel_rfl) (fun _ _ _ h => h) (Or.inl ⟨by kernel_rfl, ?_⟩) (by assumption) ?_
  rotate_left 1
  · (intro w hSw; (try dsimp only at hSw); first | (go_simp; done) | (go_simp; with_reducible rfl))
  (try simp only [Act.put, List.getElem_toArray, List.getElem_cons_succ, List.getElem_cons_zero, List.setIfInBounds_toArray, List.set_cons_zero, List.set_cons_succ])
  refine wpAnyH_take (i := 3) (v := undef) rfl (by kernel_rfl) (by kernel_rfl) (by kernel_rfl) (fun _ _ _ h => h) (Or.inr ⟨by kernel_rfl, rfl⟩) (by assumption) ?_
  (try simp only [Act.put, List.getElem_toArray, List.getElem_cons_succ, List.getElem_cons_zero, List.setIfInBounds_toArray, List.set_cons_zero, List.set_cons_succ])
  refine wpAnyH_take (i := 4) (v := undef) rfl (by kernel_rfl) (by kernel_rfl) (by kernel_rfl) (fun _ _ _ h => h) (Or.inr ⟨by kernel_rfl, rfl⟩) (by assumption) ?_
  (try simp only [Act.put, List.getElem_toArray, List.getElem_cons_succ, List.getElem_cons_zero, List.setIfInBounds_toArray, List.set_cons_zero, List.set_cons_succ])
  refine wpAnyH_take (i := 5) (v := undef) rfl (by kernel_rfl) (by kernel_rfl) (by kernel_rfl) (fun _ _ _ h => h) (Or.inr ⟨by kernel_rfl, rfl⟩) (by assumption) ?_
  (try simp only [Act.put, List.getElem_toArray, List.getElem_cons_succ, List.getElem_cons_zero, List.setIfInBounds_toArray, List.set_cons_zero, List.set_cons_succ])
  refine wpAnyH_take (i := 6) (v := undef) rfl (by kernel_rfl) (by kernel_rfl) (by kernel_rfl) (fun _ _ _ h => h) (Or.inr ⟨by kernel_rfl, rfl⟩) (by assumption) ?_
  (try simp only [Act.put, List.getElem_toArray, List.getElem_cons_succ, List.getElem_cons_zero, List.setIfInBounds_toArray, List.set_cons_zero, List.set_cons_succ])
  refine wpAnyH_take (i := 7) (v := undef) rfl (by kernel_rfl) (by kernel_rfl) (by kernel_rfl) (fun _ _ _ h => h) (Or.inr ⟨by kernel_rfl, rfl⟩) (by assumption) ?_
  (try simp only [Act.put, List.getElem_toArray, List.getElem_cons_succ, List.getElem_cons_zero, List.setIfInBounds_toArray, List.set_cons_zero, List.set_cons_succ])
  refine wpAnyH_take (i := 8) (v := ?_) rfl (by kernel_rfl) (by kernel_rfl) (by kernel_rfl) (fun _ _ _ h => h) (Or.inl ⟨by kernel_rfl, ?_⟩) (by assumption) ?_
  rotate_left 1
  · (intro w hSw; (try dsimp only at hSw); first | (go_simp; done) | (go_simp; with_reducible rfl))
  (try simp only [Act.put, List.getElem_toArray, List.getElem_cons_succ, List.getElem_cons_zero, List.setIfInBounds_toArray, List.set_cons_zero, List.set_cons_succ])
  refine wpAnyH_done (by kernel_rfl) ?_ _
  refine NoPanic.normal ?_
  go_wp2_with fail
  go_ret2
  exact ⟨rfl, bel⟩

set_option maxHeartbeats 4000000 in
theorem rlog2ceil_pos (w : World) (X : Nat → Prop) (v : Value) (x : Rat) (K : Int) (h : RatL 1000 w X v x) (hx : 0 < x.num) (hK : LgF x K) (h0 : -10000 ≤ K) (h1 : K ≤ 10000) :
    Calls Try.prog 29 #[v] w fun e w' => ∃ k, e = .returned (.tuple #[.int .i64 k, .int .i64 0]) ∧ Hid (LgC x k) ∧ Below w.heap.size w w' := by
  have HX := Lib.hid hx
  have HK := Lib.hid hK
  clear hx hK
  obtain ⟨n1, A, m, c, n2, B, m', d, rfl, h, -⟩ := h.op
  have L := made1 w #[.bool n1, .slice A m c, .bool n2, .slice B m' d] 27
  have HQ := Lib.hid (h.rsz (by omega))
  obtain ⟨sc, hsc⟩ : ∃ s, scl x K = s := ⟨_, rfl⟩
  obtain ⟨ns, hns⟩ : ∃ n, -sc = n := ⟨_, rfl⟩
  have HC : Hid (rcmp (pow2 K) x = ns) := by show _ = _; rw [rcmp_pow2, hsc, hns]
  have HP : Hid (Rsz 10002 (pow2 K)) := pow2_Rsz K 10000 (by omega)
  have HA : Hid (ns < 0 → LgC x (K + 1)) := fun hh => (LgC_of HX.out HK.out).1 (by rw [hsc]; omega)
  have HB : Hid (¬ ns < 0 → LgC x K) := fun hh => (LgC_of HX.out HK.out).2 (by rw [hsc]; omega)
  clear hsc hns
  go_enter Try.func29, Try.ntmps29
  go_wp2_with fail
  refine (rlog2floor_pos _ (fun _ => False) _ x K h.to HX.out HK.out h0 h1).mono ?_
  rintro e w1 ⟨rfl, hb1⟩
  have y1 := hb1.size; (try simp only [World.size_alloc, size_set, size_drew, size_drewN] at y1)
  go_wp2_with fail
  go_region_held3 (fun W => ((W.cell? ⟨w.heap.size, 0, none⟩ = some (.bool n1) ∧ W.cell? ⟨w.heap.size, 1, none⟩ = some (.slice A m c)) ∧ W.cell? ⟨w.heap.size, 2, none⟩ = some (.bool n2) ∧ W.cell? ⟨w.heap.size, 3, none⟩ = some (.slice B m' d)))
    (exact ⟨⟨Loc.c 0 L, Loc.c 1 L⟩, Loc.c 2 L, Loc.c 3 L⟩)
    (first
      | (go_at_call 79; refine (rpower_any _ K (by omega) (by omega)).mono ?_; rintro e u1 ⟨v5, rfl, i5, hb5⟩; obtain ⟨b5, A5, m5, c5, b5', A5', m5', c5', rfl, i5, -, -⟩ := i5.op; have y5 := hb5.size; (try simp only [World.size_alloc, size_set, size_drew, size_drewN] at y5))
      | (go_at_call 31; refine (rcompare_rat _ (fun _ => False) _ _ (pow2 K) x (RatL.to ((i5.len HP.out).mono (by omega))) (RatL.to (h.mono (by omega)))).mono ?_; rintro e u2 ⟨he, hb6⟩; rw [HC.out] at he; subst he; have y6 := hb6.size; (try simp only [World.size_alloc, size_set, size_drew, size_drewN] at y6)))
  all_goals
    by_cases hn : ns < 0
    · have hk := Lib.hid (HA.out hn)
      go_wp2_with fail
      go_ret2
      exact ⟨_, rfl, hk, bel⟩
    · have hk := Lib.hid (HB.out (by omega))
      go_wp2_with fail
      go_ret2
      exact ⟨_, rfl, hk, bel⟩
end Go.Proofs.Ytooheapikhdllaa

/- RationalLog: the law's walk. -/
namespace Go.Proofs.Ytooheapikhdllaa
open Go.RowKit
attribute [local go_sem ↓] Go.wp_at_zero Go.wp_at_succ
attribute [local go_sem] beq_self_eq_true

theorem lg_exists (x : Rat) (hx : 0 < x.num) (hs : Rsz 4 x) : ∃ K, LgF x K ∧ -10000 ≤ K ∧ K ≤ 10000 := by
  have hg := guess_LgF x hx
  obtain ⟨a1, -, -, a2⟩ := bitsW_bounds x.num.natAbs (by omega)
  obtain ⟨b1, -, -, b2⟩ := bitsW_bounds x.den (by have := x.den_nz; omega)
  have l1 := hs.1
  have l2 := hs.2
  rw [Int.natAbs_natCast] at l2
  by_cases h : scl x ((bitsW (dig x.num.natAbs) : Int) - (bitsW (dig x.den) : Int)) < 0
  · exact ⟨_, hg.1 h, by omega, by omega⟩
  · exact ⟨_, hg.2 h, by omega, by omega⟩

set_option maxHeartbeats 8000000 in
theorem log_walk (w : World) (v : Value) (n1 n2 : Bool) (xs ys : List Nat) (h : RatR w (fun _ => False) v n1 xs n2 ys) :
    Calls Try.prog 7 #[v] w fun e w' => e = .returned (.bool true) ∧ Below w.heap.size w w' := by
  have k1 := h
  obtain ⟨A, c, B, d, rfl, -, -⟩ := h
  have L1 := made1 w #[.bool n1, .slice A xs.length c, .bool n2, .slice B ys.length d] 27
  go_enter Try.func7, Try.ntmps7
  go_wp2_with fail
  refine (rknown_any _).mono ?_
  rintro e w1 ⟨rfl, hb1⟩
  have z1 := sz1 hb1
  obtain ⟨e1, f1, l1⟩ := L1.all (w' := w1)
  go_wp2_with fail
  refine (few_any _ (fun _ => False) _ _ _ _ _ k1.to).mono ?_
  rintro e w2 ⟨he, hb2⟩
  have y2 := hb2.size; (try simp only [World.size_alloc, size_set, size_drew, size_drewN] at y2)
  clear e1 f1
  obtain ⟨e1, f1, l1⟩ := L1.all (w' := w2)
  by_cases hf1 : xs.length ≤ 4 ∧ ys.length ≤ 4
  · rw [decide_eq_true hf1] at he
    subst he
    have r1 := k1.few hf1
    have HX := Lib.hid (r1.rsz (by omega))
    clear hf1
    obtain ⟨x, hx⟩ : ∃ x, rv n1 xs n2 ys = x := ⟨_, rfl⟩
    rw [hx] at r1 HX
    clear hx
    by_cases hp : 0 < x.num
    · obtain ⟨K, hK, hK0, hK1⟩ := lg_exists x hp HX.out
      have HP := Lib.hid hp
      have HK := Lib.hid hK
      clear hp hK
      go_wp2_with fail
      refine (log2floor_pos _ (fun _ => False) _ x (r1.mono (by omega)).to HP.out).mono ?_
      rintro e w3 ⟨k3, rfl, hk3, -, -, hb3⟩
      obtain rfl : K = k3 := HK.out.uniq hk3.out
      have y3 := hb3.size; (try simp only [World.size_alloc, size_set, size_drew, size_drewN] at y3)
      clear e1 f1
      obtain ⟨e1, f1, l1⟩ := L1.all (w' := w3)
      go_wp2_with fail
      refine (log2ceil_pos _ (fun _ => False) _ x (r1.mono (by omega)).to HP.out).mono ?_
      rintro e w4 ⟨k4, rfl, hk4, hb4⟩
      have y4 := hb4.size; (try simp only [World.size_alloc, size_set, size_drew, size_drewN] at y4)
      clear e1 f1
      obtain ⟨e1, f1, l1⟩ := L1.all (w' := w4)
      go_wp2_with fail
      refine (rlog2floor_pos _ (fun _ => False) _ x K (r1.mono (by omega)).to HP.out HK.out hK0 hK1).mono ?_
      rintro e w5 ⟨rfl, hb5⟩
      have y5 := hb5.size; (try simp only [World.size_alloc, size_set, size_drew, size_drewN] at y5)
      clear e1 f1
      obtain ⟨e1, f1, l1⟩ := L1.all (w' := w5)
      go_wp2_with fail
      refine (rlog2ceil_pos _ (fun _ => False) _ x K (r1.mono (by omega)).to HP.out HK.out hK0 hK1).mono ?_
      rintro e w6 ⟨k6, rfl, hk6, hb6⟩
      obtain rfl : k4 = k6 := LgC.uniq HP.out hk4.out hk6.out
      have y6 := hb6.size; (try simp only [World.size_alloc, size_set, size_drew, size_drewN] at y6)
      go_wp2_with fail
      go_ret
      exact ⟨rfl, bel⟩
    · have HP := Lib.hid hp
      clear hp
      go_wp2_with fail
      refine (log2floor_neg _ (fun _ => False) _ x (r1.mono (by omega)).to (by have := HP.out; omega)).mono ?_
      rintro e w3 ⟨rfl, hb3⟩
      have y3 := hb3.size; (try simp only [World.size_alloc, size_set, size_drew, size_drewN] at y3)
      clear e1 f1
      obtain ⟨e1, f1, l1⟩ := L1.all (w' := w3)
      go_wp2_with fail
      refine (log2ceil_neg _ (fun _ => False) _ x (r1.mono (by omega)).to (by have := HP.out; omega)).mono ?_
      rintro e w4 ⟨rfl, hb4⟩
      have y4 := hb4.size; (try simp only [World.size_alloc, size_set, size_drew, size_drewN] at y4)
      clear e1 f1
      obtain ⟨e1, f1, l1⟩ := L1.all (w' := w4)
      go_wp2_with fail
      refine (rlog2floor_neg _ (fun _ => False) _ x (r1.mono (by omega)).to (by have := HP.out; omega)).mono ?_
      rintro e w5 ⟨rfl, hb5⟩
      have y5 := hb5.size; (try simp only [World.size_alloc, size_set, size_drew, size_drewN] at y5)
      clear e1 f1
      obtain ⟨e1, f1, l1⟩ := L1.all (w' := w5)
      go_wp2_with fail
      refine (rlog2ceil_neg _ (fun _ => False) _ x (r1.mono (by omega)).to (by have := HP.out; omega)).mono ?_
      rintro e w6 ⟨rfl, hb6⟩
      have y6 := hb6.size; (try simp only [World.size_alloc, size_set, size_drew, size_drewN] at y6)
      go_wp2_with fail
      go_ret
      exact ⟨rfl, bel⟩
  · rw [decide_eq_false hf1] at he
    subst he
    go_wp2_with fail
    go_ret
    exact ⟨rfl, bel⟩
end Go.Proofs.Ytooheapikhdllaa

/- The statement 'RationalLog' out of its walk. The frame is the guide's own (proof-skeleton), printed by lawgen.py. -/
namespace Go.Proofs.Ytooheapikhdllaa.rationalLog
open Go.ChangeShapes Go.WideShapes Go.ChangeAt Go.RowKit Go.Proofs.Ytooheapikhdllaa
open Go.ChangeMaps (open_string shut_string)
set_option linter.unusedVariables false

set_option maxRecDepth 100000 in
theorem lifted (os : Os) (started : os.Started) (H : Type) (enc : TypeId × Value → H) :
    ReturnsInHanded {} Try.checked os 7 .any (Rows.rationalLogSpec.pre6 enc Try.prog Try.f7 Rows.rationalLogRow.domain false) (Rows.rationalLogSpec.post enc Try.prog Try.f7 false true false false) := by
  refine returnsInHanded_of_change (C := Try.checked) own started (by kernel_rfl) Try.func7
    (ChangeSpec.witness6 (enc := enc) (C := Try.checked) false ⟨#[], #[.agg #[.bool false, .slice none 0 0, .bool false, .slice none 0 0]], []⟩ 8 (by kernel_rfl) (by kernel_rfl) (by kernel_rfl) (by kernel_rfl)) ?_
  intro W base args ds gs before hval0 hW hcnd _
  have hval : ∀ (j : Nat) t v, Try.f7.params[j]? = some t → args[j]? = some v → Value.okWide Try.prog W .any base t v := hval0
  have hW' := hW
  obtain ⟨p, q, hA0, hV, rfl, hfz, hnd⟩ := hW
  have hA : DataW.TrodAll enc Try.prog W 0 (fun _ => true) true Try.f7.params.toList args.toList ds p := hA0
  rw [Try.params7] at hA hval
  obtain ⟨v0, vs0, d0, ds0, p0, q0, hargs, rfl, rfl, h0, r0⟩ := trodAll_cons hA
  obtain ⟨rfl, rfl, rfl⟩ := trodAll_nil r0
  obtain rfl : args = #[v0] := by cases args; simp_all
  obtain ⟨rfl, rfl⟩ := trodVars_none hV
  have lt0 : ∀ x ∈ p0, x.block < W.heap.size := by obtain ⟨m, hm⟩ := h0; exact DataW.trod_lt m _ _ _ hm
  have k0 := fun (W' : World) (bel : Below W.heap.size W W') => Below.trod laidOut (by kernel_rfl) (of_decide_eq_true (by kernel_rfl)) h0 bel lt0
  obtain ⟨n0, x0, m0, y0, o0⟩ := open_Rat (hval 0 27 v0 rfl rfl) h0
  refine (log_walk W v0 n0 m0 x0 y0 o0).mono fun e W' ⟨he, bel⟩ => ?_
  subst he
  exact ⟨_, rfl, _, _, _, [], _, [], hW', trodAll_mk1 (shut_bool Try.underlying4 _), (trodAll_cons_mk (k0 _ bel) trodAll_mk0), rfl, bel.frame _, fun h => by cases h⟩

theorem over : Rows.rationalLogRow.holds Try.pinned (OpenSpec.ofChange Rows.rationalLogSpec) :=
  OpenClaim.holds_of_wide 7 Try.f7 rfl rfl rfl rfl rfl rfl rfl ⟨rfl, rfl, rfl, rfl, rfl⟩ rfl rfl rfl rfl rfl (by kernel_rfl) Try.func7 (by kernel_rfl)
    (of_decide_eq_true (by kernel_rfl)) (by unfold Func.isWrapper; first | (rw [if_pos (by decide +kernel)]; kernel_rfl) | (rw [if_neg (by decide +kernel)]; exact ⟨rfl, rfl⟩))
    (fun os started H enc _ => lifted os started H enc)

/-- The statement: for every input the law returns true; each argument reads behind the call as it read before. -/
theorem proved : Rows.RationalLogSaid := over
end Go.Proofs.Ytooheapikhdllaa.rationalLog

