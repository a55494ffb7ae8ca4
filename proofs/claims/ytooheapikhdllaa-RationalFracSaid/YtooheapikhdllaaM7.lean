/- Contracts of the functions that the statements reach, part 7. -/
import Derived.Test.YtooheapikhdllaaRows
import Derived.Deep.QuietTactic
import Derived.BigQuiet
import Derived.RegionTactic
import Derived.ProofKit
import Derived.OpenShut
import Derived.ShutString
import Derived.ChangeOld
import Derived.Lib.SmallJoins
import Derived.Test.YtooheapikhdllaaM6
set_option linter.unusedSimpArgs false
set_option linter.unusedVariables false

/- Log2Floor, Log2Ceil, divisor, Reduce of the program. -/
namespace Go.Proofs.Ytooheapikhdllaa
open Go.RowKit
attribute [local go_sem ↓] Go.wp_at_zero Go.wp_at_succ

set_option maxHeartbeats 4000000 in
theorem log2floor_neg (w : World) (X : Nat → Prop) (v : Value) (x : Rat) (h : RatL 10000000 w X v x) (hx : ¬ 0 < x.num) :
    Calls Try.prog 26 #[v] w fun e w' => e = .returned (.tuple #[.int .i64 0, .int .i64 3]) ∧ Below w.heap.size w w' := by
  obtain ⟨n1, A, m, c, n2, B, m', d, rfl, h, -⟩ := h.op
  obtain ⟨s, hs⟩ : ∃ s, x.num.sign = s := ⟨_, rfl⟩
  have hs0 : s ≤ 0 := by rw [← hs]; rcases sign_cases x.num with ⟨a, e⟩ | ⟨a, e⟩ | ⟨a, e⟩ <;> omega
  have HS := Lib.hid hs
  clear hs hx
  have L0 := made1 w #[.bool n1, .slice A m c, .bool n2, .slice B m' d] 27
  go_enter Try.func26, Try.ntmps26
  go_wp2_with fail
  refine (clean_rat _ (fun _ => False) _ x (h.mono (by omega)).to).mono ?_
  rintro e w1 ⟨v1, rfl, h1, hb1⟩
  obtain ⟨b2, A2, m2, c2, b3, A3, m3, c3, rfl, h1, j1, j2⟩ := h1.op
  have z1 := sz1 hb1
  obtain ⟨e4, g4, -⟩ := L0.all (w' := w1)
  go_wp2_with fail
  refine (sign_V _ (fun _ => False) _ _ j1.to).mono ?_
  rintro e w2 ⟨he, hb2⟩
  rw [HS.out] at he
  subst he
  have y2 := hb2.size; (try simp only [World.size_alloc, size_set, size_drew, size_drewN] at y2)
  go_wp2_with fail
  go_ret2
  exact ⟨rfl, bel⟩

set_option maxHeartbeats 4000000 in
theorem log2floor_pos (w : World) (X : Nat → Prop) (v : Value) (x : Rat) (h : RatL 10000000 w X v x) (hx : 0 < x.num) :
    Calls Try.prog 26 #[v] w fun e w' => ∃ k, e = .returned (.tuple #[.int .i64 k, .int .i64 0]) ∧ Hid (LgF x k) ∧ -3200000000 ≤ k ∧ k ≤ 3200000000 ∧ Below w.heap.size w w' := by
  have HR := Lib.hid (h.rsz (by omega))
  obtain ⟨n1, A, m, c, n2, B, m', d, rfl, h, -⟩ := h.op
  have HS : Hid (x.num.sign = 1) := Int.sign_eq_one_of_pos hx
  obtain ⟨P, hP⟩ : ∃ P, bitsW (dig x.num.natAbs) = P := ⟨_, rfl⟩
  obtain ⟨Q, hQ⟩ : ∃ Q, bitsW (dig x.den) = Q := ⟨_, rfl⟩
  have hPb : P ≤ 320000000 := by rw [← hP]; have := (bitsW_bounds x.num.natAbs (by omega)).2.2.2; have := HR.out.1; omega
  have hQb : Q ≤ 320000000 := by rw [← hQ]; have := (bitsW_bounds x.den (by have := x.den_nz; omega)).2.2.2; have h2 := HR.out.2; rw [Int.natAbs_natCast] at h2; omega
  have hg := guess_LgF x hx
  rw [hP, hQ] at hg
  have HG := Lib.hid hg
  have HP : Hid (bitsW (dig (val (dig x.num.natAbs))) = P) := by show _ = _; rw [val_dig, hP]
  have HQ : Hid (bitsW (dig (val (dig (x.den : Int).natAbs))) = Q) := by show _ = _; rw [val_dig, Int.natAbs_natCast, hQ]
  obtain ⟨s, hs⟩ : ∃ s, scl x ((P : Int) - (Q : Int)) = s := ⟨_, rfl⟩
  have HSC := Lib.hid hs
  clear hg hP hQ hs hx
  have L0 := made1 w #[.bool n1, .slice A m c, .bool n2, .slice B m' d] 27
  go_enter Try.func26, Try.ntmps26
  go_wp2_with fail
  refine (clean_rat _ (fun _ => False) _ x (h.mono (by omega)).to).mono ?_
  rintro e w1 ⟨v1, rfl, h1, hb1⟩
  obtain ⟨b2, A2, m2, c2, b3, A3, m3, c3, rfl, h1, j1, j2⟩ := h1.op
  have z1 := sz1 hb1
  obtain ⟨e4, g4, -⟩ := L0.all (w' := w1)
  have L1 := Loc.fill4 (u := .bool b2) (v := .slice A2 m2 c2) (x := .bool b3) (y := .slice A3 m3 c3) (L0.to (w' := w1))
  go_wp2_with fail
  refine (sign_V _ (fun _ => False) _ _ j1.to).mono ?_
  rintro e w2 ⟨he, hb2⟩
  rw [HS.out] at he
  subst he
  have y2 := hb2.size; (try simp only [World.size_alloc, size_set, size_drew, size_drewN] at y2)
  clear e4 g4
  have hw : IntKind.i64.wrap ((P : Int) - (Q : Int)) = (P : Int) - (Q : Int) := by rw [IntKind.wrap_i64]; omega
  go_wp2_with fail
  go_region_held3 (fun W => (W.cell? ⟨w.heap.size, 0, none⟩ = some (.bool b2) ∧ W.cell? ⟨w.heap.size, 1, none⟩ = some (.slice A2 m2 c2)) ∧ W.cell? ⟨w.heap.size, 2, none⟩ = some (.bool b3) ∧ W.cell? ⟨w.heap.size, 3, none⟩ = some (.slice A3 m3 c3))
    (exact ⟨⟨Loc.c 0 L1, Loc.c 1 L1⟩, Loc.c 2 L1, Loc.c 3 L1⟩)
    (first
      | (go_at_call_of 77 (Value.agg #[Value.bool b2, Value.slice A2 m2 c2]); refine (bits_any _ (fun _ => False) _ _ _ j1.to (Nat.le_trans HR.out.1 (by omega))).mono ?_; rintro e u1 ⟨he, hb5⟩; rw [HP.out] at he; subst he; have y5 := hb5.size; (try simp only [World.size_alloc, size_set, size_drew, size_drewN] at y5))
      | (go_at_call_of 77 (Value.agg #[Value.bool b3, Value.slice A3 m3 c3]); refine (bits_any _ (fun _ => False) _ _ _ j2.to (Nat.le_trans HR.out.2 (by omega))).mono ?_; rintro e u2 ⟨he, hb6⟩; rw [HQ.out] at he; subst he; have y6 := hb6.size; (try simp only [World.size_alloc, size_set, size_drew, size_drewN] at y6)))
  all_goals
    obtain ⟨e7, g7, -⟩ := Loc.all L1 (w' := u2)
    go_wp2_with fail
    refine (scaled_any _ (fun _ => False) _ x _ h1.to (by omega) (by omega) HR.out).mono ?_
    rintro e w4 ⟨he, hb7⟩
    rw [HSC.out] at he
    subst he
    have y7 := hb7.size; (try simp only [World.size_alloc, size_set, size_drew, size_drewN] at y7)
    by_cases hsn : s < 0
    · have hk : Hid (LgF x ((P : Int) - (Q : Int) - 1)) := HG.out.1 (by rw [HSC.out]; exact hsn)
      go_wp2_with fail
      go_ret2
      exact ⟨_, rfl, hk, by omega, by omega, bel⟩
    · have hk : Hid (LgF x ((P : Int) - (Q : Int))) := HG.out.2 (by rw [HSC.out]; omega)
      go_wp2_with fail
      go_ret2
      exact ⟨_, rfl, hk, by omega, by omega, bel⟩

set_option maxHeartbeats 4000000 in
theorem log2ceil_neg (w : World) (X : Nat → Prop) (v : Value) (x : Rat) (h : RatL 10000000 w X v x) (hx : ¬ 0 < x.num) :
    Calls Try.prog 27 #[v] w fun e w' => e = .returned (.tuple #[.int .i64 0, .int .i64 3]) ∧ Below w.heap.size w w' := by
  have HR := Lib.hid (h.rsz (by omega))
  have HX := Lib.hid hx
  clear hx
  obtain ⟨n1, A, m, c, n2, B, m', d, rfl, h, -⟩ := h.op
  have L0 := made1 w #[.bool n1, .slice A m c, .bool n2, .slice B m' d] 27
  go_enter Try.func27, Try.ntmps27
  go_wp2_with fail
  refine (clean_rat _ (fun _ => False) _ x (h.mono (by omega)).to).mono ?_
  rintro e w1 ⟨v1, rfl, h1, hb1⟩
  obtain ⟨b2, A2, m2, c2, b3, A3, m3, c3, rfl, h1, j1, j2⟩ := h1.op
  have z1 := sz1 hb1
  obtain ⟨e4, g4, -⟩ := L0.all (w' := w1)
  go_wp2_with fail
  refine (log2floor_neg _ (fun _ => False) _ x (h1.len HR.out).to (by have := HX.out; omega)).mono ?_
  rintro e w2 ⟨rfl, hb2⟩
  have y2 := hb2.size; (try simp only [World.size_alloc, size_set, size_drew, size_drewN] at y2)
  go_wp2_with fail
  go_ret2
  exact ⟨rfl, bel⟩

set_option maxHeartbeats 4000000 in
theorem log2ceil_pos (w : World) (X : Nat → Prop) (v : Value) (x : Rat) (h : RatL 10000000 w X v x) (hx : 0 < x.num) :
    Calls Try.prog 27 #[v] w fun e w' => ∃ k, e = .returned (.tuple #[.int .i64 k, .int .i64 0]) ∧ Hid (LgC x k) ∧ Below w.heap.size w w' := by
  have HR := Lib.hid (h.rsz (by omega))
  have HX := Lib.hid hx
  clear hx
  obtain ⟨n1, A, m, c, n2, B, m', d, rfl, h, -⟩ := h.op
  have L0 := made1 w #[.bool n1, .slice A m c, .bool n2, .slice B m' d] 27
  go_enter Try.func27, Try.ntmps27
  go_wp2_with fail
  refine (clean_rat _ (fun _ => False) _ x (h.mono (by omega)).to).mono ?_
  rintro e w1 ⟨v1, rfl, h1, hb1⟩
  obtain ⟨b2, A2, m2, c2, b3, A3, m3, c3, rfl, h1, j1, j2⟩ := h1.op
  have z1 := sz1 hb1
  obtain ⟨e4, g4, -⟩ := L0.all (w' := w1)
  have L1 := Loc.fill4 (u := .bool b2) (v := .slice A2 m2 c2) (x := .bool b3) (y := .slice A3 m3 c3) (L0.to (w' := w1))
  go_wp2_with fail
  refine (log2floor_pos _ (fun _ => False) _ x (h1.len HR.out).to HX.out).mono ?_
  rintro e w2 ⟨k, rfl, HK, hk1, hk2, hb2⟩
  have y2 := hb2.size; (try simp only [World.size_alloc, size_set, size_drew, size_drewN] at y2)
  obtain ⟨s, hs⟩ : ∃ s, scl x k = s := ⟨_, rfl⟩
  have HS := Lib.hid hs
  clear hs e4 g4
  obtain ⟨e7, g7, -⟩ := Loc.all L1 (w' := w2)
  go_wp2_with fail
  refine (scaled_any _ (fun _ => False) _ x _ h1.to (by omega) (by omega) HR.out).mono ?_
  rintro e w4 ⟨he, hb7⟩
  rw [HS.out] at he
  subst he
  have y7 := hb7.size; (try simp only [World.size_alloc, size_set, size_drew, size_drewN] at y7)
  by_cases hsn : 0 < s
  · have hk : Hid (LgC x (k + 1)) := (LgC_of HX.out HK.out).1 (by rw [HS.out]; exact hsn)
    go_wp2_with fail
    go_ret2
    exact ⟨_, rfl, hk, bel⟩
  · have hk : Hid (LgC x k) := (LgC_of HX.out HK.out).2 (by rw [HS.out]; omega)
    go_wp2_with fail
    go_ret2
    exact ⟨_, rfl, hk, bel⟩
end Go.Proofs.Ytooheapikhdllaa

/- divisor, Reduce of the program; gcd, Reduce of the reference. -/
namespace Go.Proofs.Ytooheapikhdllaa
open Go.RowKit
attribute [local go_sem ↓] Go.wp_at_zero Go.wp_at_succ

set_option maxHeartbeats 2000000 in
theorem divisor_any (w : World) (a b : Nat) (ha : a ≤ 9223372036854775807) (hb : b ≤ 9223372036854775807) :
    Calls Try.prog 86 #[.int .i64 (a : Nat), .int .i64 (b : Nat)] w fun e w' => e = .returned (.int .i64 (Nat.gcd a b : Nat)) ∧ ∃ n, w' = w.drewN n := by
  go_enter Try.func86, Try.ntmps86
  go_wp2_with fail
  go_loopw [0, 1] (fun p q wr => ∃ (x y n : Nat), p = .int .i64 (x : Nat) ∧ q = .int .i64 (y : Nat) ∧ Hid (Nat.gcd x y = Nat.gcd a b) ∧ x ≤ 9223372036854775807 ∧ y ≤ 9223372036854775807 ∧ wr = w.drewN n) (fun _ q _ => (intOf q).toNat)
  case atStart => exact ⟨a, b, 0, rfl, rfl, rfl, ha, hb, rfl⟩
  case round =>
    obtain ⟨x, y, n, rfl, rfl, HG, hx, hy, rfl⟩ := hrel
    by_cases h0 : y = 0
    · subst h0
      go_wp2_with fail
      go_ret
      refine ⟨?_, n, rfl⟩
      have := HG.out
      rw [Nat.gcd_zero_right] at this
      rw [← this]; rfl
    · have hne : ((y : Int) != 0) = true := by rw [bne_iff_ne]; omega
      have hne2 : ((y : Int) == 0) = false := by rw [beq_eq_false_iff_ne]; omega
      have hlt := Nat.mod_lt x (show 0 < y by omega)
      have HG2 : Hid (Nat.gcd y (x % y) = Nat.gcd a b) := by
        show _ = _
        rw [← HG.out, Nat.gcd_comm x y, Nat.gcd_rec y x, Nat.gcd_comm]
      have HLT := Lib.hid hlt
      clear hlt
      go_wp2_with fail
      go_quiet (fail)
      go_wp2_with fail
      go_roundw
      case rel => exact ⟨y, x % y, n + nq, rfl, by go_num, HG2, hy, by have := HLT.out; omega, by rw [World.drewN_drewN]⟩
      case measure => simp only [intOf]; have := HLT.out; omega

theorem quo_gcd (a b : Nat) : ((a : Int) / ((Nat.gcd a b : Nat) : Int)) = ((a / Nat.gcd a b : Nat) : Int) := by rw [Int.natCast_ediv]

set_option maxHeartbeats 2000000 in
theorem reduce_bad (w : World) (n d : Int) (h : n < 0 ∨ d < 1) :
    Calls Try.prog 49 #[.int .i64 n, .int .i64 d] w fun e w' => e = .returned (.tuple #[.agg #[.int .i64 0, .int .i64 0], .int .i64 3]) ∧ Below w.heap.size w w' := by
  have L := made1 w #[.int .i64 0, .int .i64 0] 52
  obtain ⟨e1, f1, -⟩ := L.all (w' := w.alloc (.cells #[.int .i64 0, .int .i64 0] 52))
  by_cases hn : n < 0
  · clear h
    go_enter Try.func49, Try.ntmps49
    go_wp2_with fail
    refine bodyPost_ret (by simp [results, Try.results49, go_sem, e1, f1] <;> rfl) rfl ⟨rfl, bel⟩
  · have hd : d < 1 := h.resolve_left hn
    clear h
    go_enter Try.func49, Try.ntmps49
    go_wp2_with fail
    refine bodyPost_ret (by simp [results, Try.results49, go_sem, e1, f1] <;> rfl) rfl ⟨rfl, bel⟩

set_option maxHeartbeats 2000000 in
theorem reduce_any (w : World) (a b : Nat) (hb0 : 1 ≤ b) (ha : a ≤ 9223372036854775807) (hb : b ≤ 9223372036854775807) :
    Calls Try.prog 49 #[.int .i64 (a : Nat), .int .i64 (b : Nat)] w fun e w' => e = .returned (.tuple #[.agg #[.int .i64 ((a / Nat.gcd a b : Nat) : Int), .int .i64 ((b / Nat.gcd a b : Nat) : Int)], .int .i64 0]) ∧ Below w.heap.size w w' := by
  obtain ⟨g, hg⟩ : ∃ g, Nat.gcd a b = g := ⟨_, rfl⟩
  have hg0 : 0 < g := by rw [← hg]; exact Nat.gcd_pos_of_pos_right _ hb0
  have hgb : g ≤ b := by rw [← hg]; exact Nat.gcd_le_right _ hb0
  rw [hg]
  have HG := Lib.hid hg
  clear hg
  have hq1 : (a : Int) / (g : Int) = ((a / g : Nat) : Int) := by rw [Int.natCast_ediv]
  have hq2 : (b : Int) / (g : Int) = ((b / g : Nat) : Int) := by rw [Int.natCast_ediv]
  have hd1 := Nat.div_le_self a g
  have hd2 := Nat.div_le_self b g
  generalize a / g = x at *
  generalize b / g = y at *
  have hgz : ((g : Int) == 0) = false := by rw [beq_eq_false_iff_ne]; omega
  have L := made1 w #[.int .i64 0, .int .i64 0] 52
  go_enter Try.func49, Try.ntmps49
  go_wp2_with fail
  refine (divisor_any _ a b ha hb).mono ?_
  rintro e w' ⟨he, n, rfl⟩
  rw [HG.out] at he
  subst he
  have hw1 : IntKind.i64.wrap ((x : Nat) : Int) = (x : Int) := by rw [IntKind.wrap_i64]; omega
  have hw2 : IntKind.i64.wrap ((y : Nat) : Int) = (y : Int) := by rw [IntKind.wrap_i64]; omega
  obtain ⟨e1, f1, -⟩ := Loc.all L (w' := ((w.alloc (.cells #[.int .i64 0, .int .i64 0] 52)).drewN n).drew)
  go_wp2_with fail
  go_region_with (fail)
  all_goals
    go_wp2_with fail
    refine bodyPost_ret (by simp [results, Try.results49, go_sem, e1, f1] <;> rfl) rfl ⟨?_, bel⟩
    rfl
end Go.Proofs.Ytooheapikhdllaa

/- known: the examples of the chapter on fractions. -/
namespace Go.Proofs.Ytooheapikhdllaa
open Go.RowKit
attribute [local go_sem ↓] Go.wp_at_zero Go.wp_at_succ

theorem k1_code : rpCode [45, 49, 48, 47, 52] = 0 := by decide +kernel
theorem k2_code : rpCode [49, 48, 47, 45, 52] = 6 := by decide +kernel
theorem k1_val : (rpVal [45, 49, 48, 47, 52]).num = -5 ∧ (rpVal [45, 49, 48, 47, 52]).den = 2 := by decide +kernel
theorem dec1 (d : Nat) (h0 : 0 < d) (h : d < 10) : decR d = [d] := by
  have := decR_of (ds := [d]) (by simpa [Ds] using h) (by simp; omega)
  simpa [dval] using this.symm
theorem k1_text : textR (rpVal [45, 49, 48, 47, 52]) = [45, 53, 47, 50] := by
  unfold textR
  rw [k1_val.1, k1_val.2, if_neg (by decide)]
  rw [show (-5 : Int) = -((5 : Nat) : Int) from rfl, textB_neg 5 (by omega), textB_pos 2 (by omega), dec1 5 (by omega) (by omega), dec1 2 (by omega) (by omega)]
  decide +kernel
theorem k3_val : (Rat.divInt 1 2 + Rat.divInt (-1) (-3)).num = 5 ∧ (Rat.divInt 1 2 + Rat.divInt (-1) (-3)).den = 6 := by decide +kernel
theorem k3_text : textR (Rat.divInt 1 2 + Rat.divInt (-1) (-3)) = [53, 47, 54] := by
  unfold textR
  rw [k3_val.1, k3_val.2, if_neg (by decide)]
  rw [show (5 : Int) = ((5 : Nat) : Int) from rfl, textB_pos 5 (by omega), textB_pos 6 (by omega), dec1 5 (by omega) (by omega), dec1 6 (by omega) (by omega)]
  decide +kernel
theorem half_num : (Rat.divInt 1 2).num = 1 ∧ (Rat.divInt 1 2).den = 2 := by decide +kernel
theorem third_num : (Rat.divInt (-1) (-3)).num = 1 ∧ (Rat.divInt (-1) (-3)).den = 3 := by decide +kernel
theorem half_LgC : LgC (Rat.divInt 1 2) (-1) := by
  unfold LgC scl
  rw [half_num.1, half_num.2]
  decide
theorem Rsz_small {q : Rat} {a b : Nat} (h1 : q.num.natAbs = a) (h2 : q.den = b) (ha : a < 4294967296) (hb : b < 4294967296) : Rsz 1 q :=
  ⟨by rw [h1]; exact dig_len_le (by omega), by rw [Int.natAbs_natCast, h2]; exact dig_len_le (by omega)⟩
theorem k_half : Rsz 1 (Rat.divInt 1 2) := Rsz_small (a := 1) (b := 2) (by rw [half_num.1]; rfl) half_num.2 (by omega) (by omega)
theorem k_third : Rsz 1 (Rat.divInt (-1) (-3)) := Rsz_small (a := 1) (b := 3) (by rw [third_num.1]; rfl) third_num.2 (by omega) (by omega)
theorem k_sum : Rsz 1 (Rat.divInt 1 2 + Rat.divInt (-1) (-3)) := Rsz_small (a := 5) (b := 6) (by rw [k3_val.1]; rfl) k3_val.2 (by omega) (by omega)
theorem k_one : Rsz 1 (rpVal [45, 49, 48, 47, 52]) := Rsz_small (a := 5) (b := 2) (by rw [k1_val.1]; rfl) k1_val.2 (by omega) (by omega)

set_option maxHeartbeats 4000000 in
theorem rknown_any (w : World) :
    Calls Try.prog 14 #[] w fun e w' => e = .returned (.bool true) ∧ Below w.heap.size w w' := by
  have HT1 := Lib.hid k1_text
  have HT3 := Lib.hid k3_text
  go_enter Try.func14, Try.ntmps14
  go_wp2_with fail
  refine (ratparse_any _ [45, 49, 48, 47, 52] (by simp)).mono ?_
  rintro e w1 ⟨v1, rfl, h1, hb1⟩
  rw [k1_code] at h1 ⊢
  replace h1 : RatV w1 (Old w) v1 (rpVal [45, 49, 48, 47, 52]) := h1
  obtain ⟨q1, hq1⟩ : ∃ q, rpVal [45, 49, 48, 47, 52] = q := ⟨_, rfl⟩
  have HZ1 := Lib.hid k_one
  rw [hq1] at h1 HT1 HZ1
  clear hq1
  obtain ⟨b1, A1, m1, c1, b1', A1', m1', c1', rfl, h1, -, -⟩ := h1.op
  have y1 := hb1.size; (try simp only [World.size_alloc, size_set, size_drew, size_drewN] at y1)
  go_wp2_with fail
  refine (ratparse_any _ [49, 48, 47, 45, 52] (by simp)).mono ?_
  rintro e w2 ⟨v2, rfl, h2, hb2⟩
  rw [k2_code] at h2 ⊢
  replace h2 : v2 = .agg #[.bool false, .slice none 0 0, .bool false, .slice none 0 0] := h2
  subst h2
  have y2 := hb2.size; (try simp only [World.size_alloc, size_set, size_drew, size_drewN] at y2)
  have L1 := made1 w1 #[.bool b1, .slice A1 m1 c1, .bool b1', .slice A1' m1' c1'] 27
  go_wp2_with fail
  refine (ratof_any _ 1 2 (by decide) (by decide) (by decide) (by decide) (by decide)).mono ?_
  rintro e w3 ⟨v3, rfl, h3, hb3⟩
  obtain ⟨half, hh⟩ : ∃ q, Rat.divInt 1 2 = q := ⟨_, rfl⟩
  have HH := Lib.hid hh
  rw [hh] at h3
  clear hh
  obtain ⟨b3, A3, m3, c3, b3', A3', m3', c3', rfl, h3, -, -⟩ := h3.op
  have y3 := hb3.size; (try simp only [World.size_alloc, size_set, size_drew, size_drewN] at y3)
  have L3 := made1 w3 #[.bool b3, .slice A3 m3 c3, .bool b3', .slice A3' m3' c3'] 27
  go_wp2_with fail
  refine (ratof_any _ (-1) (-3) (by decide) (by decide) (by decide) (by decide) (by decide)).mono ?_
  rintro e w4 ⟨v4, rfl, h4, hb4⟩
  obtain ⟨third, ht⟩ : ∃ q, Rat.divInt (-1) (-3) = q := ⟨_, rfl⟩
  have HTH := Lib.hid ht
  rw [ht] at h4
  clear ht
  obtain ⟨b4, A4, m4, c4, b4', A4', m4', c4', rfl, h4, -, -⟩ := h4.op
  have y4 := hb4.size; (try simp only [World.size_alloc, size_set, size_drew, size_drewN] at y4)
  have L4 := made1 w4 #[.bool b4, .slice A4 m4 c4, .bool b4', .slice A4' m4' c4'] 27
  have R3 : Hid (Rsz 1 half) := by show Rsz _ _; rw [← HH.out]; exact k_half
  have R4 : Hid (Rsz 1 third) := by show Rsz _ _; rw [← HTH.out]; exact k_third
  have R5 : Hid (Rsz 1 (half + third)) := by show Rsz _ _; rw [← HH.out, ← HTH.out]; exact k_sum
  have HT5 : Hid (textR (half + third) = [53, 47, 54]) := by show _ = _; rw [← HH.out, ← HTH.out]; exact k3_text
  have HLC : Hid (LgC half (-1)) := by show LgC _ _; rw [← HH.out]; exact half_LgC
  have HHN : Hid (0 < half.num) := by show _ < _; rw [← HH.out, half_num.1]; decide
  obtain ⟨e3, f3, l3⟩ := Loc.all L3 (w' := w4)
  go_wp2_with fail
  refine (log2ceil_pos _ (fun _ => False) _ half (RatL.mono (RatV.len h3 R3.out) (by omega)).to HHN.out).mono ?_
  rintro e w5 ⟨k, rfl, HK, hb5⟩
  have hk : k = -1 := LgC.uniq HHN.out HK.out HLC.out
  subst hk
  have y5 := hb5.size; (try simp only [World.size_alloc, size_set, size_drew, size_drewN] at y5)
  clear e3 f3
  go_wp2_with fail
  refine (reduce_any _ 6 4 (by omega) (by omega) (by omega)).mono ?_
  rintro e w6 ⟨rfl, hb6⟩
  have hred : ((6 / Nat.gcd 6 4 : Nat) : Int) = 3 ∧ ((4 / Nat.gcd 6 4 : Nat) : Int) = 2 := by decide
  rw [hred.1, hred.2]
  have y6 := hb6.size; (try simp only [World.size_alloc, size_set, size_drew, size_drewN] at y6)
  clear hred
  obtain ⟨e1, f1, l1⟩ := Loc.all L1 (w' := w6)
  go_wp2_with fail
  refine (text_rat _ (fun _ => False) _ q1 (RatL.mono (RatV.len h1 HZ1.out) (by omega)).to).mono ?_
  rintro e w7 ⟨rfl, hb7⟩
  rw [HT1.out]
  have y7 := hb7.size; (try simp only [World.size_alloc, size_set, size_drew, size_drewN] at y7)
  clear e1 f1
  obtain ⟨e3, f3, l3⟩ := Loc.all L3 (w' := w7)
  obtain ⟨e4, f4, l4⟩ := Loc.all L4 (w' := w7)
  have L6 := made1 w6 #[.int .i64 3, .int .i64 2] 52
  go_wp2_with fail
  refine (add_rat _ (fun _ => False) _ _ half third (RatL.mono (RatV.len h3 R3.out) (by omega)).to (RatL.mono (RatV.len h4 R4.out) (by omega)).to).mono ?_
  rintro e w8 ⟨v8, rfl, h8, hb8⟩
  obtain ⟨b8, A8, m8, c8, b8', A8', m8', c8', rfl, h8, -, -⟩ := h8.op
  have y8 := hb8.size; (try simp only [World.size_alloc, size_set, size_drew, size_drewN] at y8)
  clear e3 f3 e4 f4
  go_wp2_with fail
  refine (text_rat _ (fun _ => False) _ (half + third) (RatL.mono (RatV.len h8 R5.out) (by omega)).to).mono ?_
  rintro e w9 ⟨rfl, hb9⟩
  rw [HT5.out]
  have y9 := hb9.size; (try simp only [World.size_alloc, size_set, size_drew, size_drewN] at y9)
  obtain ⟨e6, f6, l6⟩ := Loc.all L6 (w' := w9)
  go_wp2_with fail
  go_ret
  exact ⟨rfl, bel⟩
end Go.Proofs.Ytooheapikhdllaa

/- Arguments opened: an api.Int, out of the form's reading. -/
namespace Go.Proofs.Ytooheapikhdllaa
open Go.ChangeShapes Go.WideShapes Go.ChangeAt Go.RowKit Go.Joins
open Go.ChangeMaps (open_string shut_string)

theorem own : ownKnob Try.prog.godebug = none := by kernel_rfl
theorem laidOut : laidOutB Try.prog = true := by kernel_rfl
theorem cellsInt : Try.prog.cellsOf 24 = 2 := by kernel_rfl
theorem cellsU32 : Try.prog.cellsOf 82 = 1 := by kernel_rfl

theorem open_Words {H : Type} {enc : TypeId × Value → H} {W : World} {base : Nat} {fuel : Nat} {v : Value} {x : DataW H × List MemPlace}
    (h : DataW.trod enc Try.prog W base (fun _ => true) true fuel 22 [v] = some x) : ∃ xs, Words W (fun _ => False) v xs := by
  rcases open_ints Try.underlying22 Try.underlying82 cellsU32 h with ⟨hcs, _⟩ | ⟨a, len, cap, zs, hcs, _, hl, hm, hz, _, hcell, hwz⟩
  · simp at hcs
    subst hcs
    exact ⟨[], Words.nil _ _⟩
  · simp at hcs
    subst hcs
    have hz' : zs.length = cap := by simpa using hz
    have hw : ∀ z ∈ zs, 0 ≤ z ∧ z < 4294967296 := fun z hz => by
      have h := hwz z hz
      have := bounds_u32 h
      omega
    have hlen : ((zs.take len).map Int.toNat).length = len := by simp; omega
    refine ⟨(zs.take len).map Int.toNat, ⟨_, _, by rw [hlen], by rw [hlen]; exact hl, hm, by simp, fun hn => ⟨a, rfl, ?_, id, fun j u hu => ?_⟩⟩, ?_⟩
    · rw [hlen] at hn
      have h0 := hcell 0 (by omega)
      rw [addr_zero] at h0
      exact World.block_lt_of_cell? W a h0
    · have hj : j < len := by have := (List.getElem?_eq_some_iff.1 hu).1; simp at this; omega
      have hjz : j < zs.length := by omega
      rw [hcell j hjz]
      have e : zs.getD j 0 = zs[j] := by simp [hjz]
      rw [nums_get (by rw [hlen]; exact hj)] at hu
      rw [← hu, e]
      simp only [List.getElem_map, List.getElem_take]
      have := hw zs[j] (List.getElem_mem hjz)
      congr 2; omega
    · intro x hx
      obtain ⟨z, hz1, rfl⟩ := List.mem_map.1 hx
      have := hw z (List.mem_of_mem_take hz1)
      omega

theorem open_Int {H : Type} {enc : TypeId × Value → H} {W : World} {base : Nat} {r : Reach} {b0 : Nat} {v : Value} {d : DataW H} {p : List MemPlace}
    (hv : Value.okWide Try.prog W r b0 24 v) (h : DataW.Trod enc Try.prog W base (fun _ => true) true 24 v d p) : ∃ neg xs, IntR W (fun _ => False) v neg xs := by
  obtain ⟨c0, c1, y0, y1, m, rfl, _, _, h0, h1⟩ := open_agg2 Try.underlying24 (by kernel_rfl) cellsInt hv h
  obtain ⟨b, e, _⟩ := DataW.trod_bool Try.underlying4 h0
  simp at e
  subst e
  obtain ⟨xs, hx⟩ := open_Words h1
  exact ⟨b, xs, _, rfl, hx⟩
end Go.Proofs.Ytooheapikhdllaa

/- Add, Mul, Divide, Compare of rational; printed by gen_rat5.py. -/
namespace Go.Proofs.Ytooheapikhdllaa
open Go.RowKit
attribute [local go_sem ↓] Go.wp_at_zero Go.wp_at_succ

set_option maxHeartbeats 4000000 in
theorem mul_rat (w : World) (X : Nat → Prop) (v1 v2 : Value) (x y : Rat) (h1 : RatL 10000000 w X v1 x) (h2 : RatL 10000000 w X v2 y) :
    Calls Try.prog 43 #[v1, v2] w fun e w' => ∃ v', e = .returned v' ∧ RatV w' (Old w) v' (x * y) ∧ Below w.heap.size w w' := by
  have HX := Lib.hid (h1.rsz (by omega))
  have HY := Lib.hid (h2.rsz (by omega))
  obtain ⟨n1, A, m, c, n2, B, m', d, rfl, h1, -⟩ := h1.op
  obtain ⟨o1, C, p, e, o2, D, p', f, rfl, h2, -⟩ := h2.op
  go_enter Try.func43, Try.ntmps43
  go_upto_region 2 with fail
  go_cut [0] (fun _ W => ∃ (n1 : Bool) (A : Option Addr) (m c : Nat) (n2 : Bool) (B : Option Addr) (m' d : Nat) (o1 : Bool) (C : Option Addr) (p e : Nat) (o2 : Bool) (D : Option Addr) (p' f : Nat),
      Loc W w.heap.size 27 #[.bool n1, .slice A m c, .bool n2, .slice B m' d] ∧ Loc W (w.heap.size + 1) 27 #[.bool o1, .slice C p e, .bool o2, .slice D p' f] ∧ Loc W (w.heap.size + 1 + 1) 27 #[.bool false, .slice none 0 0, .bool false, .slice none 0 0] ∧
      RatV W (fun b => w.heap.size ≤ b ∧ b < w.heap.size + 3) (.agg #[.bool n1, .slice A m c, .bool n2, .slice B m' d]) x ∧ RatV W (fun b => w.heap.size ≤ b ∧ b < w.heap.size + 3) (.agg #[.bool o1, .slice C p e, .bool o2, .slice D p' f]) y ∧ Below w.heap.size w W)
  case first =>
    have N1 := made1 w #[.bool n1, .slice A m c, .bool n2, .slice B m' d] 27
    have N2 := made2 w (.cells #[.bool n1, .slice A m c, .bool n2, .slice B m' d] 27) #[.bool o1, .slice C p e, .bool o2, .slice D p' f] 27
    go_wp2_with fail
    obtain ⟨c5, f5, -⟩ := N1.all (w' := (((w.alloc (.cells #[.bool n1, .slice A m c, .bool n2, .slice B m' d] 27)).alloc (.cells #[.bool o1, .slice C p e, .bool o2, .slice D p' f] 27)).alloc (.cells #[.bool false, .slice none 0 0, .bool false, .slice none 0 0] 27)).drew)
    obtain ⟨c6, f6, -⟩ := N2.all (w' := (((w.alloc (.cells #[.bool n1, .slice A m c, .bool n2, .slice B m' d] 27)).alloc (.cells #[.bool o1, .slice C p e, .bool o2, .slice D p' f] 27)).alloc (.cells #[.bool false, .slice none 0 0, .bool false, .slice none 0 0] 27)).drew)
    go_region_with (first
      | (go_at_call_of 35 (Value.agg #[Value.bool n1, Value.slice A m c, Value.bool n2, Value.slice B m' d]); refine (clean_rat _ (fun _ => False) _ x (h1.mono (by omega)).to).mono ?_; rintro e u1 ⟨v5, rfl, h5, hb5⟩; obtain ⟨b5, A5, m5, k5, b5', A5', m5', k5', rfl, h5, -, -⟩ := h5.op; have y5 := hb5.size; (try simp only [World.size_alloc, size_set, size_drew, size_drewN] at y5); obtain ⟨c6, f6, -⟩ := N2.all (w' := u1))
      | (go_at_call_of 35 (Value.agg #[Value.bool o1, Value.slice C p e, Value.bool o2, Value.slice D p' f]); refine (clean_rat _ (fun _ => False) _ y (h2.mono (by omega)).to).mono ?_; rintro e u2 ⟨v6, rfl, h6, hb6⟩; obtain ⟨b6, A6, m6, k6, b6', A6', m6', k6', rfl, h6, -, -⟩ := h6.op; have y6 := hb6.size; (try simp only [World.size_alloc, size_set, size_drew, size_drewN] at y6); obtain ⟨c7, f7, -⟩ := N1.all (w' := u2); obtain ⟨c8, f8, -⟩ := N2.all (w' := u2)))
    all_goals
      go_wp2_with fail
      go_meet
      have L1 := N1.to (w' := u2)
      have L2 := N2.to (w' := u2)
      have e12 : w.heap.size ≠ w.heap.size + 1 := by omega
      have e21 : w.heap.size + 1 ≠ w.heap.size := by omega
      exact ⟨_, _, _, _, _, _, _, _, _, _, _, _, _, _, _, _, (by first | with_reducible exact Loc.two4_first e12 L1 | with_reducible exact Loc.two4_last e12 L1), (by first | with_reducible exact Loc.two4_first e21 L2 | with_reducible exact Loc.two4_last e21 L2), (made3 w _ _ _ _).to, RatV.out h5, RatV.out h6, bel⟩
  case rest =>
    clear h1 h2
    obtain ⟨n1, A, m, c, n2, B, m', d, o1, C, p, e, o2, D, p', f, L1, L2, L3, h1, h2, hB⟩ := hcut
    obtain ⟨_, _, _, _, _, _, _, _, e1, h1, i1, i2⟩ := h1.op
    simp only [Value.agg.injEq, Array.mk.injEq, List.cons.injEq, Value.bool.injEq, Value.slice.injEq, and_true] at e1
    obtain ⟨rfl, ⟨rfl, rfl, rfl⟩, rfl, ⟨rfl, rfl, rfl⟩⟩ := e1
    obtain ⟨_, _, _, _, _, _, _, _, e1, h2, j1, j2⟩ := h2.op
    simp only [Value.agg.injEq, Array.mk.injEq, List.cons.injEq, Value.bool.injEq, Value.slice.injEq, and_true] at e1
    obtain ⟨rfl, ⟨rfl, rfl, rfl⟩, rfl, ⟨rfl, rfl, rfl⟩⟩ := e1
    have z1 := L1.lt
    have z2 := L2.lt
    have z3 := L3.lt
    go_wp2_with fail
    have HN := Lib.hid (len_mulI HX.out.1 HY.out.1)
    have HD := Lib.hid (len_mulI HX.out.2 HY.out.2)
    go_region_held3 (fun W => ((W.cell? ⟨w.heap.size, 0, none⟩ = some (.bool n1) ∧ W.cell? ⟨w.heap.size, 1, none⟩ = some (.slice A m c)) ∧ W.cell? ⟨w.heap.size, 2, none⟩ = some (.bool n2) ∧ W.cell? ⟨w.heap.size, 3, none⟩ = some (.slice B m' d)) ∧ (W.cell? ⟨w.heap.size + 1, 0, none⟩ = some (.bool o1) ∧ W.cell? ⟨w.heap.size + 1, 1, none⟩ = some (.slice C p e)) ∧ W.cell? ⟨w.heap.size + 1, 2, none⟩ = some (.bool o2) ∧ W.cell? ⟨w.heap.size + 1, 3, none⟩ = some (.slice D p' f))
      (exact ⟨⟨⟨Loc.c 0 L1, Loc.c 1 L1⟩, Loc.c 2 L1, Loc.c 3 L1⟩, ⟨Loc.c 0 L2, Loc.c 1 L2⟩, Loc.c 2 L2, Loc.c 3 L2⟩)
      (first
        | (go_at_call_of 80 (Value.agg #[Value.bool n1, Value.slice A m c]); refine (mul_any _ (fun _ => False) _ _ _ _ _ _ i1.to j1.to (Nat.le_trans HX.out.1 (by omega)) (Nat.le_trans HY.out.1 (by omega))).mono ?_; rintro e u1 ⟨w1, rfl, k1, hb1⟩; rw [sv_dig, sv_dig] at k1; obtain ⟨bw1, Aw1, mw1, kw1, rfl, k1⟩ := k1.op; have yu1 := hb1.size; (try simp only [World.size_alloc, size_set, size_drew, size_drewN] at yu1))
        | (go_at_call_of 80 (Value.agg #[Value.bool n2, Value.slice B m' d]); refine (mul_any _ (fun _ => False) _ _ _ _ _ _ i2.to j2.to (Nat.le_trans HX.out.2 (by omega)) (Nat.le_trans HY.out.2 (by omega))).mono ?_; rintro e u2 ⟨w2, rfl, k2, hb2⟩; rw [sv_dig, sv_dig] at k2; obtain ⟨bw2, Aw2, mw2, kw2, rfl, k2⟩ := k2.op; have yu2 := hb2.size; (try simp only [World.size_alloc, size_set, size_drew, size_drewN] at yu2))
        | (go_at_call 35; refine (clean_rat _ (fun _ => False) _ (x * y) ⟨_, _, _, _, (ratR_of k1.to k2.to), Nat.le_trans HN.out (by omega), Nat.le_trans HD.out (by omega), by unfold rv; rw [sv_dig, sv_dig]; exact rat_mul x y⟩).mono ?_; rintro e u3 ⟨v6, rfl, h6, hb6⟩; obtain ⟨b6, A6, m6, k6, b6', A6', m6', k6', rfl, h6, -, -⟩ := h6.op; have y6 := hb6.size; (try simp only [World.size_alloc, size_set, size_drew, size_drewN] at y6); obtain ⟨e5, g5, -⟩ := Loc.all L3 (w' := u3)))
    all_goals
      go_wp2_with fail
      refine bodyPost_ret (by simp [results, Try.results43, go_sem, e5, g5] <;> rfl) rfl ⟨_, rfl, h6.out, bel⟩

set_option maxHeartbeats 4000000 in
theorem ratdivide_zero (w : World) (X : Nat → Prop) (v1 v2 : Value) (x y : Rat) (h1 : RatL 10000000 w X v1 x) (h2 : RatL 10000000 w X v2 y) (hy : y = 0) :
    Calls Try.prog 40 #[v1, v2] w fun e w' => e = .returned (.tuple #[.agg #[.bool false, .slice none 0 0, .bool false, .slice none 0 0], .int .i64 3]) ∧ Below w.heap.size w w' := by
  have HX := Lib.hid (h1.rsz (by omega))
  have HY := Lib.hid (h2.rsz (by omega))
  obtain ⟨n1, A, m, c, n2, B, m', d, rfl, h1, -⟩ := h1.op
  obtain ⟨o1, C, p, e, o2, D, p', f, rfl, h2, -⟩ := h2.op
  go_enter Try.func40, Try.ntmps40
  go_upto_region 2 with fail
  go_cut [0] (fun _ W => ∃ (n1 : Bool) (A : Option Addr) (m c : Nat) (n2 : Bool) (B : Option Addr) (m' d : Nat) (o1 : Bool) (C : Option Addr) (p e : Nat) (o2 : Bool) (D : Option Addr) (p' f : Nat),
      Loc W w.heap.size 27 #[.bool n1, .slice A m c, .bool n2, .slice B m' d] ∧ Loc W (w.heap.size + 1) 27 #[.bool o1, .slice C p e, .bool o2, .slice D p' f] ∧ Loc W (w.heap.size + 1 + 1) 27 #[.bool false, .slice none 0 0, .bool false, .slice none 0 0] ∧
      RatV W (fun b => w.heap.size ≤ b ∧ b < w.heap.size + 3) (.agg #[.bool n1, .slice A m c, .bool n2, .slice B m' d]) x ∧ RatV W (fun b => w.heap.size ≤ b ∧ b < w.heap.size + 3) (.agg #[.bool o1, .slice C p e, .bool o2, .slice D p' f]) y ∧ Below w.heap.size w W)
  case first =>
    have N1 := made1 w #[.bool n1, .slice A m c, .bool n2, .slice B m' d] 27
    have N2 := made2 w (.cells #[.bool n1, .slice A m c, .bool n2, .slice B m' d] 27) #[.bool o1, .slice C p e, .bool o2, .slice D p' f] 27
    go_wp2_with fail
    obtain ⟨c5, f5, -⟩ := N1.all (w' := (((w.alloc (.cells #[.bool n1, .slice A m c, .bool n2, .slice B m' d] 27)).alloc (.cells #[.bool o1, .slice C p e, .bool o2, .slice D p' f] 27)).alloc (.cells #[.bool false, .slice none 0 0, .bool false, .slice none 0 0] 27)).drew)
    obtain ⟨c6, f6, -⟩ := N2.all (w' := (((w.alloc (.cells #[.bool n1, .slice A m c, .bool n2, .slice B m' d] 27)).alloc (.cells #[.bool o1, .slice C p e, .bool o2, .slice D p' f] 27)).alloc (.cells #[.bool false, .slice none 0 0, .bool false, .slice none 0 0] 27)).drew)
    go_region_with (first
      | (go_at_call_of 35 (Value.agg #[Value.bool n1, Value.slice A m c, Value.bool n2, Value.slice B m' d]); refine (clean_rat _ (fun _ => False) _ x (h1.mono (by omega)).to).mono ?_; rintro e u1 ⟨v5, rfl, h5, hb5⟩; obtain ⟨b5, A5, m5, k5, b5', A5', m5', k5', rfl, h5, -, -⟩ := h5.op; have y5 := hb5.size; (try simp only [World.size_alloc, size_set, size_drew, size_drewN] at y5); obtain ⟨c6, f6, -⟩ := N2.all (w' := u1))
      | (go_at_call_of 35 (Value.agg #[Value.bool o1, Value.slice C p e, Value.bool o2, Value.slice D p' f]); refine (clean_rat _ (fun _ => False) _ y (h2.mono (by omega)).to).mono ?_; rintro e u2 ⟨v6, rfl, h6, hb6⟩; obtain ⟨b6, A6, m6, k6, b6', A6', m6', k6', rfl, h6, -, -⟩ := h6.op; have y6 := hb6.size; (try simp only [World.size_alloc, size_set, size_drew, size_drewN] at y6); obtain ⟨c7, f7, -⟩ := N1.all (w' := u2); obtain ⟨c8, f8, -⟩ := N2.all (w' := u2)))
    all_goals
      go_wp2_with fail
      go_meet
      have L1 := N1.to (w' := u2)
      have L2 := N2.to (w' := u2)
      have e12 : w.heap.size ≠ w.heap.size + 1 := by omega
      have e21 : w.heap.size + 1 ≠ w.heap.size := by omega
      exact ⟨_, _, _, _, _, _, _, _, _, _, _, _, _, _, _, _, (by first | with_reducible exact Loc.two4_first e12 L1 | with_reducible exact Loc.two4_last e12 L1), (by first | with_reducible exact Loc.two4_first e21 L2 | with_reducible exact Loc.two4_last e21 L2), (made3 w _ _ _ _).to, RatV.out h5, RatV.out h6, bel⟩
  case rest =>
    clear h1 h2
    obtain ⟨n1, A, m, c, n2, B, m', d, o1, C, p, e, o2, D, p', f, L1, L2, L3, h1, h2, hB⟩ := hcut
    obtain ⟨_, _, _, _, _, _, _, _, e1, h1, i1, i2⟩ := h1.op
    simp only [Value.agg.injEq, Array.mk.injEq, List.cons.injEq, Value.bool.injEq, Value.slice.injEq, and_true] at e1
    obtain ⟨rfl, ⟨rfl, rfl, rfl⟩, rfl, ⟨rfl, rfl, rfl⟩⟩ := e1
    obtain ⟨_, _, _, _, _, _, _, _, e1, h2, j1, j2⟩ := h2.op
    simp only [Value.agg.injEq, Array.mk.injEq, List.cons.injEq, Value.bool.injEq, Value.slice.injEq, and_true] at e1
    obtain ⟨rfl, ⟨rfl, rfl, rfl⟩, rfl, ⟨rfl, rfl, rfl⟩⟩ := e1
    have z1 := L1.lt
    have z2 := L2.lt
    have z3 := L3.lt
    go_wp2_with fail
    have HV : Hid (val (dig (((x.den : Nat) : Int) * y.num).natAbs) = 0) := by show _ = _; rw [val_dig, hy]; simp
    clear hy
    have HN := Lib.hid (len_mulI HX.out.1 HY.out.2)
    have HD := Lib.hid (len_mulI HX.out.2 HY.out.1)
    go_region_held3 (fun W => ((W.cell? ⟨w.heap.size, 0, none⟩ = some (.bool n1) ∧ W.cell? ⟨w.heap.size, 1, none⟩ = some (.slice A m c)) ∧ W.cell? ⟨w.heap.size, 2, none⟩ = some (.bool n2) ∧ W.cell? ⟨w.heap.size, 3, none⟩ = some (.slice B m' d)) ∧ (W.cell? ⟨w.heap.size + 1, 0, none⟩ = some (.bool o1) ∧ W.cell? ⟨w.heap.size + 1, 1, none⟩ = some (.slice C p e)) ∧ W.cell? ⟨w.heap.size + 1, 2, none⟩ = some (.bool o2) ∧ W.cell? ⟨w.heap.size + 1, 3, none⟩ = some (.slice D p' f))
      (exact ⟨⟨⟨Loc.c 0 L1, Loc.c 1 L1⟩, Loc.c 2 L1, Loc.c 3 L1⟩, ⟨Loc.c 0 L2, Loc.c 1 L2⟩, Loc.c 2 L2, Loc.c 3 L2⟩)
      (first
        | (go_at_call_of 80 (Value.agg #[Value.bool n1, Value.slice A m c]); refine (mul_any _ (fun _ => False) _ _ _ _ _ _ i1.to j2.to (Nat.le_trans HX.out.1 (by omega)) (Nat.le_trans HY.out.2 (by omega))).mono ?_; rintro e u1 ⟨w1, rfl, k1, hb1⟩; rw [sv_dig, sv_dig] at k1; obtain ⟨bw1, Aw1, mw1, kw1, rfl, k1⟩ := k1.op; have yu1 := hb1.size; (try simp only [World.size_alloc, size_set, size_drew, size_drewN] at yu1))
        | (go_at_call_of 80 (Value.agg #[Value.bool n2, Value.slice B m' d]); refine (mul_any _ (fun _ => False) _ _ _ _ _ _ i2.to j1.to (Nat.le_trans HX.out.2 (by omega)) (Nat.le_trans HY.out.1 (by omega))).mono ?_; rintro e u2 ⟨w2, rfl, k2, hb2⟩; rw [sv_dig, sv_dig] at k2; obtain ⟨bw2, Aw2, mw2, kw2, rfl, k2⟩ := k2.op; have yu2 := hb2.size; (try simp only [World.size_alloc, size_set, size_drew, size_drewN] at yu2))
        | (go_at_call 15; refine (new_zero _ (fun _ => False) _ _ _ _ _ _ k1.to k2.to HV.out).mono ?_; rintro e u3 ⟨rfl, hb6⟩; have y6 := hb6.size; (try simp only [World.size_alloc, size_set, size_drew, size_drewN] at y6); obtain ⟨e5, g5, -⟩ := Loc.all L3 (w' := u3)))
    all_goals
      go_wp2_with fail
      refine bodyPost_ret (by simp [results, Try.results40, go_sem, e5, g5] <;> rfl) rfl ⟨rfl, bel⟩

set_option maxHeartbeats 4000000 in
theorem ratdivide_any (w : World) (X : Nat → Prop) (v1 v2 : Value) (x y : Rat) (h1 : RatL 10000000 w X v1 x) (h2 : RatL 10000000 w X v2 y) (hy : y ≠ 0) :
    Calls Try.prog 40 #[v1, v2] w fun e w' => ∃ v', e = .returned (.tuple #[v', .int .i64 0]) ∧ RatV w' (Old w) v' (x / y) ∧ Below w.heap.size w w' := by
  have HX := Lib.hid (h1.rsz (by omega))
  have HY := Lib.hid (h2.rsz (by omega))
  obtain ⟨n1, A, m, c, n2, B, m', d, rfl, h1, -⟩ := h1.op
  obtain ⟨o1, C, p, e, o2, D, p', f, rfl, h2, -⟩ := h2.op
  go_enter Try.func40, Try.ntmps40
  go_upto_region 2 with fail
  go_cut [0] (fun _ W => ∃ (n1 : Bool) (A : Option Addr) (m c : Nat) (n2 : Bool) (B : Option Addr) (m' d : Nat) (o1 : Bool) (C : Option Addr) (p e : Nat) (o2 : Bool) (D : Option Addr) (p' f : Nat),
      Loc W w.heap.size 27 #[.bool n1, .slice A m c, .bool n2, .slice B m' d] ∧ Loc W (w.heap.size + 1) 27 #[.bool o1, .slice C p e, .bool o2, .slice D p' f] ∧ Loc W (w.heap.size + 1 + 1) 27 #[.bool false, .slice none 0 0, .bool false, .slice none 0 0] ∧
      RatV W (fun b => w.heap.size ≤ b ∧ b < w.heap.size + 3) (.agg #[.bool n1, .slice A m c, .bool n2, .slice B m' d]) x ∧ RatV W (fun b => w.heap.size ≤ b ∧ b < w.heap.size + 3) (.agg #[.bool o1, .slice C p e, .bool o2, .slice D p' f]) y ∧ Below w.heap.size w W)
  case first =>
    have N1 := made1 w #[.bool n1, .slice A m c, .bool n2, .slice B m' d] 27
    have N2 := made2 w (.cells #[.bool n1, .slice A m c, .bool n2, .slice B m' d] 27) #[.bool o1, .slice C p e, .bool o2, .slice D p' f] 27
    go_wp2_with fail
    obtain ⟨c5, f5, -⟩ := N1.all (w' := (((w.alloc (.cells #[.bool n1, .slice A m c, .bool n2, .slice B m' d] 27)).alloc (.cells #[.bool o1, .slice C p e, .bool o2, .slice D p' f] 27)).alloc (.cells #[.bool false, .slice none 0 0, .bool false, .slice none 0 0] 27)).drew)
    obtain ⟨c6, f6, -⟩ := N2.all (w' := (((w.alloc (.cells #[.bool n1, .slice A m c, .bool n2, .slice B m' d] 27)).alloc (.cells #[.bool o1, .slice C p e, .bool o2, .slice D p' f] 27)).alloc (.cells #[.bool false, .slice none 0 0, .bool false, .slice none 0 0] 27)).drew)
    go_region_with (first
      | (go_at_call_of 35 (Value.agg #[Value.bool n1, Value.slice A m c, Value.bool n2, Value.slice B m' d]); refine (clean_rat _ (fun _ => False) _ x (h1.mono (by omega)).to).mono ?_; rintro e u1 ⟨v5, rfl, h5, hb5⟩; obtain ⟨b5, A5, m5, k5, b5', A5', m5', k5', rfl, h5, -, -⟩ := h5.op; have y5 := hb5.size; (try simp only [World.size_alloc, size_set, size_drew, size_drewN] at y5); obtain ⟨c6, f6, -⟩ := N2.all (w' := u1))
      | (go_at_call_of 35 (Value.agg #[Value.bool o1, Value.slice C p e, Value.bool o2, Value.slice D p' f]); refine (clean_rat _ (fun _ => False) _ y (h2.mono (by omega)).to).mono ?_; rintro e u2 ⟨v6, rfl, h6, hb6⟩; obtain ⟨b6, A6, m6, k6, b6', A6', m6', k6', rfl, h6, -, -⟩ := h6.op; have y6 := hb6.size; (try simp only [World.size_alloc, size_set, size_drew, size_drewN] at y6); obtain ⟨c7, f7, -⟩ := N1.all (w' := u2); obtain ⟨c8, f8, -⟩ := N2.all (w' := u2)))
    all_goals
      go_wp2_with fail
      go_meet
      have L1 := N1.to (w' := u2)
      have L2 := N2.to (w' := u2)
      have e12 : w.heap.size ≠ w.heap.size + 1 := by omega
      have e21 : w.heap.size + 1 ≠ w.heap.size := by omega
      exact ⟨_, _, _, _, _, _, _, _, _, _, _, _, _, _, _, _, (by first | with_reducible exact Loc.two4_first e12 L1 | with_reducible exact Loc.two4_last e12 L1), (by first | with_reducible exact Loc.two4_first e21 L2 | with_reducible exact Loc.two4_last e21 L2), (made3 w _ _ _ _).to, RatV.out h5, RatV.out h6, bel⟩
  case rest =>
    clear h1 h2
    obtain ⟨n1, A, m, c, n2, B, m', d, o1, C, p, e, o2, D, p', f, L1, L2, L3, h1, h2, hB⟩ := hcut
    obtain ⟨_, _, _, _, _, _, _, _, e1, h1, i1, i2⟩ := h1.op
    simp only [Value.agg.injEq, Array.mk.injEq, List.cons.injEq, Value.bool.injEq, Value.slice.injEq, and_true] at e1
    obtain ⟨rfl, ⟨rfl, rfl, rfl⟩, rfl, ⟨rfl, rfl, rfl⟩⟩ := e1
    obtain ⟨_, _, _, _, _, _, _, _, e1, h2, j1, j2⟩ := h2.op
    simp only [Value.agg.injEq, Array.mk.injEq, List.cons.injEq, Value.bool.injEq, Value.slice.injEq, and_true] at e1
    obtain ⟨rfl, ⟨rfl, rfl, rfl⟩, rfl, ⟨rfl, rfl, rfl⟩⟩ := e1
    have z1 := L1.lt
    have z2 := L2.lt
    have z3 := L3.lt
    go_wp2_with fail
    have HV : Hid (val (dig (((x.den : Nat) : Int) * y.num).natAbs) ≠ 0) := by
      show _ ≠ _
      rw [val_dig, Int.natAbs_mul]
      have h1 := x.den_nz
      have h2 : y.num ≠ 0 := fun h => hy (Rat.num_eq_zero.1 h)
      exact Nat.mul_ne_zero (by omega) (by omega)
    clear hy
    have HN := Lib.hid (len_mulI HX.out.1 HY.out.2)
    have HD := Lib.hid (len_mulI HX.out.2 HY.out.1)
    go_region_held3 (fun W => ((W.cell? ⟨w.heap.size, 0, none⟩ = some (.bool n1) ∧ W.cell? ⟨w.heap.size, 1, none⟩ = some (.slice A m c)) ∧ W.cell? ⟨w.heap.size, 2, none⟩ = some (.bool n2) ∧ W.cell? ⟨w.heap.size, 3, none⟩ = some (.slice B m' d)) ∧ (W.cell? ⟨w.heap.size + 1, 0, none⟩ = some (.bool o1) ∧ W.cell? ⟨w.heap.size + 1, 1, none⟩ = some (.slice C p e)) ∧ W.cell? ⟨w.heap.size + 1, 2, none⟩ = some (.bool o2) ∧ W.cell? ⟨w.heap.size + 1, 3, none⟩ = some (.slice D p' f))
      (exact ⟨⟨⟨Loc.c 0 L1, Loc.c 1 L1⟩, Loc.c 2 L1, Loc.c 3 L1⟩, ⟨Loc.c 0 L2, Loc.c 1 L2⟩, Loc.c 2 L2, Loc.c 3 L2⟩)
      (first
        | (go_at_call_of 80 (Value.agg #[Value.bool n1, Value.slice A m c]); refine (mul_any _ (fun _ => False) _ _ _ _ _ _ i1.to j2.to (Nat.le_trans HX.out.1 (by omega)) (Nat.le_trans HY.out.2 (by omega))).mono ?_; rintro e u1 ⟨w1, rfl, k1, hb1⟩; rw [sv_dig, sv_dig] at k1; obtain ⟨bw1, Aw1, mw1, kw1, rfl, k1⟩ := k1.op; have yu1 := hb1.size; (try simp only [World.size_alloc, size_set, size_drew, size_drewN] at yu1))
        | (go_at_call_of 80 (Value.agg #[Value.bool n2, Value.slice B m' d]); refine (mul_any _ (fun _ => False) _ _ _ _ _ _ i2.to j1.to (Nat.le_trans HX.out.2 (by omega)) (Nat.le_trans HY.out.1 (by omega))).mono ?_; rintro e u2 ⟨w2, rfl, k2, hb2⟩; rw [sv_dig, sv_dig] at k2; obtain ⟨bw2, Aw2, mw2, kw2, rfl, k2⟩ := k2.op; have yu2 := hb2.size; (try simp only [World.size_alloc, size_set, size_drew, size_drewN] at yu2))
        | (go_at_call 15; refine (new_any _ (fun _ => False) _ _ _ _ _ _ k1.to k2.to HV.out (Nat.le_trans HN.out (by omega)) (Nat.le_trans HD.out (by omega))).mono ?_; rintro e u3 ⟨v6, rfl, h6, hb6⟩; rw [sv_dig, sv_dig, rat_div] at h6; obtain ⟨b6, A6, m6, k6, b6', A6', m6', k6', rfl, h6, -, -⟩ := h6.op; have y6 := hb6.size; (try simp only [World.size_alloc, size_set, size_drew, size_drewN] at y6); obtain ⟨e5, g5, -⟩ := Loc.all L3 (w' := u3)))
    all_goals
      go_wp2_with fail
      refine bodyPost_ret (by simp [results, Try.results40, go_sem, e5, g5] <;> rfl) rfl ⟨_, rfl, h6.out, bel⟩

set_option maxHeartbeats 4000000 in
theorem ratcompare_any (w : World) (X : Nat → Prop) (v1 v2 : Value) (x y : Rat) (h1 : RatL 10000000 w X v1 x) (h2 : RatL 10000000 w X v2 y) :
    Calls Try.prog 30 #[v1, v2] w fun e w' => e = .returned (.int .i64 (rcmp x y)) ∧ Below w.heap.size w w' := by
  have HX := Lib.hid (h1.rsz (by omega))
  have HY := Lib.hid (h2.rsz (by omega))
  obtain ⟨n1, A, m, c, n2, B, m', d, rfl, h1, -⟩ := h1.op
  obtain ⟨o1, C, p, e, o2, D, p', f, rfl, h2, -⟩ := h2.op
  go_enter Try.func30, Try.ntmps30
  go_upto_region 2 with fail
  go_cut [0] (fun _ W => ∃ (n1 : Bool) (A : Option Addr) (m c : Nat) (n2 : Bool) (B : Option Addr) (m' d : Nat) (o1 : Bool) (C : Option Addr) (p e : Nat) (o2 : Bool) (D : Option Addr) (p' f : Nat),
      Loc W w.heap.size 27 #[.bool n1, .slice A m c, .bool n2, .slice B m' d] ∧ Loc W (w.heap.size + 1) 27 #[.bool o1, .slice C p e, .bool o2, .slice D p' f] ∧
      RatV W (fun b => w.heap.size ≤ b ∧ b < w.heap.size + 2) (.agg #[.bool n1, .slice A m c, .bool n2, .slice B m' d]) x ∧ RatV W (fun b => w.heap.size ≤ b ∧ b < w.heap.size + 2) (.agg #[.bool o1, .slice C p e, .bool o2, .slice D p' f]) y ∧ Below w.heap.size w W)
  case first =>
    have N1 := made1 w #[.bool n1, .slice A m c, .bool n2, .slice B m' d] 27
    have N2 := made2 w (.cells #[.bool n1, .slice A m c, .bool n2, .slice B m' d] 27) #[.bool o1, .slice C p e, .bool o2, .slice D p' f] 27
    go_wp2_with fail
    obtain ⟨c5, f5, -⟩ := N1.all (w' := ((w.alloc (.cells #[.bool n1, .slice A m c, .bool n2, .slice B m' d] 27)).alloc (.cells #[.bool o1, .slice C p e, .bool o2, .slice D p' f] 27)).drew)
    obtain ⟨c6, f6, -⟩ := N2.all (w' := ((w.alloc (.cells #[.bool n1, .slice A m c, .bool n2, .slice B m' d] 27)).alloc (.cells #[.bool o1, .slice C p e, .bool o2, .slice D p' f] 27)).drew)
    go_region_with (first
      | (go_at_call_of 35 (Value.agg #[Value.bool n1, Value.slice A m c, Value.bool n2, Value.slice B m' d]); refine (clean_rat _ (fun _ => False) _ x (h1.mono (by omega)).to).mono ?_; rintro e u1 ⟨v5, rfl, h5, hb5⟩; obtain ⟨b5, A5, m5, k5, b5', A5', m5', k5', rfl, h5, -, -⟩ := h5.op; have y5 := hb5.size; (try simp only [World.size_alloc, size_set, size_drew, size_drewN] at y5); obtain ⟨c6, f6, -⟩ := N2.all (w' := u1))
      | (go_at_call_of 35 (Value.agg #[Value.bool o1, Value.slice C p e, Value.bool o2, Value.slice D p' f]); refine (clean_rat _ (fun _ => False) _ y (h2.mono (by omega)).to).mono ?_; rintro e u2 ⟨v6, rfl, h6, hb6⟩; obtain ⟨b6, A6, m6, k6, b6', A6', m6', k6', rfl, h6, -, -⟩ := h6.op; have y6 := hb6.size; (try simp only [World.size_alloc, size_set, size_drew, size_drewN] at y6); obtain ⟨c7, f7, -⟩ := N1.all (w' := u2); obtain ⟨c8, f8, -⟩ := N2.all (w' := u2)))
    all_goals
      go_wp2_with fail
      go_meet
      have L1 := N1.to (w' := u2)
      have L2 := N2.to (w' := u2)
      have e12 : w.heap.size ≠ w.heap.size + 1 := by omega
      have e21 : w.heap.size + 1 ≠ w.heap.size := by omega
      exact ⟨_, _, _, _, _, _, _, _, _, _, _, _, _, _, _, _, (by first | with_reducible exact Loc.two4_first e12 L1 | with_reducible exact Loc.two4_last e12 L1), (by first | with_reducible exact Loc.two4_first e21 L2 | with_reducible exact Loc.two4_last e21 L2), RatV.out h5, RatV.out h6, bel⟩
  case rest =>
    clear h1 h2
    obtain ⟨n1, A, m, c, n2, B, m', d, o1, C, p, e, o2, D, p', f, L1, L2, h1, h2, hB⟩ := hcut
    obtain ⟨_, _, _, _, _, _, _, _, e1, h1, i1, i2⟩ := h1.op
    simp only [Value.agg.injEq, Array.mk.injEq, List.cons.injEq, Value.bool.injEq, Value.slice.injEq, and_true] at e1
    obtain ⟨rfl, ⟨rfl, rfl, rfl⟩, rfl, ⟨rfl, rfl, rfl⟩⟩ := e1
    obtain ⟨_, _, _, _, _, _, _, _, e1, h2, j1, j2⟩ := h2.op
    simp only [Value.agg.injEq, Array.mk.injEq, List.cons.injEq, Value.bool.injEq, Value.slice.injEq, and_true] at e1
    obtain ⟨rfl, ⟨rfl, rfl, rfl⟩, rfl, ⟨rfl, rfl, rfl⟩⟩ := e1
    have z1 := L1.lt
    have z2 := L2.lt

    go_wp2_with fail
    have HC : Hid ((x.num * (y.den : Int) - y.num * (x.den : Int)).sign = rcmp x y) := rat_cmp x y
    go_region_held3 (fun W => ((W.cell? ⟨w.heap.size, 0, none⟩ = some (.bool n1) ∧ W.cell? ⟨w.heap.size, 1, none⟩ = some (.slice A m c)) ∧ W.cell? ⟨w.heap.size, 2, none⟩ = some (.bool n2) ∧ W.cell? ⟨w.heap.size, 3, none⟩ = some (.slice B m' d)) ∧ (W.cell? ⟨w.heap.size + 1, 0, none⟩ = some (.bool o1) ∧ W.cell? ⟨w.heap.size + 1, 1, none⟩ = some (.slice C p e)) ∧ W.cell? ⟨w.heap.size + 1, 2, none⟩ = some (.bool o2) ∧ W.cell? ⟨w.heap.size + 1, 3, none⟩ = some (.slice D p' f))
      (exact ⟨⟨⟨Loc.c 0 L1, Loc.c 1 L1⟩, Loc.c 2 L1, Loc.c 3 L1⟩, ⟨Loc.c 0 L2, Loc.c 1 L2⟩, Loc.c 2 L2, Loc.c 3 L2⟩)
      (first
        | (go_at_call_of 80 (Value.agg #[Value.bool n1, Value.slice A m c]); refine (mul_any _ (fun _ => False) _ _ _ _ _ _ i1.to j2.to (Nat.le_trans HX.out.1 (by omega)) (Nat.le_trans HY.out.2 (by omega))).mono ?_; rintro e u1 ⟨w1, rfl, k1, hb1⟩; rw [sv_dig, sv_dig] at k1; obtain ⟨bw1, Aw1, mw1, kw1, rfl, k1⟩ := k1.op; have yu1 := hb1.size; (try simp only [World.size_alloc, size_set, size_drew, size_drewN] at yu1))
        | (go_at_call_of 80 (Value.agg #[Value.bool o1, Value.slice C p e]); refine (mul_any _ (fun _ => False) _ _ _ _ _ _ j1.to i2.to (Nat.le_trans HY.out.1 (by omega)) (Nat.le_trans HX.out.2 (by omega))).mono ?_; rintro e u2 ⟨w2, rfl, k2, hb2⟩; rw [sv_dig, sv_dig] at k2; obtain ⟨bw2, Aw2, mw2, kw2, rfl, k2⟩ := k2.op; have yu2 := hb2.size; (try simp only [World.size_alloc, size_set, size_drew, size_drewN] at yu2))
        | (go_at_call 70; refine (icompare_any _ (fun _ => False) _ _ _ _ _ _ k1.to k2.to).mono ?_; rintro e u3 ⟨he, hb6⟩; rw [sv_dig, sv_dig, HC.out] at he; subst he; have y6 := hb6.size; (try simp only [World.size_alloc, size_set, size_drew, size_drewN] at y6)))
    all_goals
      go_wp2_with fail
      go_ret
      exact ⟨rfl, bel⟩
end Go.Proofs.Ytooheapikhdllaa

/- few of the laws on fractions. -/
namespace Go.Proofs.Ytooheapikhdllaa
open Go.RowKit
attribute [local go_sem ↓] Go.wp_at_zero Go.wp_at_succ

set_option maxHeartbeats 1000000 in
theorem few_any (w : World) (X : Nat → Prop) (v : Value) (n1 n2 : Bool) (xs ys : List Nat) (h : RatR w X v n1 xs n2 ys) :
    Calls Try.prog 20 #[v] w fun e w' => e = .returned (.bool (decide (xs.length ≤ 4 ∧ ys.length ≤ 4))) ∧ Below w.heap.size w w' := by
  obtain ⟨A, c, B, d, rfl, -, -⟩ := h
  obtain ⟨r, hr⟩ : ∃ r, decide (xs.length ≤ 4 ∧ ys.length ≤ 4) = r := ⟨_, rfl⟩
  rw [hr]
  have HR := Lib.hid hr
  clear hr
  by_cases hx : xs.length ≤ 4
  · go_enter Try.func20, Try.ntmps20
    go_wp2_with fail
    go_ret
    exact ⟨ret_eq (bool_eq (by rw [← HR.out, decide_eq_decide]; omega)), bel⟩
  · go_enter Try.func20, Try.ntmps20
    go_wp2_with fail
    go_ret
    exact ⟨ret_eq (bool_eq (by rw [← HR.out]; symm; rw [decide_eq_false_iff_not]; omega)), bel⟩
/-- A fraction of few words, as the contracts want it. -/
theorem RatR.few {w : World} {X : Nat → Prop} {v : Value} {n1 n2 : Bool} {xs ys : List Nat} (h : RatR w X v n1 xs n2 ys) (hf : xs.length ≤ 4 ∧ ys.length ≤ 4) : RatL 4 w X v (rv n1 xs n2 ys) := ⟨_, _, _, _, h, hf.1, hf.2, rfl⟩
end Go.Proofs.Ytooheapikhdllaa

/- Arguments opened: an api.Rat, an api.Frac, out of the form's reading. -/
namespace Go.Proofs.Ytooheapikhdllaa
open Go.ChangeShapes Go.WideShapes Go.ChangeAt Go.RowKit Go.Joins
open Go.ChangeMaps (open_string shut_string)

theorem cellsRat : Try.prog.cellsOf 27 = 4 := by kernel_rfl
theorem cellsBool : Try.prog.cellsOf 4 = 1 := by kernel_rfl
theorem cellsWords : Try.prog.cellsOf 22 = 1 := by kernel_rfl

theorem open_IntC {H : Type} {enc : TypeId × Value → H} {W : World} {base fuel : Nat} {c0 c1 : Value} {x : DataW H × List MemPlace}
    (h : DataW.trod enc Try.prog W base (fun _ => true) true fuel 24 [c0, c1] = some x) : ∃ b A c zs, IntR W (fun _ => False) (.agg #[c0, c1]) b zs ∧ c0 = .bool b ∧ c1 = .slice A zs.length c := by
  obtain ⟨xs, n, _, _, _, hlen, hg⟩ := DataW.trod_struct Try.underlying24 h
  match xs, hlen with
  | [y0, y1], _ =>
    have g0 : DataW.trod enc Try.prog W base (fun _ => true) true n 4 (([c0, c1].drop 0).take (Try.prog.cellsOf 4)) = [y0, y1][0]? := hg 0 _ rfl
    have g1 : DataW.trod enc Try.prog W base (fun _ => true) true n 22 (([c0, c1].drop 1).take (Try.prog.cellsOf 22)) = [y0, y1][1]? := hg 1 _ rfl
    rw [cellsBool] at g0
    rw [cellsWords] at g1
    have h0 : DataW.trod enc Try.prog W base (fun _ => true) true n 4 [c0] = some y0 := g0
    have h1 : DataW.trod enc Try.prog W base (fun _ => true) true n 22 [c1] = some y1 := g1
    obtain ⟨b, e, _⟩ := DataW.trod_bool Try.underlying4 h0
    simp at e
    subst e
    obtain ⟨zs, hz⟩ := open_Words h1
    obtain ⟨A, c, rfl, _⟩ := hz.open_
    exact ⟨b, A, c, zs, ⟨_, rfl, hz⟩, rfl, rfl⟩

theorem open_Rat {H : Type} {enc : TypeId × Value → H} {W : World} {base : Nat} {r : Reach} {b0 : Nat} {v : Value} {d : DataW H} {p : List MemPlace}
    (hv : Value.okWide Try.prog W r b0 27 v) (h : DataW.Trod enc Try.prog W base (fun _ => true) true 27 v d p) : ∃ n1 xs n2 ys, RatR W (fun _ => False) v n1 xs n2 ys := by
  obtain ⟨cs, rfl, hsz⟩ := okWide_struct Try.underlying27 hv
  obtain ⟨l⟩ := cs
  match l, hsz.trans cellsRat with
  | [c0, c1, c2, c3], _ =>
    obtain ⟨fuel, hf⟩ := h
    obtain ⟨xs, n, _, _, _, hlen, hg⟩ := DataW.trod_struct Try.underlying27 hf
    match xs, hlen with
    | [y0, y1], _ =>
      have g0 : DataW.trod enc Try.prog W base (fun _ => true) true n 24 (([c0, c1, c2, c3].drop 0).take (Try.prog.cellsOf 24)) = [y0, y1][0]? := hg 0 _ rfl
      have g1 : DataW.trod enc Try.prog W base (fun _ => true) true n 24 (([c0, c1, c2, c3].drop 2).take (Try.prog.cellsOf 24)) = [y0, y1][1]? := hg 1 _ rfl
      rw [cellsInt] at g0 g1
      have h0 : DataW.trod enc Try.prog W base (fun _ => true) true n 24 [c0, c1] = some y0 := g0
      have h1 : DataW.trod enc Try.prog W base (fun _ => true) true n 24 [c2, c3] = some y1 := g1
      obtain ⟨b, A, c, zs, i1, rfl, rfl⟩ := open_IntC h0
      obtain ⟨b', A', c', us, i2, rfl, rfl⟩ := open_IntC h1
      exact ⟨b, zs, b', us, A, c, A', c', rfl, i1, i2⟩
end Go.Proofs.Ytooheapikhdllaa

/- RationalNew, RationalOf: the laws' walks. -/
namespace Go.Proofs.Ytooheapikhdllaa
open Go.RowKit
attribute [local go_sem ↓] Go.wp_at_zero Go.wp_at_succ

theorem RatR.zero (w : World) (X : Nat → Prop) : RatR w X (.agg #[.bool false, .slice none 0 0, .bool false, .slice none 0 0]) false [] false [] :=
  ⟨none, 0, none, 0, rfl, ⟨_, rfl, Words.nil _ _⟩, ⟨_, rfl, Words.nil _ _⟩⟩
theorem rsame_zero (w : World) :
    Calls Try.prog 17 #[.agg #[.bool false, .slice none 0 0, .bool false, .slice none 0 0], .agg #[.bool false, .slice none 0 0, .bool false, .slice none 0 0]] w fun e w' => e = .returned (.bool true) ∧ Below w.heap.size w w' :=
  (rsame_any w (fun _ => False) _ _ _ _ _ _ _ _ _ _ (RatR.zero _ _) (RatR.zero _ _)).mono fun e w' h => h
theorem rsame_VV (w : World) (X Y : Nat → Prop) (v1 v2 : Value) (x y : Rat) (h1 : RatV w X v1 x) (h2 : RatV w Y v2 y) (e : x = y) :
    Calls Try.prog 17 #[v1, v2] w fun e w' => e = .returned (.bool true) ∧ Below w.heap.size w w' :=
  (rsame_V w X Y v1 v2 x y h1 h2).mono fun e' w' h => by rw [decide_eq_true e] at h; exact h

set_option maxHeartbeats 4000000 in
theorem new_walk (w : World) (v1 v2 : Value) (n1 n2 : Bool) (xs ys : List Nat) (h1 : IntR w (fun _ => False) v1 n1 xs) (h2 : IntR w (fun _ => False) v2 n2 ys) :
    Calls Try.prog 3 #[v1, v2] w fun e w' => e = .returned (.bool true) ∧ Below w.heap.size w w' := by
  obtain ⟨A, c, rfl, h1⟩ := h1.op
  obtain ⟨B, d, rfl, h2⟩ := h2.op
  have L1 := made1 w #[.bool n1, .slice A xs.length c] 24
  have L2 := made2 w (.cells #[.bool n1, .slice A xs.length c] 24) #[.bool n2, .slice B ys.length d] 24
  go_enter Try.func3, Try.ntmps3
  go_wp2_with fail
  refine (rknown_any _).mono ?_
  rintro e w1 ⟨rfl, hb1⟩
  obtain ⟨z1, z2⟩ := sz2 hb1
  obtain ⟨e1, f1, l1⟩ := L1.all (w' := w1)
  obtain ⟨e2, f2, l2⟩ := L2.all (w' := w1)
  by_cases hx : 4 < xs.length
  · go_wp2_with fail
    go_ret
    exact ⟨rfl, bel⟩
  · by_cases hy : 4 < ys.length
    · go_wp2_with fail
      go_ret
      exact ⟨rfl, bel⟩
    · by_cases hz : val ys = 0
      · have HZ := Lib.hid hz
        clear hz
        go_wp2_with fail
        refine (new_zero _ (fun _ => False) _ _ n1 n2 xs ys h1.to h2.to HZ.out).mono ?_
        rintro e w2 ⟨rfl, hb2⟩
        have y2 := hb2.size; (try simp only [World.size_alloc, size_set, size_drew, size_drewN] at y2)
        clear e1 f1 e2 f2
        obtain ⟨e1, f1, l1⟩ := L1.all (w' := w2)
        obtain ⟨e2, f2, l2⟩ := L2.all (w' := w2)
        have M1 := made1 w2 #[.bool false, .slice none 0 0, .bool false, .slice none 0 0] 27
        go_wp2_with fail
        refine (rnew_zero _ (fun _ => False) _ _ n1 n2 xs ys h1.to h2.to HZ.out (by omega) (by omega)).mono ?_
        rintro e w3 ⟨rfl, hb3⟩
        have y3 := hb3.size; (try simp only [World.size_alloc, size_set, size_drew, size_drewN] at y3)
        clear e1 f1 e2 f2
        obtain ⟨e3, f3, l3⟩ := M1.all (w' := w3)
        go_wp2_with fail
        refine (rsame_zero _).mono ?_
        rintro e w4 ⟨rfl, hb4⟩
        have y4 := hb4.size; (try simp only [World.size_alloc, size_set, size_drew, size_drewN] at y4)
        go_wp2_with fail
        go_ret
        exact ⟨rfl, bel⟩
      · have HZ := Lib.hid hz
        clear hz
        go_wp2_with fail
        refine (new_any _ (fun _ => False) _ _ n1 n2 xs ys h1.to h2.to HZ.out (by omega) (by omega)).mono ?_
        rintro e w2 ⟨v3, rfl, h3, hb2⟩
        obtain ⟨b3, A3, m3, c3, b3', A3', m3', c3', rfl, h3, -, -⟩ := h3.op
        have y2 := hb2.size; (try simp only [World.size_alloc, size_set, size_drew, size_drewN] at y2)
        clear e1 f1 e2 f2
        obtain ⟨e1, f1, l1⟩ := L1.all (w' := w2)
        obtain ⟨e2, f2, l2⟩ := L2.all (w' := w2)
        have M1 := made1 w2 #[.bool b3, .slice A3 m3 c3, .bool b3', .slice A3' m3' c3'] 27
        go_wp2_with fail
        refine (rnew_any _ (fun _ => False) _ _ n1 n2 xs ys h1.to h2.to HZ.out (by omega) (by omega)).mono ?_
        rintro e w3 ⟨v4, rfl, h4, hb3⟩
        obtain ⟨b4, A4, m4, c4, b4', A4', m4', c4', rfl, h4, -, -⟩ := h4.op
        have y3 := hb3.size; (try simp only [World.size_alloc, size_set, size_drew, size_drewN] at y3)
        clear e1 f1 e2 f2
        obtain ⟨e3, f3, l3⟩ := M1.all (w' := w3)
        go_wp2_with fail
        refine (rsame_VV _ (fun _ => False) (fun _ => False) _ _ _ _ (RatV.to h3) (RatV.to h4) rfl).mono ?_
        rintro e w4 ⟨rfl, hb4⟩
        have y4 := hb4.size; (try simp only [World.size_alloc, size_set, size_drew, size_drewN] at y4)
        go_wp2_with fail
        go_ret
        exact ⟨rfl, bel⟩

set_option maxHeartbeats 4000000 in
theorem of_walk (w : World) (n d : Int) (h0 : -9223372036854775808 ≤ n) (h1 : n ≤ 9223372036854775807) (h2 : -9223372036854775808 ≤ d) (h3 : d ≤ 9223372036854775807) :
    Calls Try.prog 4 #[.int .i64 n, .int .i64 d] w fun e w' => e = .returned (.bool true) ∧ Below w.heap.size w w' := by
  have H0 := Lib.hid h0
  have H1 := Lib.hid h1
  have H2 := Lib.hid h2
  have H3 := Lib.hid h3
  by_cases hd : d = 0
  · subst hd
    clear h0 h1 h2 h3
    go_enter Try.func4, Try.ntmps4
    go_wp2_with fail
    refine (rknown_any _).mono ?_
    rintro e w1 ⟨rfl, hb1⟩
    have y1 := hb1.size; (try simp only [World.size_alloc, size_set, size_drew, size_drewN] at y1)
    go_wp2_with fail
    refine (ratof_zero _ n H0.out H1.out).mono ?_
    rintro e w2 ⟨rfl, hb2⟩
    have y2 := hb2.size; (try simp only [World.size_alloc, size_set, size_drew, size_drewN] at y2)
    have M1 := made1 w2 #[.bool false, .slice none 0 0, .bool false, .slice none 0 0] 27
    go_wp2_with fail
    refine (rratof_zero _ n H0.out H1.out).mono ?_
    rintro e w3 ⟨rfl, hb3⟩
    have y3 := hb3.size; (try simp only [World.size_alloc, size_set, size_drew, size_drewN] at y3)
    obtain ⟨e3, f3, l3⟩ := M1.all (w' := w3)
    go_wp2_with fail
    refine (rsame_zero _).mono ?_
    rintro e w4 ⟨rfl, hb4⟩
    have y4 := hb4.size; (try simp only [World.size_alloc, size_set, size_drew, size_drewN] at y4)
    go_wp2_with fail
    go_ret
    exact ⟨rfl, bel⟩
  · have HD := Lib.hid hd
    clear hd h0 h1 h2 h3
    go_enter Try.func4, Try.ntmps4
    go_wp2_with fail
    refine (rknown_any _).mono ?_
    rintro e w1 ⟨rfl, hb1⟩
    have y1 := hb1.size; (try simp only [World.size_alloc, size_set, size_drew, size_drewN] at y1)
    go_wp2_with fail
    refine (ratof_any _ n d HD.out H0.out H1.out H2.out H3.out).mono ?_
    rintro e w2 ⟨v3, rfl, h3, hb2⟩
    obtain ⟨b3, A3, m3, c3, b3', A3', m3', c3', rfl, h3, -, -⟩ := h3.op
    have y2 := hb2.size; (try simp only [World.size_alloc, size_set, size_drew, size_drewN] at y2)
    have M1 := made1 w2 #[.bool b3, .slice A3 m3 c3, .bool b3', .slice A3' m3' c3'] 27
    go_wp2_with fail
    refine (rratof_any _ n d HD.out H0.out H1.out H2.out H3.out).mono ?_
    rintro e w3 ⟨v4, rfl, h4, hb3⟩
    obtain ⟨b4, A4, m4, c4, b4', A4', m4', c4', rfl, h4, -, -⟩ := h4.op
    have y3 := hb3.size; (try simp only [World.size_alloc, size_set, size_drew, size_drewN] at y3)
    obtain ⟨e3, f3, l3⟩ := M1.all (w' := w3)
    go_wp2_with fail
    refine (rsame_VV _ (fun _ => False) (fun _ => False) _ _ _ _ (RatV.to h3) (RatV.to h4) rfl).mono ?_
    rintro e w4 ⟨rfl, hb4⟩
    have y4 := hb4.size; (try simp only [World.size_alloc, size_set, size_drew, size_drewN] at y4)
    go_wp2_with fail
    go_ret
    exact ⟨rfl, bel⟩
end Go.Proofs.Ytooheapikhdllaa

