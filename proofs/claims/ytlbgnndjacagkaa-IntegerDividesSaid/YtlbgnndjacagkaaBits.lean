/- math/bits: Sub32, Add32, Div32. -/
import Derived.Test.YtlbgnndjacagkaaRows
import Derived.Test.YtlbgnndjacagkaaBase
import Derived.Laws.BitsAllLaws
import Derived.Deep.QuietTactic
import Derived.BigQuiet
namespace Go.Proofs.Ytlbgnndjacagkaa
open Go.RowKit

/-- The borrow of x - y - b. -/
def bor (x y b : Nat) : Nat := if x < y + b then 1 else 0
theorem bor_le (x y b : Nat) : bor x y b ≤ 1 := by unfold bor; split <;> omega
/-- The word of x - y - b. -/
def dif (x y b : Nat) : Nat := (x + 4294967296 - y - b) % 4294967296
theorem dif_lt (x y b : Nat) : dif x y b < 4294967296 := by unfold dif; omega
theorem dif_bor (x y b : Nat) (hx : x < 4294967296) (hy : y < 4294967296) (hb : b ≤ 1) : dif x y b + y + b = x + 4294967296 * bor x y b := by
  unfold dif bor
  split <;> omega

theorem top_bit (n : Nat) (h : n < 4294967296) : n / 2147483648 = if n.testBit 31 then 1 else 0 := by
  rw [Nat.testBit_eq_decide_div_mod_eq]
  by_cases h1 : n / 2 ^ 31 % 2 = 1
  · simp only [h1, decide_true, if_true]; omega
  · simp only [h1, decide_false]; simp; omega

theorem test_top (n : Nat) (h : n < 4294967296) : n.testBit 31 = decide (2147483648 ≤ n) := by
  rw [Nat.testBit_eq_decide_div_mod_eq]
  congr 1
  simp only [eq_iff_iff]
  constructor <;> intro _ <;> omega

theorem sub32_bits (x y b : Nat) (hx : x < 4294967296) (hy : y < 4294967296) (hb : b ≤ 1) :
    bits BinOp.or IntKind.u32 (bits BinOp.and IntKind.u32 (bits BinOp.xor IntKind.u32 IntKind.u32.max (x : Int)) (y : Int))
      (bits BinOp.and IntKind.u32 (bits BinOp.xor IntKind.u32 IntKind.u32.max (bits BinOp.xor IntKind.u32 (x : Int) (y : Int))) (((x : Int) - (y : Int) - (b : Int)) % 4294967296)) / 2147483648 = ((bor x y b : Nat) : Int) := by
  have hm : IntKind.u32.max = ((4294967295 : Nat) : Int) := by decide
  have hd : ((x : Int) - (y : Int) - (b : Int)) % 4294967296 = ((dif x y b : Nat) : Int) := by unfold dif; omega
  have hdl := dif_lt x y b
  have x1 : x ^^^ y < 4294967296 := Nat.xor_lt_two_pow (n := 32) hx hy
  have x2 : 4294967295 ^^^ (x ^^^ y) < 4294967296 := Nat.xor_lt_two_pow (n := 32) (by omega) x1
  have x3 : 4294967295 ^^^ x < 4294967296 := Nat.xor_lt_two_pow (n := 32) (by omega) hx
  have x4 : (4294967295 ^^^ x) &&& y < 4294967296 := Nat.and_lt_two_pow (n := 32) _ hy
  have x5 : (4294967295 ^^^ (x ^^^ y)) &&& dif x y b < 4294967296 := Nat.and_lt_two_pow (n := 32) _ hdl
  have x6 : ((4294967295 ^^^ x) &&& y) ||| ((4294967295 ^^^ (x ^^^ y)) &&& dif x y b) < 4294967296 := Nat.or_lt_two_pow (n := 32) x4 x5
  rw [hm, hd, u32_xor_nat _ _ (by omega) hx, u32_and_nat _ _ x3 hy, u32_xor_nat _ _ hx hy, u32_xor_nat _ _ (by omega) x1, u32_and_nat _ _ x2 hdl, u32_or_nat _ _ x4 x5]
  have key : (((4294967295 ^^^ x) &&& y) ||| ((4294967295 ^^^ (x ^^^ y)) &&& dif x y b)) / 2147483648 = bor x y b := by
    rw [top_bit _ x6, Nat.testBit_or, Nat.testBit_and, Nat.testBit_and, Nat.testBit_xor, Nat.testBit_xor, Nat.testBit_xor, test_top x hx, test_top y hy, test_top _ hdl, test_top 4294967295 (by omega)]
    unfold dif bor
    by_cases h1 : 2147483648 ≤ x <;> by_cases h2 : 2147483648 ≤ y <;> by_cases h3 : 2147483648 ≤ (x + 4294967296 - y - b) % 4294967296 <;> by_cases h4 : x < y + b <;> simp [h1, h2, h3, h4] <;> omega
  rw [← key]
  omega

set_option maxHeartbeats 400000 in
theorem sub32_any (w : World) (x y b : Nat) (hx : x < 4294967296) (hy : y < 4294967296) (hb : b ≤ 1) :
    Calls Try.prog 71 #[.int .u32 x, .int .u32 y, .int .u32 b] w fun e w' => e = .returned (.tuple #[.int .u32 (dif x y b : Nat), .int .u32 (bor x y b : Nat)]) ∧ w = w' := by
  have h := sub32_bits x y b hx hy hb
  have hd : ((x : Int) - (y : Int) - (b : Int)) % 4294967296 = ((dif x y b : Nat) : Int) := by unfold dif; omega
  have H := Lib.hid h
  have HD := Lib.hid hd
  clear h hd
  go_enter Try.func71, Try.ntmps71
  go_wp2
  go_ret2
  refine ⟨?_, rfl⟩
  rw [← H.out, ← HD.out]
  rfl

set_option maxHeartbeats 400000 in
theorem add32_any (w : World) (x y b : Nat) (hx : x < 4294967296) (hy : y < 4294967296) (hb : b ≤ 1) :
    Calls Try.prog 77 #[.int .u32 x, .int .u32 y, .int .u32 b] w fun e w' => e = .returned (.tuple #[.int .u32 (((x + y + b) % 4294967296 : Nat) : Int), .int .u32 (((x + y + b) / 4294967296 : Nat) : Int)]) ∧ w = w' := by
  go_enter Try.func77, Try.ntmps77
  go_wp2
  go_ret2
  exact ⟨ret_eq (by simp), rfl⟩

theorem div_lt_32 (hi lo y : Nat) (hx : hi < y) (hl : lo < 4294967296) : (hi * 4294967296 + lo) / y < 4294967296 := by
  rw [Nat.div_lt_iff_lt_mul (by omega)]
  have : (hi + 1) * 4294967296 ≤ y * 4294967296 := Nat.mul_le_mul_right _ hx
  rw [Nat.mul_comm 4294967296]
  omega

theorem join_u64 (hi lo : Nat) (hx : hi < 4294967296) (hl : lo < 4294967296) : bits BinOp.or IntKind.u64 ((hi : Int) * 4294967296) (lo : Int) = ((hi * 4294967296 + lo : Nat) : Int) := by
  have h := bits_join .u64 64 (by decide) (fun n h0 h1 => by rw [IntKind.wrap_u64]; omega) 32 ((hi : Int) * 4294967296) (lo : Int) (by omega) (by omega) (by omega) (by omega) (by omega) (by omega)
  rw [h]; omega

set_option maxHeartbeats 400000 in
theorem div32_any (w : World) (hi lo y : Nat) (hx : hi < y) (hl : lo < 4294967296) (hy : y < 4294967296) :
    Calls Try.prog 70 #[.int .u32 hi, .int .u32 lo, .int .u32 y] w fun e w' => e = .returned (.tuple #[.int .u32 (((hi * 4294967296 + lo) / y : Nat) : Int), .int .u32 (((hi * 4294967296 + lo) % y : Nat) : Int)]) ∧ ∃ n, w' = w.drewN n := by
  have h1 : ((y : Int) != 0) = true := by rw [bne_iff_ne]; omega
  have h2 : decide ((y : Int) ≤ (hi : Int)) = false := by simp; omega
  have h3 : ¬ ((y : Int) ≤ (hi : Int)) := by omega
  have q1 := div_lt_32 hi lo y hx hl
  have r1 : (hi * 4294967296 + lo) % y < 4294967296 := Nat.lt_trans (Nat.mod_lt _ (by omega)) hy
  have hz := join_u64 hi lo (by omega) hl
  generalize hi * 4294967296 + lo = Z at hz q1 r1 ⊢
  have q2 : (Z : Int) / (y : Int) < 4294967296 := by rw [← Int.natCast_ediv]; omega
  have r2 : (Z : Int) % (y : Int) < 4294967296 := by rw [← Int.natCast_emod]; omega
  have q0 : 0 ≤ (Z : Int) / (y : Int) := Int.ediv_nonneg (by omega) (by omega)
  have r0 : 0 ≤ (Z : Int) % (y : Int) := Int.emod_nonneg _ (by omega)
  have y1 : (1 : Int) ≤ (y : Int) := by omega
  go_enter Try.func70, Try.ntmps70
  go_wp2
  go_quiet (fail)
  go_wp2
  go_ret2
  exact ⟨ret_eq (by simp), _, rfl⟩
end Go.Proofs.Ytlbgnndjacagkaa
