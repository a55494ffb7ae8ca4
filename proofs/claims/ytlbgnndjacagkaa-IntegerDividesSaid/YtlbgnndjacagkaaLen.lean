/- math/bits: Len32 and LeadingZeros32. -/
import Derived.Test.YtlbgnndjacagkaaRows
import Derived.Test.YtlbgnndjacagkaaBase
import Derived.Lib.BitFns
import Derived.Lib.Walk
namespace Go.Proofs.Ytlbgnndjacagkaa
open Go.RowKit

theorem tab_size : Lib.len8tab.size = 256 := by decide +kernel
theorem tab_fin : ∀ i : Fin 256, (Lib.len8tab[i.val]'(by rw [tab_size]; exact i.isLt)).toNat = Lib.bitLen i.val := by decide +kernel
theorem tab_len (b : Int) (h0 : 0 ≤ b) (h1 : b < 256) (h : b.toNat < Lib.len8tab.size) : wrap64 ((Lib.len8tab[b.toNat]'h).toNat : Int) = (Lib.bitLen b.toNat : Int) ∧ Lib.bitLen b.toNat ≤ 8 := by
  have e := tab_fin ⟨b.toNat, by omega⟩
  have l := Lib.bitLen_le8' b h0 (by omega)
  simp only at e
  rw [e]
  exact ⟨IntWalk.wrap64_in _ (by omega), l⟩

set_option maxRecDepth 100000 in
set_option maxHeartbeats 1000000 in
theorem len32_any (w : World) (x : Int) (h0 : 0 ≤ x) (h1 : x ≤ 4294967295) :
    Calls Try.prog 52 #[.int .u32 x] w fun e w' => e = .returned (.int .i64 (Lib.bitLen x.toNat)) ∧ w = w' := by
  have hs := tab_size
  have s24 := fun h => Lib.bitLen_shift24 x.toNat h (by omega)
  have s16 := fun h => Lib.bitLen_shift16 x.toNat h (by omega)
  have s8 := fun h => Lib.bitLen_shift8 x.toNat h (by omega)
  have S24 := Lib.hid s24
  have S16 := Lib.hid s16
  have S8 := Lib.hid s8
  clear s24 s16 s8
  go_enter Try.func52, Try.ntmps52
  go_wp2
  all_goals (go_ret; refine ⟨congrArg Ending.returned (congrArg (Value.int IntKind.i64) ?_), rfl⟩)
  · have e : (x / 65536 / 256).toNat = x.toNat / 16777216 := by omega
    have l := tab_len (x / 65536 / 256) (by omega) (by omega) (by rw [tab_size]; omega)
    rw [l.1, IntWalk.wrap64_in _ (by omega), S24.out (by omega), e]
    omega
  · have e : (x / 65536).toNat = x.toNat / 65536 := by omega
    have l := tab_len (x / 65536) (by omega) (by omega) (by rw [tab_size]; omega)
    rw [l.1, IntWalk.wrap64_in _ (by omega), S16.out (by omega), e]
    omega
  · have e : (x / 256).toNat = x.toNat / 256 := by omega
    have l := tab_len (x / 256) (by omega) (by omega) (by rw [tab_size]; omega)
    rw [l.1, IntWalk.wrap64_in _ (by omega), S8.out (by omega), e]
    omega
  · have l := tab_len x (by omega) (by omega) (by rw [tab_size]; omega)
    rw [l.1, IntWalk.wrap64_in _ (by omega)]

set_option maxHeartbeats 1000000 in
theorem lead32_any (w : World) (x : Int) (h0 : 0 ≤ x) (h1 : x ≤ 4294967295) :
    Calls Try.prog 72 #[.int .u32 x] w fun e w' => e = .returned (.int .i64 ((32 - Lib.bitLen x.toNat : Nat) : Int)) ∧ w = w' := by
  have hb := Lib.bitLen_le x.toNat 32 (by omega) (by omega)
  go_enter Try.func72, Try.ntmps72
  go_wp2_with (go_at_call 52; refine (len32_any _ x h0 h1).mono ?_; rintro e w' ⟨rfl, rfl⟩)
  go_ret
  exact ⟨ret_eq (int_eq (by omega)), rfl⟩
end Go.Proofs.Ytlbgnndjacagkaa
