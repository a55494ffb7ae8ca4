/- left and right: a magnitude shifted by fewer than 32 bits, and back. -/
import Derived.Test.YtlbgnndjacagkaaRows
import Derived.Test.YtlbgnndjacagkaaRow
import Derived.Test.YtlbgnndjacagkaaBits
import Derived.Deep.DeepCutAuto
namespace Go.Proofs.Ytlbgnndjacagkaa
open Go.RowKit

theorem shl_parts (x P m h : Nat) (hx : x < 4294967296) (hm : 4294967296 = P * m) (hP : 0 < P) (hh : h < P) :
    (x * P) / 4294967296 < P ∧ (x * P) % 4294967296 % P = 0 ∧ h + (x * P) % 4294967296 < 4294967296 := by
  have h0 : (x * P) % 4294967296 % P = 0 := by rw [Nat.mod_mod_of_dvd _ ⟨m, hm⟩, Nat.mul_mod_left]
  refine ⟨?_, h0, ?_⟩
  · rw [Nat.div_lt_iff_lt_mul (by omega), Nat.mul_comm]
    exact Nat.mul_lt_mul_of_pos_left hx hP
  · have hlt := Nat.mod_lt (x * P) (show 4294967296 > 0 by omega)
    generalize (x * P) % 4294967296 = lo at *
    obtain ⟨q, rfl⟩ : ∃ q, lo = P * q := ⟨lo / P, by have := Nat.div_add_mod lo P; omega⟩
    rw [hm] at hlt
    have hq : q < m := Nat.lt_of_mul_lt_mul_left hlt
    have : P * (q + 1) ≤ P * m := Nat.mul_le_mul_left _ hq
    rw [Nat.mul_add, Nat.mul_one] at this
    omega
theorem or_low (h lo P s : Nat) (hP : P = 2 ^ s) (hh : h < P) (hl : lo % P = 0) (hb : h + lo < 4294967296) : bits BinOp.or IntKind.u32 (h : Int) (lo : Int) = ((h + lo : Nat) : Int) := by
  have e : (2 : Int) ^ s = ((P : Nat) : Int) := by rw [hP]; push_cast; rfl
  have := Go.bits_join_low .u32 32 (by decide) (fun n h0 h1 => by rw [IntKind.wrap_u32]; omega) s (h : Int) (lo : Int) (by omega) (by rw [e]; omega) (by omega) (by omega) (by rw [e]; omega) (by omega)
  rw [this]; push_cast; rfl
theorem left_step (zs xs : List Nat) (k P : Nat) (hk : k < xs.length) (hz : k + 1 < zs.length) (hv : val (zs.take (k + 1)) = val (xs.take k) * P) :
    val (((zs.set k (zs[k]'(by omega) + xs[k] * P % 4294967296)).set (k + 1) (xs[k] * P / 4294967296)).take (k + 2)) = val (xs.take (k + 1)) * P := by
  rw [val_take_set _ (k + 1) _ (by simpa using hz), val_take_set zs k _ (by omega), val_take_succ xs k hk]
  rw [val_take_succ zs k (by omega)] at hv
  rw [Nat.add_mul, ← hv, Nat.mul_add, Nat.pow_succ, Nat.mul_assoc (4294967296 ^ k) xs[k] P]
  have := Nat.div_add_mod (xs[k] * P) 4294967296
  generalize xs[k] * P / 4294967296 = q at *
  generalize xs[k] * P % 4294967296 = r at *
  rw [← this, Nat.mul_add, Nat.mul_assoc]
  omega

set_option maxHeartbeats 1000000 in
theorem left_any (w : World) (X : Nat → Prop) (va : Value) (xs : List Nat) (s : Nat) (ha : Words w X va xs) (hs : xs.length ≤ 1099511627776) (h32 : s < 32) :
    Calls Try.prog 73 #[va, .int .i64 s] w fun e w' => ∃ g zs, e = .returned (.slice (some ⟨g, 0, none⟩) (xs.length + 1) (xs.length + 1)) ∧ w.heap.size ≤ g ∧ Row w' g zs ∧ zs.length = xs.length + 1 ∧ Ws zs ∧ val zs = val xs * 2 ^ s ∧ Below w.heap.size w w' := by
  obtain ⟨A, c, rfl, hc, _, HA⟩ := ha.open_
  obtain ⟨P, hP⟩ : ∃ P, P = 2 ^ s := ⟨_, rfl⟩
  have hP1 : 0 < P := by rw [hP]; exact Nat.pow_pos (by omega)
  have hP2 : P ≤ 2147483648 := by rw [hP]; exact Nat.pow_le_pow_right (i := s) (j := 31) (by omega) (by omega)
  obtain ⟨m, hm⟩ : ∃ m, 4294967296 = P * m := ⟨2 ^ (32 - s), by rw [hP, ← Nat.pow_add, (by omega : s + (32 - s) = 32)]⟩
  have hPi : (2 : Int) ^ s = ((P : Nat) : Int) := by rw [hP]; push_cast; rfl
  rw [← hP]
  have HP := Lib.hid hP
  have HM := Lib.hid hm
  have HPI := Lib.hid hPi
  clear hP hm hPi
  go_enter Try.func73, Try.ntmps73
  go_wp2_with (at_make; refine wpList_makeN _ rfl _ _ rfl Try.underlying22 info_u32 rfl w.heap.size (xs.length + 1) rfl rfl (by go_num) (by go_num) (by omega) (by unfold maxLen; omega) (Nat.le_refl _) ?_)
  intro w1 hown hgrow
  have hb1 : Below w.heap.size w w1 := below_none (Below.refl _ _) hgrow (Nat.le_refl _)
  rw [nums_zeros] at hown
  have hrow := (Row.of_own hown).1
  clear hgrow hown
  go_wp2_with fail
  go_loopw [15] (fun i wr => ∃ (k : Nat) (zs : List Nat), k ≤ xs.length ∧ i = .int .i64 k ∧ zs.length = xs.length + 1 ∧ Row wr w.heap.size zs ∧ Ws zs ∧
      (∀ h : k < zs.length, zs[k] < P) ∧ val (zs.take (k + 1)) = val (xs.take k) * P ∧ (∀ t, k < t → (h : t < zs.length) → zs[t] = 0) ∧ Below w.heap.size w wr) (fun i _ => xs.length - (intOf i).toNat)
  case atStart => exact ⟨0, List.replicate (xs.length + 1) 0, by omega, rfl, by simp, hrow, Ws.replicate _, by simp; omega, by simp [List.take_replicate, val], by simp, hb1⟩
  case round =>
    obtain ⟨k, zs, hk, rfl, hzl, hr, hws, hhi, hval, hzero, hbr⟩ := hrel
    have Hval := Lib.hid hval
    have Hzl := Lib.hid hzl
    have hz1 : k < zs.length := by omega
    have hhi := hhi hz1
    have HZ := Lib.hid hzero
    have hsz := hbr.size
    clear hval hrow hzero
    have HPr := HA.below hbr
    by_cases hlt : k < xs.length
    · obtain ⟨a, rfl, _, _, hca⟩ := HPr.at_ hlt
      have bx := HA.lt hlt
      have hz2 : k + 1 < zs.length := by omega
      clear hzl
      obtain ⟨p1, p2, p3⟩ := shl_parts xs[k] P m zs[k] bx HM.out hP1 hhi
      have hor := or_low zs[k] (xs[k] * P % 4294967296) P s HP.out hhi p2 p3
      have hst := left_step zs xs k P hlt hz2 Hval.out
      have P2 := Lib.hid p2
      have HST := Lib.hid hst
      clear p2 hst
      have hxP : xs[k] * P ≤ 4294967295 * 2147483648 := Nat.mul_le_mul (by omega) hP2
      have hw64 : IntKind.u64.wrap (((xs[k] : Nat) : Int) * 2 ^ s) = ((xs[k] * P : Nat) : Int) := by rw [HPI.out, ← Int.natCast_mul, IntKind.wrap_u64]; omega
      have e1 : ((xs[k] * P : Nat) : Int) % 4294967296 = ((xs[k] * P % 4294967296 : Nat) : Int) := by omega
      have e2 : ((xs[k] * P : Nat) : Int) / 4294967296 = ((xs[k] * P / 4294967296 : Nat) : Int) := by omega
      have e3 : ((xs[k] * P / 4294967296 : Nat) : Int) % 4294967296 = ((xs[k] * P / 4294967296 : Nat) : Int) := by omega
      have hr2 := (hr.set k (zs[k] + xs[k] * P % 4294967296)).set (k + 1) (xs[k] * P / 4294967296)
      have hws2 := (hws.set k (zs[k] + xs[k] * P % 4294967296) p3).set (k + 1) (xs[k] * P / 4294967296) (by omega)
      have hcO := hr.cell hz1
      have hfO := hr.frz k
      have hcO1 := hr.cell hz2
      have hfO1 := hr.frz (k + 1)
      clear hr hws
      generalize hxp : xs[k] * P = xp at *
      have HXP := Lib.hid hxp
      clear hxp hxP
      generalize hlo : xp % 4294967296 = lo at *
      generalize hhi' : xp / 4294967296 = hi at *
      have HLO := Lib.hid hlo
      have HHI := Lib.hid hhi'
      clear hlo hhi'
      generalize hy : zs[k] = y at *
      generalize hy1 : zs[k + 1] = y1 at *
      have HY := Lib.hid hy
      have HY1 := Lib.hid hy1
      clear hy hy1
      go_wp2_with fail
      go_roundw
      case rel =>
        refine ⟨k + 1, (zs.set k (y + lo)).set (k + 1) hi, by omega, by go_num, by simpa using Hzl.out, hr2, hws2, fun h => by simpa using p1, HST.out, fun t h1 h2 => ?_, (hbr.setCell (Nat.le_refl _) _).setCell (Nat.le_refl _) _⟩
        rw [List.getElem_set_ne (by omega), List.getElem_set_ne (by omega)]
        exact HZ.out t (by omega) (by simpa using h2)
      case measure => simp [intOf]; omega
    · obtain rfl : k = xs.length := by omega
      go_wp2_with fail
      go_ret
      have hv := Hval.out
      rw [List.take_length, List.take_of_length_le (by omega)] at hv
      exact ⟨_, zs, rfl, Nat.le_refl _, hr, hzl, hws, hv, hbr⟩
end Go.Proofs.Ytlbgnndjacagkaa
