/- right: a magnitude shifted back. -/
import Derived.Test.YtlbgnndjacagkaaRows
import Derived.Test.YtlbgnndjacagkaaLeft
import Derived.Test.YtlbgnndjacagkaaRef1
namespace Go.Proofs.Ytlbgnndjacagkaa
open Go.RowKit

theorem shr_word (x y P m : Nat) (hx : x < 4294967296) (hm : 4294967296 = P * m) (hP : 0 < P) :
    P * ((x + y * 4294967296) / P % 4294967296) + x % P = x + 4294967296 * (y % P) ∧ (x + y * 4294967296) / P % 4294967296 < 4294967296 := by
  refine ⟨?_, Nat.mod_lt _ (by omega)⟩
  have e1 : (x + y * 4294967296) / P = x / P + m * y := by
    rw [hm, Nat.mul_left_comm y P m, Nat.add_mul_div_left _ _ hP, Nat.mul_comm y m]
  have hxm : x / P < m := by rw [Nat.div_lt_iff_lt_mul hP, Nat.mul_comm, ← hm]; exact hx
  have e2 : (x / P + m * y) % 4294967296 = x / P + m * (y % P) := by
    have h1 := Nat.div_add_mod y P
    have h2 : m * y = m * (y % P) + 4294967296 * (y / P) := by
      rw [hm]
      have : m * y = m * (P * (y / P) + y % P) := by rw [h1]
      rw [this, Nat.mul_add, ← Nat.mul_assoc, Nat.mul_comm m P]
      omega
    rw [h2, ← Nat.add_assoc, Nat.add_mul_mod_self_left]
    refine Nat.mod_eq_of_lt ?_
    have h3 : m * (y % P + 1) ≤ m * P := Nat.mul_le_mul_left _ (Nat.mod_lt y hP)
    rw [Nat.mul_add, Nat.mul_one, Nat.mul_comm m P, ← hm] at h3
    omega
  rw [e1, e2, Nat.mul_add, ← Nat.mul_assoc, ← hm]
  have h1 := Nat.div_add_mod x P
  omega
theorem addr_succ (a : Addr) (k : Nat) : a.add (k + 1) = ⟨a.block, a.off + (k + 1), none⟩ := by simp [Addr.add]
theorem cast_shr (W P : Nat) : ((W : Nat) : Int) / ((P : Nat) : Int) % 4294967296 = ((W / P % 4294967296 : Nat) : Int) := by
  have : ((W : Nat) : Int) / ((P : Nat) : Int) = ((W / P : Nat) : Int) := (Int.natCast_ediv W P).symm
  rw [this]; omega
theorem shr_or (x y P m s : Nat) (hx : x < 4294967296) (hy : y < 4294967296) (hm : 4294967296 = P * m) (hP : 0 < P) (hs : (2 : Int) ^ s = ((P : Nat) : Int)) :
    ∃ W z : Nat, bits BinOp.or IntKind.u64 ((x : Nat) : Int) (((y : Nat) : Int) * 4294967296) = ((W : Nat) : Int) ∧ ((W : Nat) : Int) / 2 ^ s % 4294967296 = ((z : Nat) : Int) ∧ z < 4294967296 ∧ P * z + x % P = x + 4294967296 * (y % P) := by
  obtain ⟨h1, h2⟩ := shr_word x y P m hx hm hP
  refine ⟨x + y * 4294967296, _, ?_, ?_, h2, h1⟩
  · have := Go.bits_join_low .u64 64 (by decide) (fun n h0 h1 => by rw [IntKind.wrap_u64]; omega) 32 ((x : Nat) : Int) (((y : Nat) : Int) * 4294967296) (by omega) (by omega) (by omega) (by omega) (by omega) (by omega)
    rw [this]; omega
  · rw [hs, cast_shr]
theorem shr_one (x P m s : Nat) (hx : x < 4294967296) (hm : 4294967296 = P * m) (hP : 0 < P) (hs : (2 : Int) ^ s = ((P : Nat) : Int)) :
    ∃ z : Nat, ((x : Nat) : Int) / 2 ^ s % 4294967296 = ((z : Nat) : Int) ∧ z < 4294967296 ∧ P * z + x % P = x + 4294967296 * 0 := by
  obtain ⟨h1, h2⟩ := shr_word x 0 P m hx hm hP
  rw [Nat.zero_mul, Nat.add_zero, Nat.zero_mod] at h1
  exact ⟨_, by rw [hs, cast_shr], Nat.mod_lt _ (by omega), h1⟩
theorem right_step (zs xs : List Nat) (k P z y0 : Nat) (hk : k < xs.length) (hz : k < zs.length) (hv : P * val (zs.take k) + y0 = val (xs.take k) + 4294967296 ^ k * (xs[k] % P)) (Y : Nat) (hw : P * z + xs[k] % P = xs[k] + 4294967296 * Y) :
    P * val ((zs.set k z).take (k + 1)) + y0 = val (xs.take (k + 1)) + 4294967296 ^ (k + 1) * Y := by
  rw [val_take_set zs k z hz, val_take_succ xs k hk, Nat.mul_add, Nat.pow_succ, Nat.mul_assoc (4294967296 ^ k)]
  have : 4294967296 ^ k * (P * z) + 4294967296 ^ k * (xs[k] % P) = 4294967296 ^ k * xs[k] + 4294967296 ^ k * (4294967296 * Y) := by rw [← Nat.mul_add, hw, Nat.mul_add]
  rw [Nat.mul_left_comm P]
  omega

set_option maxHeartbeats 1000000 in
theorem right_any (w : World) (X : Nat → Prop) (va : Value) (xs : List Nat) (s : Nat) (ha : Words w X va xs) (hs : xs.length ≤ 1099511627776) (h32 : s < 32) :
    Calls Try.prog 75 #[va, .int .i64 s] w fun e w' => ∃ v' zs, e = .returned v' ∧ Words w' (Old w) v' zs ∧ zs.length = xs.length ∧ val zs = val xs / 2 ^ s ∧ Below w.heap.size w w' := by
  obtain ⟨A, c, rfl, hc, _, HA⟩ := ha.open_
  obtain ⟨P, hP⟩ : ∃ P, P = 2 ^ s := ⟨_, rfl⟩
  have hP1 : 0 < P := by rw [hP]; exact Nat.pow_pos (by omega)
  obtain ⟨m, hm⟩ : ∃ m, 4294967296 = P * m := ⟨2 ^ (32 - s), by rw [hP, ← Nat.pow_add, (by omega : s + (32 - s) = 32)]⟩
  have hPi : (2 : Int) ^ s = ((P : Nat) : Int) := by rw [hP]; push_cast; rfl
  rw [← hP]
  have HM := Lib.hid hm
  have HPI := Lib.hid hPi
  clear hP hm hPi
  go_enter Try.func75, Try.ntmps75
  go_wp2_with (at_make; refine wpList_makeN _ rfl _ _ rfl Try.underlying22 info_u32 rfl w.heap.size xs.length rfl rfl rfl rfl (by omega) (by unfold maxLen; omega) (Nat.le_refl _) ?_)
  intro w1 hown hgrow
  have hb1 : Below w.heap.size w w1 := below_none (Below.refl _ _) hgrow (Nat.le_refl _)
  rw [nums_zeros] at hown
  have hrow := (Row.of_own hown).1
  clear hgrow hown
  go_wp2_with fail
  go_loopw [14] (fun i wr => ∃ (k : Nat) (zs : List Nat), k ≤ xs.length ∧ i = .int .i64 k ∧ zs.length = xs.length ∧ Row wr w.heap.size zs ∧ Ws zs ∧
      P * val (zs.take k) + wordAt xs 0 % P = val (xs.take k) + 4294967296 ^ k * (wordAt xs k % P) ∧ Below w.heap.size w wr) (fun i _ => xs.length - (intOf i).toNat)
  case atStart => exact ⟨0, List.replicate xs.length 0, by omega, rfl, by simp, hrow, Ws.replicate _, by simp [val], hb1⟩
  case round =>
    obtain ⟨k, zs, hk, rfl, hzl, hr, hws, hval, hbr⟩ := hrel
    have Hval := Lib.hid hval
    have Hzl := Lib.hid hzl
    have hsz := hbr.size
    clear hval hrow
    have HPr := HA.below hbr
    by_cases hlt : k < xs.length
    · have hz1 : k < zs.length := by omega
      clear hzl
      have hv := Hval.out
      rw [wordAt_in hlt] at hv
      have bx := HA.lt hlt
      have hfO := hr.frz k
      have hcO := hr.cell hz1
      obtain ⟨a, rfl, _, _, hca⟩ := HPr.at_ hlt
      by_cases hl2 : k + 1 < xs.length
      · obtain ⟨a2, ha2, _, _, hca2⟩ := HPr.at_ hl2
        injection ha2 with ha2
        subst ha2
        have by1 := HA.lt hl2
        have hca3 : wr.cell? ⟨a.block, a.off + (k + 1), none⟩ = some (.int .u32 ((xs[k + 1] : Nat) : Int)) := by have h := hca2; rw [addr_succ] at h; exact h
        clear hca2
        obtain ⟨W, z, hor, e2, hw2, hw1⟩ := shr_or xs[k] xs[k + 1] P m s bx by1 HM.out hP1 HPI.out
        have hst := right_step zs xs k P z _ hlt hz1 hv _ hw1
        rw [← wordAt_in hl2] at hst
        have HST := Lib.hid hst
        clear hst hw1 hv
        have e1 : IntKind.u64.wrap (((xs[k + 1] : Nat) : Int) * 4294967296) = ((xs[k + 1] : Nat) : Int) * 4294967296 := by rw [IntKind.wrap_u64]; omega
        have hr2 := hr.set k z
        have hws2 := hws.set k _ hw2
        clear hr hws
        go_wp2_with fail
        go_roundw
        case rel => exact ⟨k + 1, zs.set k z, by omega, by go_num, by simpa using Hzl.out, hr2, hws2, HST.out, hbr.setCell (Nat.le_refl _) _⟩
        case measure => simp [intOf]; omega
      · obtain ⟨z, e2, hw2, hw1⟩ := shr_one xs[k] P m s bx HM.out hP1 HPI.out
        have hst := right_step zs xs k P z _ hlt hz1 hv _ hw1
        have HST := Lib.hid hst
        clear hst hw1 hv
        have hr2 := hr.set k z
        have hws2 := hws.set k _ hw2
        clear hr hws
        go_wp2_with fail
        go_roundw
        case rel => exact ⟨k + 1, zs.set k z, by omega, by go_num, by simpa using Hzl.out, hr2, hws2, by rw [wordAt_out (xs := xs) (i := k + 1) (by omega), Nat.zero_mod]; exact HST.out, hbr.setCell (Nat.le_refl _) _⟩
        case measure => simp [intOf]; omega
    · obtain rfl : k = xs.length := by omega
      go_wp2_with fail
      go_ret
      have hv := Hval.out
      rw [List.take_length, List.take_of_length_le (by omega), wordAt_out (Nat.le_refl _), Nat.zero_mod, Nat.mul_zero, Nat.add_zero] at hv
      refine ⟨_, zs, rfl, ?_, hzl, ?_, hbr⟩
      · rw [← hzl]; exact hr.words hws (by unfold Old; omega) (by unfold maxLen; omega)
      · rw [← hv, Nat.mul_add_div hP1, Nat.div_eq_of_lt (Nat.mod_lt _ hP1), Nat.add_zero]
end Go.Proofs.Ytlbgnndjacagkaa
