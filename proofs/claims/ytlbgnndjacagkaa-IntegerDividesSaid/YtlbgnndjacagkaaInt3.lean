/- minus: the difference of two magnitudes. -/
import Derived.Test.YtlbgnndjacagkaaRows
import Derived.Test.YtlbgnndjacagkaaInt1
import Derived.Test.YtlbgnndjacagkaaBits
import Derived.Deep.DeepCutAuto
namespace Go.Proofs.Ytlbgnndjacagkaa
open Go.RowKit

set_option maxHeartbeats 1000000 in
theorem minus_any (w : World) (X : Nat → Prop) (va vb : Value) (xs ys : List Nat) (ha : Words w X va xs) (hb : Words w X vb ys) (hs : xs.length ≤ 1099511627776) (hle : val ys ≤ val xs) (hlen : ys.length ≤ xs.length) :
    Calls Try.prog 64 #[va, vb] w fun e w' => ∃ v' zs, e = .returned v' ∧ Words w' (Old w) v' zs ∧ val zs = val xs - val ys ∧ zs.length = xs.length ∧ Below w.heap.size w w' := by
  obtain ⟨A, c, rfl, hc, _, HA⟩ := ha.open_
  obtain ⟨B, d, rfl, hd, _, HB⟩ := hb.open_
  have Hle := Lib.hid hle
  clear hle
  go_enter Try.func64, Try.ntmps64
  go_wp2_with (at_make; refine wpList_makeN _ rfl _ _ rfl Try.underlying22 info_u32 rfl w.heap.size xs.length rfl rfl rfl rfl (by omega) (by unfold maxLen; omega) (Nat.le_refl _) ?_)
  intro w1 hown hgrow
  have hb1 : Below w.heap.size w w1 := below_none (Below.refl _ _) hgrow (Nat.le_refl _)
  rw [nums_zeros] at hown
  clear hgrow
  go_wp2_with fail
  go_loopw [6, 15] (fun br i wr => ∃ (k : Nat) (zs : List Nat) (b : Nat), k ≤ xs.length ∧ i = .int .i64 k ∧ br = .int .u32 b ∧ b ≤ 1 ∧ zs.length = xs.length ∧ wr.ownsRow w.heap.size 44 1 (.slice (some ⟨w.heap.size, 0, none⟩) xs.length xs.length) xs.length (nums .u32 zs) ∧ Ws zs ∧
      val (zs.take k) + val (ys.take k) = val (xs.take k) + 4294967296 ^ k * b ∧ Below w.heap.size w wr) (fun _ i _ => xs.length - (intOf i).toNat)
  case atStart => exact ⟨0, List.replicate xs.length 0, 0, by omega, rfl, rfl, by omega, by simp, hown, Ws.replicate _, by simp, hb1⟩
  case round =>
    obtain ⟨k, zs, b, hk, rfl, rfl, hbb, hzl, hown', hws, hval, hbr⟩ := hrel
    have Hval := Lib.hid hval
    have Hzl := Lib.hid hzl
    have hsz := hbr.size
    clear hval hzl hown
    have HPr := HA.below hbr
    have HQr := HB.below hbr
    by_cases hlt : k < xs.length
    · obtain ⟨a, rfl, _, _, hca⟩ := HPr.at_ hlt
      have bx := HA.lt hlt
      have hcO : wr.cell? ⟨w.heap.size, k, none⟩ = some (.int .u32 ((zs[k]'(by have := Hzl.out; omega) : Nat) : Int)) := (hown'.cellAt k (by omega)).trans (nums_get _)
      have hfO := hown'.frozenAt k
      by_cases hq : k < ys.length
      · obtain ⟨q, rfl, _, _, hcb⟩ := HQr.at_ hq
        have bq := HB.lt hq
        go_wp2_with (go_at_call 71; refine (sub32_any _ _ _ _ bx bq hbb).mono ?_; rintro e w' ⟨rfl, rfl⟩)
        go_roundw
        case rel =>
          have hst := (hown'.stored k (.int .u32 (dif xs[k] ys[k] b : Nat))).1
          rw [nums_set] at hst
          have hv := sub_step zs xs k (dif xs[k] ys[k] b) xs[k] ys[k] b (bor xs[k] ys[k] b) (val (ys.take k)) (by have := Hzl.out; omega) hlt rfl (dif_bor _ _ _ bx bq hbb) Hval.out
          rw [← val_take_succ ys k hq] at hv
          exact ⟨k + 1, zs.set k (dif xs[k] ys[k] b), bor xs[k] ys[k] b, by omega, by go_num, rfl, bor_le _ _ _, by simpa using Hzl.out, hst, hws.set _ _ (dif_lt _ _ _), hv, hbr.setCell (Nat.le_refl _) _⟩
        case measure => simp [intOf]; omega
      · go_wp2_with (go_at_call 71; refine (sub32_any _ _ 0 _ bx (by omega) hbb).mono ?_; rintro e w' ⟨rfl, rfl⟩)
        go_roundw
        case rel =>
          have hst := (hown'.stored k (.int .u32 (dif xs[k] 0 b : Nat))).1
          rw [nums_set] at hst
          have hv := sub_step zs xs k (dif xs[k] 0 b) xs[k] 0 b (bor xs[k] 0 b) (val (ys.take k)) (by have := Hzl.out; omega) hlt rfl (dif_bor _ _ _ bx (by omega) hbb) Hval.out
          rw [Nat.mul_zero, Nat.add_zero, ← val_take_more ys k (by omega)] at hv
          exact ⟨k + 1, zs.set k (dif xs[k] 0 b), bor xs[k] 0 b, by omega, by go_num, rfl, bor_le _ _ _, by simpa using Hzl.out, hst, hws.set _ _ (dif_lt _ _ _), hv, hbr.setCell (Nat.le_refl _) _⟩
        case measure => simp [intOf]; omega
    · go_wp2_with fail
      go_ret
      obtain rfl : k = xs.length := by omega
      have hv := Hval.out
      rw [List.take_of_length_le (by have := Hzl.out; omega), List.take_of_length_le (by omega), List.take_of_length_le (by omega)] at hv
      have hend := sub_end zs xs ys b hws Hzl.out Hle.out hv
      rw [← Hzl.out] at hown'
      exact ⟨_, zs, by rw [← Hzl.out]; rfl, Words.of_own hown' hws (fun b h1 _ _ => by unfold Old; omega), hend.1, Hzl.out, hbr⟩
end Go.Proofs.Ytlbgnndjacagkaa
