/- times: the product of two magnitudes. -/
import Derived.Test.YtlbgnndjacagkaaRows
import Derived.Test.YtlbgnndjacagkaaInt1
import Derived.Deep.DeepCutAuto
namespace Go.Proofs.Ytlbgnndjacagkaa
open Go.RowKit

set_option maxHeartbeats 1000000 in
theorem times_any (w : World) (X : Nat → Prop) (va vb : Value) (xs ys : List Nat) (ha : Words w X va xs) (hb : Words w X vb ys) (hs : xs.length ≤ 1099511627776) (ht : ys.length ≤ 1099511627776) :
    Calls Try.prog 55 #[va, vb] w fun e w' => ∃ v' zs, e = .returned v' ∧ Words w' (Old w) v' zs ∧ val zs = val xs * val ys ∧ zs.length = xs.length + ys.length ∧ Below w.heap.size w w' := by
  obtain ⟨A, c, rfl, hc, _, HA⟩ := ha.open_
  obtain ⟨B, d, rfl, hd, _, HB⟩ := hb.open_
  obtain ⟨N, hN⟩ : ∃ N, N = xs.length + ys.length := ⟨_, rfl⟩
  have HN := Lib.hid hN
  have hN1 : N ≤ xs.length + ys.length := by omega
  have hN2 : xs.length + ys.length ≤ N := by omega
  clear hN
  go_enter Try.func55, Try.ntmps55
  go_wp2_with (at_make; refine wpList_makeN _ rfl _ _ rfl Try.underlying22 info_u32 rfl w.heap.size N rfl rfl (by omega) (by omega) (by omega) (by unfold maxLen; omega) (Nat.le_refl _) ?_)
  intro w1 hown hgrow
  have hb1 : Below w.heap.size w w1 := below_none (Below.refl _ _) hgrow (Nat.le_refl _)
  rw [nums_zeros] at hown
  clear hgrow
  go_wp2_with fail
  go_loopw [19] (fun i wr => ∃ (k : Nat) (zs : List Nat), k ≤ xs.length ∧ i = .int .i64 k ∧ zs.length = N ∧ wr.ownsRow w.heap.size 44 1 (.slice (some ⟨w.heap.size, 0, none⟩) N N) N (nums .u32 zs) ∧ Ws zs ∧
      val zs = val (xs.take k) * val ys ∧ (∀ t, k + ys.length ≤ t → (h : t < zs.length) → zs[t] = 0) ∧ Below w.heap.size w wr) (fun i _ => xs.length - (intOf i).toNat)
  case atStart => exact ⟨0, List.replicate N 0, by omega, rfl, by simp, hown, Ws.replicate _, by simp [val_replicate], by simp, hb1⟩
  case round =>
    obtain ⟨k, zs, hk, rfl, hzl, hown', hws, hval, hzero, hbr⟩ := hrel
    have Hval := Lib.hid hval
    have Hzl := Lib.hid hzl
    have Hzero := Lib.hid hzero
    have hsz := hbr.size
    clear hval hzl hown hzero
    have HPr := HA.below hbr
    have HQr := HB.below hbr
    by_cases hlt : k < xs.length
    · obtain ⟨a, rfl, _, _, hca⟩ := HPr.at_ hlt
      have bx := HA.lt hlt
      go_wp2_with fail
      obtain ⟨wo, rfl⟩ : ∃ wo : World, wo = wr := ⟨_, rfl⟩
      go_loopw [8, 26] (fun cr j wr => ∃ (m : Nat) (zs : List Nat) (cy : Nat), m ≤ ys.length ∧ j = .int .i64 m ∧ cr = .int .u64 cy ∧ cy < 4294967296 ∧ zs.length = N ∧ wr.ownsRow w.heap.size 44 1 (.slice (some ⟨w.heap.size, 0, none⟩) N N) N (nums .u32 zs) ∧ Ws zs ∧
        val zs + 4294967296 ^ (k + m) * cy = val (xs.take k) * val ys + 4294967296 ^ k * (xs[k] * val (ys.take m)) ∧ (∀ t, k + ys.length ≤ t → (h : t < zs.length) → zs[t] = 0) ∧ Below w.heap.size w wr) (fun _ j _ => ys.length - (intOf j).toNat)
      case atStart => exact ⟨0, zs, 0, by omega, rfl, rfl, by omega, Hzl.out, hown', hws, by simpa using Hval.out, Hzero.out, hbr⟩
      case round =>
        obtain ⟨m, zs1, cy, hm, rfl, rfl, hcy, hzl1, hown1, hws1, hval1, hzero1, hbr1⟩ := hrel
        have Hval1 := Lib.hid hval1
        have Hzl1 := Lib.hid hzl1
        have Hzero1 := Lib.hid hzero1
        have hsz1 := hbr1.size
        clear hval1 hzl1 hzero1 hown'
        have HQ1 := HB.below hbr1
        by_cases hlm : m < ys.length
        · obtain ⟨q, rfl, _, _, hcq⟩ := HQ1.at_ hlm
          have bq := HB.lt hlm
          have hp : k + m < zs1.length := by have := Hzl1.out; omega
          have bz := hws1.get hp
          have hcO : wr.cell? ⟨w.heap.size, k + m, none⟩ = some (.int .u32 ((zs1[k + m] : Nat) : Int)) := (hown1.cellAt (k + m) (by omega)).trans (nums_get _)
          have hfO := hown1.frozenAt (k + m)
          have m1 : ((xs[k] : Nat) : Int) * ((ys[m] : Nat) : Int) ≤ 18446744065119617025 := mul_lt_sq' _ _ bx bq
          have m0 : 0 ≤ ((xs[k] : Nat) : Int) * ((ys[m] : Nat) : Int) := Int.mul_nonneg (by omega) (by omega)
          go_wp2_with fail
          go_roundw
          case rel =>
            obtain ⟨s, hs⟩ : ∃ s, s = cy + xs[k] * ys[m] + zs1[k + m] := ⟨_, rfl⟩
            have es : ((cy : Nat) : Int) + (((xs[k] : Nat) : Int) * ((ys[m] : Nat) : Int) + ((zs1[k + m] : Nat) : Int)) = (s : Int) := by rw [hs]; push_cast; omega
            have bs : s ≤ 18446744073709551615 := by omega
            rw [es] at *
            have hst := (hown1.stored (k + m) (.int .u32 ((s % 4294967296 : Nat) : Int))).1
            rw [nums_set] at hst
            have hv := mul_step zs1 (k + m) s cy _ hp Hval1.out (xs[k] * ys[m]) hs
            refine ⟨m + 1, zs1.set (k + m) (s % 4294967296), s / 4294967296, by omega, by go_num, by go_num, by omega, by simpa using Hzl1.out, ?_, hws1.set _ _ (by omega), by rw [pow_mul_take k m xs[k] ys hlm, ← Nat.add_assoc k m 1, hv, Nat.add_assoc], fun t h1 h2 => ?_, hbr1.setCell (Nat.le_refl _) _⟩
            · exact hst
            · rw [List.getElem_set_ne (by omega)]
              exact Hzero1.out t h1 (by simpa using h2)
          case measure => simp [intOf]; omega
        · obtain rfl : m = ys.length := by omega
          have hp : k + ys.length < zs1.length := by have := Hzl1.out; omega
          have hcO : wr.cell? ⟨w.heap.size, k + ys.length, none⟩ = some (.int .u32 ((zs1[k + ys.length] : Nat) : Int)) := (hown1.cellAt _ (by omega)).trans (nums_get _)
          have hfO := hown1.frozenAt (k + ys.length)
          go_wp2_with fail
          go_roundw
          case rel =>
            have hst := (hown1.stored (k + ys.length) (.int .u32 (cy : Nat))).1
            rw [nums_set] at hst
            have hv := mul_end zs1 (k + ys.length) cy _ hp (Hzero1.out _ (Nat.le_refl _) hp) Hval1.out
            rw [List.take_length, ← mul_take_succ xs k (val ys) hlt] at hv
            refine ⟨k + 1, zs1.set (k + ys.length) cy, by omega, by go_num, by simpa using Hzl1.out, hst, hws1.set _ _ hcy, hv, fun t h1 h2 => ?_, hbr1.setCell (Nat.le_refl _) _⟩
            rw [List.getElem_set_ne (by omega)]
            exact Hzero1.out t (by omega) (by simpa using h2)
          case measure => simp [intOf]; omega
    · obtain rfl : k = xs.length := by omega
      go_wp2_with fail
      go_ret
      have hv := Hval.out
      rw [List.take_length] at hv
      rw [← Hzl.out] at hown'
      exact ⟨_, zs, by rw [← Hzl.out]; rfl, Words.of_own hown' hws (fun b h1 _ _ => by unfold Old; omega), hv, by rw [Hzl.out, HN.out], hbr⟩
end Go.Proofs.Ytlbgnndjacagkaa
