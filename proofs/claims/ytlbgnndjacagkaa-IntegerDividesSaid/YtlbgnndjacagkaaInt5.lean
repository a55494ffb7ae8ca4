/- short, compare. -/
import Derived.Test.YtlbgnndjacagkaaRows
import Derived.Test.YtlbgnndjacagkaaInt1
import Derived.Test.YtlbgnndjacagkaaBits
import Derived.Deep.DeepCutAuto
namespace Go.Proofs.Ytlbgnndjacagkaa
open Go.RowKit

set_option maxHeartbeats 1000000 in
theorem short_any (w : World) (X : Nat → Prop) (va : Value) (xs : List Nat) (d : Nat) (ha : Words w X va xs) (hs : xs.length ≤ 1099511627776) (hd0 : 0 < d) (hd : d < 4294967296) :
    Calls Try.prog 58 #[va, .int .u32 d] w fun e w' => ∃ v' zs r, e = .returned (.tuple #[v', .int .u32 (r : Nat)]) ∧ Words w' (Old w) v' zs ∧ val zs = val xs / d ∧ r = val xs % d ∧ zs.length = xs.length ∧ Below w.heap.size w w' := by
  obtain ⟨A, c, rfl, hc, _, HA⟩ := ha.open_
  go_enter Try.func58, Try.ntmps58
  go_wp2_with (at_make; refine wpList_makeN _ rfl _ _ rfl Try.underlying22 info_u32 rfl w.heap.size xs.length rfl rfl rfl rfl (by omega) (by unfold maxLen; omega) (Nat.le_refl _) ?_)
  intro w1 hown hgrow
  have hb1 : Below w.heap.size w w1 := below_none (Below.refl _ _) hgrow (Nat.le_refl _)
  rw [nums_zeros] at hown
  clear hgrow
  go_wp2_with fail
  go_loopw [7, 8] (fun rr i wr => ∃ (k : Nat) (zs : List Nat) (r : Nat), k ≤ xs.length ∧ i = .int .i64 ((k : Int) - 1) ∧ rr = .int .u32 r ∧ r < d ∧ zs.length = xs.length ∧ wr.ownsRow w.heap.size 44 1 (.slice (some ⟨w.heap.size, 0, none⟩) xs.length xs.length) xs.length (nums .u32 zs) ∧ Ws zs ∧
      val (zs.drop k) * d + r = val (xs.drop k) ∧ Below w.heap.size w wr) (fun _ i _ => (intOf i + 1).toNat)
  case atStart => exact ⟨xs.length, List.replicate xs.length 0, 0, by omega, rfl, rfl, by omega, by simp, hown, Ws.replicate _, by simp, hb1⟩
  case round =>
    obtain ⟨k, zs, r, hk, rfl, rfl, hr, hzl, hown', hws, hval, hbr⟩ := hrel
    have Hval := Lib.hid hval
    have Hzl := Lib.hid hzl
    have hsz := hbr.size
    clear hval hzl hown
    have HPr := HA.below hbr
    by_cases hlt : 0 < k
    · obtain ⟨p, rfl⟩ : ∃ p, k = p + 1 := ⟨k - 1, by omega⟩
      have hp : p < xs.length := by omega
      have hpz : p < zs.length := by have := Hzl.out; omega
      obtain ⟨a, rfl, _, _, hca⟩ := HPr.at_ hp
      have bx := HA.lt hp
      have hcO : wr.cell? ⟨w.heap.size, p, none⟩ = some (.int .u32 ((zs[p] : Nat) : Int)) := (hown'.cellAt p (by omega)).trans (nums_get _)
      have hfO := hown'.frozenAt p
      go_wp2_with (go_at_call 70; refine (div32_any _ _ _ _ hr bx hd).mono ?_; rintro e w' ⟨rfl, n, rfl⟩)
      go_roundw
      case rel =>
        have hst := (hown'.stored p (.int .u32 (((r * 4294967296 + xs[p]) / d : Nat) : Int))).1
        rw [nums_set] at hst
        exact ⟨p, zs.set p ((r * 4294967296 + xs[p]) / d), (r * 4294967296 + xs[p]) % d, by omega, by go_num, by go_num, Nat.mod_lt _ hd0, by simpa using Hzl.out, hst, hws.set _ _ (div_lt_32 _ _ _ hr bx), short_step zs xs p d r xs[p] _ _ hpz hp rfl rfl rfl Hval.out, (below_drewN hbr n).setCell (Nat.le_refl _) _⟩
      case measure => simp [intOf] <;> omega
    · obtain rfl : k = 0 := by omega
      go_wp2_with fail
      go_ret2
      have hv := Hval.out
      simp only [List.drop_zero] at hv
      rw [← Hzl.out] at hown'
      refine ⟨_, zs, r, by rw [← Hzl.out]; rfl, Words.of_own hown' hws (fun b h1 _ _ => by unfold Old; omega), ?_, ?_, Hzl.out, hbr⟩
      · rw [← hv, Nat.add_comm, Nat.add_mul_div_right _ _ hd0, Nat.div_eq_of_lt hr, Nat.zero_add]
      · rw [← hv, Nat.add_comm, Nat.add_mul_mod_self_right, Nat.mod_eq_of_lt hr]

set_option maxHeartbeats 1000000 in
theorem compare_any (w : World) (X : Nat → Prop) (va vb : Value) (xs ys : List Nat) (ha : Words w X va xs) (hb : Words w X vb ys) (hx : Can xs) (hy : Can ys) :
    Calls Try.prog 63 #[va, vb] w fun e w' => e = .returned (.int .i64 (cmpN (val xs) (val ys))) ∧ ∃ n, w' = w.drewN n := by
  have m1 := ha.lt_max
  have m2 := hb.lt_max
  obtain ⟨A, c, rfl, hc, _, HA⟩ := ha.open_
  obtain ⟨B, d, rfl, hd, _, HB⟩ := hb.open_
  by_cases hl : xs.length = ys.length
  · have hlb : ((xs.length : Int) != (ys.length : Int)) = false := by simp [hl]
    have HL := Lib.hid hl
    have hl1 : xs.length ≤ ys.length := by omega
    have hl2 : ys.length ≤ xs.length := by omega
    clear hl
    go_enter Try.func63, Try.ntmps63
    go_wp2_with fail
    go_loopw [5] (fun i wr => ∃ (k n : Nat), k ≤ xs.length ∧ i = .int .i64 ((k : Int) - 1) ∧ xs.drop k = ys.drop k ∧ wr = w.drewN n) (fun i _ => (intOf i + 1).toNat)
    case atStart => exact ⟨xs.length, 0, by omega, rfl, by rw [List.drop_length, List.drop_of_length_le hl2], rfl⟩
    case round =>
      obtain ⟨k, n, hk, rfl, hdr, rfl⟩ := hrel
      have Hdr := Lib.hid hdr
      clear hdr
      by_cases hlt : 0 < k
      · obtain ⟨p, rfl⟩ : ∃ p, k = p + 1 := ⟨k - 1, by omega⟩
        have hp : p < xs.length := by omega
        have hq : p < ys.length := by omega
        obtain ⟨a, rfl, _, _, hca⟩ := HA.at_ hp
        obtain ⟨b, rfl, _, _, hcb⟩ := HB.at_ hq
        have ip : (p : Int) < (xs.length : Int) := by omega
        have iq : (p : Int) < (ys.length : Int) := by omega
        by_cases he : xs[p] = ys[p]
        · have hbb : (((xs[p] : Nat) : Int) != ((ys[p] : Nat) : Int)) = false := by simp [he]
          have HE := Lib.hid he
          clear he
          go_wp2_with fail
          go_quiet (fail)
          go_wp2_with fail
          go_roundw
          case rel => exact ⟨p, n + nq, by omega, by go_num, by rw [List.drop_eq_getElem_cons hp, List.drop_eq_getElem_cons hq, HE.out, Hdr.out], rfl⟩
          case measure => simp [intOf] <;> omega
        · have hbb : (((xs[p] : Nat) : Int) != ((ys[p] : Nat) : Int)) = true := by simp; omega
          rcases Nat.lt_or_gt_of_ne he with h | h
          · have h1 : ((xs[p] : Nat) : Int) < ((ys[p] : Nat) : Int) := by omega
            have hd : decide (((xs[p] : Nat) : Int) < ((ys[p] : Nat) : Int)) = true := by simpa using h
            go_wp2_with fail
            go_quiet (fail)
            go_wp2_with fail
            go_quiet (fail)
            go_wp2_with fail
            go_ret
            exact ⟨ret_eq (int_eq (cmpN_lt (val_lt_at xs ys HL.out hx.1 p hp Hdr.out h)).symm), _, by rw [World.drewN_drewN, World.drewN_drewN]⟩
          · have h1 : ¬ ((xs[p] : Nat) : Int) < ((ys[p] : Nat) : Int) := by omega
            have hd : decide (((xs[p] : Nat) : Int) < ((ys[p] : Nat) : Int)) = false := by simp; omega
            go_wp2_with fail
            go_quiet (fail)
            go_wp2_with fail
            go_quiet (fail)
            go_wp2_with fail
            go_ret
            exact ⟨ret_eq (int_eq (cmpN_gt (val_lt_at ys xs HL.out.symm hy.1 p hq Hdr.out.symm h)).symm), _, by rw [World.drewN_drewN, World.drewN_drewN]⟩
      · obtain rfl : k = 0 := by omega
        go_wp2_with fail
        go_ret
        have h := Hdr.out
        simp only [List.drop_zero] at h
        exact ⟨ret_eq (int_eq (cmpN_eq (by rw [h])).symm), n, rfl⟩
  · have hlb : ((xs.length : Int) != (ys.length : Int)) = true := by simp; omega
    by_cases hlt : xs.length < ys.length
    · go_enter Try.func63, Try.ntmps63
      go_wp2_with fail
      go_ret
      exact ⟨ret_eq (int_eq (cmpN_lt (val_lt_of_len hx.1 hy hlt)).symm), 0, rfl⟩
    · go_enter Try.func63, Try.ntmps63
      go_wp2_with fail
      go_ret
      exact ⟨ret_eq (int_eq (cmpN_gt (val_lt_of_len hy.1 hx (by omega))).symm), 0, rfl⟩
end Go.Proofs.Ytlbgnndjacagkaa
