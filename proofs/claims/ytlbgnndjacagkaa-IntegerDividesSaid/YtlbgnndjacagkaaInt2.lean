/- plus: the sum of two magnitudes. -/
import Derived.Test.YtlbgnndjacagkaaRows
import Derived.Test.YtlbgnndjacagkaaInt1
import Derived.Deep.DeepCutAuto
namespace Go.Proofs.Ytlbgnndjacagkaa
open Go.RowKit

set_option maxHeartbeats 1000000 in
theorem plus_any (w : World) (X : Nat → Prop) (va vb : Value) (xs ys : List Nat) (ha : Words w X va xs) (hb : Words w X vb ys) (hs : xs.length ≤ 1099511627776) (ht : ys.length ≤ 1099511627776) :
    Calls Try.prog 54 #[va, vb] w fun e w' => ∃ v' zs, e = .returned v' ∧ Words w' (Old w) v' zs ∧ val zs = val xs + val ys ∧ zs.length ≤ xs.length + ys.length + 1 ∧ Below w.heap.size w w' := by
  obtain ⟨i0, hi, hz0, hz1, hz2⟩ := info_parts info_u32
  obtain ⟨A, c, rfl, hc, _, HA⟩ := ha.open_
  obtain ⟨B, d, rfl, hd, _, HB⟩ := hb.open_
  go_enter Try.func54, Try.ntmps54
  go_upto_if 13 with fail
  go_cut [0, 1] (fun p q wx => w = wx ∧ ∃ P Q A' c' B' d', p = .slice A' (List.length P) c' ∧ q = .slice B' (List.length Q) d' ∧ Words w X p P ∧ Words w X q Q ∧ Q.length ≤ P.length ∧ P.length ≤ xs.length + ys.length ∧ P.length ≤ 1099511627776 ∧ val P + val Q = val xs + val ys)
  case first =>
    by_cases hl : xs.length < ys.length
    all_goals
      go_wp2_with fail
      go_meet
      case rel => first | exact ⟨rfl, ys, xs, B, d, A, c, rfl, rfl, HB, HA, by omega, by omega, by omega, by omega⟩ | exact ⟨rfl, xs, ys, A, c, B, d, rfl, rfl, HA, HB, by omega, by omega, by omega, by omega⟩
  case rest =>
    obtain ⟨rfl, P, Q, A', c', B', d', rfl, rfl, HP, HQ, hQP, hPl, hPm, hsum⟩ := hcut
    have Hsum := Lib.hid hsum
    clear hsum
    go_wp2_with (at_make; refine wpList_make0 _ rfl _ _ rfl Try.underlying22 info_u32 w.heap.size (P.length + 1) rfl rfl (by omega) (by omega) (by unfold maxLen; omega) (by omega) ?_)
    intro w1 hown hgrow
    have hb1 : Below w.heap.size w w1 := below_none (Below.refl _ _) hgrow (Nat.le_refl _)
    clear hgrow
    go_wp2_with fail
    go_loopw [5, 6, 22] (fun o cr i wr => ∃ (k : Nat) (zs : List Nat) (cy : Nat), k ≤ P.length ∧ i = .int .i64 k ∧ cr = .int .u64 cy ∧ cy ≤ 1 ∧ zs.length = k ∧ wr.ownsRow w.heap.size 44 1 o zs.length (nums .u32 zs) ∧ Ws zs ∧
      val zs + 4294967296 ^ k * cy = val (P.take k) + val (Q.take k) ∧ Below w.heap.size w wr) (fun _ _ i _ => P.length - (intOf i).toNat)
    case atStart => exact ⟨0, [], 0, by omega, rfl, rfl, by omega, rfl, by simpa [nums] using hown, Ws.nil, by simp, hb1⟩
    case round =>
      obtain ⟨k, zs, cy, hk, rfl, rfl, hcy, hzl, hown', hws, hval, hbr⟩ := hrel
      have Hval := Lib.hid hval
      have Hzl := Lib.hid hzl
      have hzb : zs.length ≤ 1099511627776 := by omega
      have hsz := hbr.size
      clear hval hzl hown
      have HPr := HP.below hbr
      have HQr := HQ.below hbr
      by_cases hlt : k < P.length
      · obtain ⟨a, rfl, _, _, hca⟩ := HPr.at_ hlt
        have bx := HP.lt hlt
        by_cases hq : k < Q.length
        · obtain ⟨b, rfl, _, _, hcb⟩ := HQr.at_ hq
          have bq := HQ.lt hq
          go_wp2_with (at_builtin; refine wpList_push _ rfl _ _ rfl Try.underlying22 info_u32 rfl w.heap.size _ _ _ rfl (hown'.alloc _) _ _ rfl (heap_alloc_new wr _) rfl (by omega) (by unfold maxLen; omega) (by simp; omega) ?_)
          intro v2 w2 hown2 hg2 _
          have hb2 := below_own (hbr.alloc hsz _) (hown'.alloc _) hg2 (Nat.le_refl _) (by simp; omega)
          go_wp2_with fail
          go_roundw
          case rel =>
            rw [nums_snoc' _ _ _ ((cy + P[k] + Q[k]) % 4294967296) (by omega)] at hown2
            exact ⟨k + 1, zs ++ [(cy + P[k] + Q[k]) % 4294967296], (cy + P[k] + Q[k]) / 4294967296, by omega, by go_num, by go_num, by omega, by simp [Hzl.out], by simpa using hown2, Ws.append.2 ⟨hws, by simp [Ws]; omega⟩, add_step zs P Q k cy Hzl.out Hval.out hlt hq, hb2⟩
          case measure => simp [intOf]; omega
        · go_wp2_with (at_builtin; refine wpList_push _ rfl _ _ rfl Try.underlying22 info_u32 rfl w.heap.size _ _ _ rfl (hown'.alloc _) _ _ rfl (heap_alloc_new wr _) rfl (by omega) (by unfold maxLen; omega) (by simp; omega) ?_)
          intro v2 w2 hown2 hg2 _
          have hb2 := below_own (hbr.alloc hsz _) (hown'.alloc _) hg2 (Nat.le_refl _) (by simp; omega)
          go_wp2_with fail
          go_roundw
          case rel =>
            rw [nums_snoc' _ _ _ ((cy + P[k]) % 4294967296) (by omega)] at hown2
            exact ⟨k + 1, zs ++ [(cy + P[k]) % 4294967296], (cy + P[k]) / 4294967296, by omega, by go_num, by go_num, by omega, by simp [Hzl.out], by simpa using hown2, Ws.append.2 ⟨hws, by simp [Ws]; omega⟩, add_step1 zs P Q k cy Hzl.out Hval.out hlt (by omega), hb2⟩
          case measure => simp [intOf]; omega
      · go_wp2_with (at_builtin; refine wpList_push _ rfl _ _ rfl Try.underlying22 info_u32 rfl w.heap.size _ _ _ rfl (hown'.alloc _) _ _ rfl (heap_alloc_new wr _) rfl (by omega) (by unfold maxLen; omega) (by simp; omega) ?_)
        intro v2 w2 hown2 hg2 _
        have hb2 := below_own (hbr.alloc hsz _) (hown'.alloc _) hg2 (Nat.le_refl _) (by simp; omega)
        go_wp2_with fail
        go_ret
        rw [nums_snoc' _ _ _ (cy % 4294967296) (by omega)] at hown2
        refine ⟨_, zs ++ [cy % 4294967296], rfl, Words.of_own (by simpa using hown2) (Ws.append.2 ⟨hws, by simp [Ws]; omega⟩) (fun b h1 _ _ => by unfold Old; omega), ?_, by have := Hzl.out; simp; omega, hb2⟩
        have h1 := Hval.out
        rw [List.take_of_length_le (by omega), List.take_of_length_le (by omega)] at h1
        rw [val_snoc, Hzl.out, Nat.mod_eq_of_lt (by omega), h1, Hsum.out]
end Go.Proofs.Ytlbgnndjacagkaa
