/- Contracts of the functions that the statements reach, part 7. -/
import Derived.Test.YtpeglenapmkdfaaGreatRows
import Derived.Deep.DeepCutAuto
import Derived.Deep.RegionHeld3
import Derived.Deep.DrawnRows
import Derived.Test.YtpeglenapmkdfaaGreatM2
import Derived.Test.YtpeglenapmkdfaaGreatM3
set_option linter.unusedSimpArgs false
set_option linter.unusedVariables false

/- times: the product of two magnitudes. -/
namespace Go.Proofs.YtpeglenapmkdfaaGreat
open Go.RowKit

set_option maxHeartbeats 1000000 in
theorem times_any (w : World) (X : Nat → Prop) (va vb : Value) (xs ys : List Nat) (ha : Words w X va xs) (hb : Words w X vb ys) (hs : xs.length ≤ 1099511627776) (ht : ys.length ≤ 1099511627776) :
    Calls Tryz.prog 108 #[va, vb] w fun e w' => ∃ v' zs, e = .returned v' ∧ Words w' (Old w) v' zs ∧ val zs = val xs * val ys ∧ zs.length = xs.length + ys.length ∧ Below w.heap.size w w' := by
  obtain ⟨A, c, rfl, hc, _, HA⟩ := ha.open_
  obtain ⟨B, d, rfl, hd, _, HB⟩ := hb.open_
  obtain ⟨N, hN⟩ : ∃ N, N = xs.length + ys.length := ⟨_, rfl⟩
  have HN := Lib.hid hN
  have hN1 : N ≤ xs.length + ys.length := by omega
  have hN2 : xs.length + ys.length ≤ N := by omega
  clear hN
  go_enter Tryz.func108, Tryz.ntmps108
  go_wp2_with (at_make; refine wpList_makeN _ rfl _ _ rfl Tryz.underlying40 info_u32 rfl w.heap.size N rfl rfl (by omega) (by omega) (by omega) (by unfold maxLen; omega) (Nat.le_refl _) ?_)
  intro w1 hown hgrow
  have hb1 : Below w.heap.size w w1 := below_none (Below.refl _ _) hgrow (Nat.le_refl _)
  rw [nums_zeros] at hown
  clear hgrow
  go_wp2_with fail
  go_loopw [19] (fun i wr => ∃ (k : Nat) (zs : List Nat), k ≤ xs.length ∧ i = .int .i64 k ∧ zs.length = N ∧ wr.ownsRow w.heap.size 113 1 (.slice (some ⟨w.heap.size, 0, none⟩) N N) N (nums .u32 zs) ∧ Ws zs ∧
      val zs = val (xs.take k) * val ys ∧ (∀ t, k + ys.length ≤ t → (h : t < zs.length) → zs[t] = 0) ∧ Below w.heap.size w wr) (fun i _ => xs.length - (intOf i).toNat)
  case atStart => exact ⟨0, List.replicate N 0, by omega, rfl, by simp, hown, Ws.replicate _, by simp [val_replicate], by simp, hb1⟩
  case round =>
    obtain ⟨k, zs, hk, rfl, hzl, hown', hws, hval, hzero, hbr⟩ := hrel
    have Hval := Lib.hid hval
    have Hzl := Lib.hid hzl
    have Hzero := Lib.hid hzero
    have hsz := hbr.size
    clear hval hzl hown hzero
    have HPr := HA.below hbr
    have HQr := HB.below hbr
    by_cases hlt : k < xs.length
    · obtain ⟨a, rfl, _, _, hca⟩ := HPr.at_ hlt
      have bx := HA.lt hlt
      go_wp2_with fail
      obtain ⟨wo, rfl⟩ : ∃ wo : World, wo = wr := ⟨_, rfl⟩
      go_loopw [8, 26] (fun cr j wr => ∃ (m : Nat) (zs : List Nat) (cy : Nat), m ≤ ys.length ∧ j = .int .i64 m ∧ cr = .int .u64 cy ∧ cy < 4294967296 ∧ zs.length = N ∧ wr.ownsRow w.heap.size 113 1 (.slice (some ⟨w.heap.size, 0, none⟩) N N) N (nums .u32 zs) ∧ Ws zs ∧
        val zs + 4294967296 ^ (k + m) * cy = val (xs.take k) * val ys + 4294967296 ^ k * (xs[k] * val (ys.take m)) ∧ (∀ t, k + ys.length ≤ t → (h : t < zs.length) → zs[t] = 0) ∧ Below w.heap.size w wr) (fun _ j _ => ys.length - (intOf j).toNat)
      case atStart => exact ⟨0, zs, 0, by omega, rfl, rfl, by omega, Hzl.out, hown', hws, by simpa using Hval.out, Hzero.out, hbr⟩
      case round =>
        obtain ⟨m, zs1, cy, hm, rfl, rfl, hcy, hzl1, hown1, hws1, hval1, hzero1, hbr1⟩ := hrel
        have Hval1 := Lib.hid hval1
        have Hzl1 := Lib.hid hzl1
        have Hzero1 := Lib.hid hzero1
        have hsz1 := hbr1.size
        clear hval1 hzl1 hzero1 hown'
        have HQ1 := HB.below hbr1
        by_cases hlm : m < ys.length
        · obtain ⟨q, rfl, _, _, hcq⟩ := HQ1.at_ hlm
          have bq := HB.lt hlm
          have hp : k + m < zs1.length := by have := Hzl1.out; omega
          have bz := hws1.get hp
          have hcO : wr.cell? ⟨w.heap.size, k + m, none⟩ = some (.int .u32 ((zs1[k + m] : Nat) : Int)) := (hown1.cellAt (k + m) (by omega)).trans (nums_get _)
          have hfO := hown1.frozenAt (k + m)
          have m1 : ((xs[k] : Nat) : Int) * ((ys[m] : Nat) : Int) ≤ 18446744065119617025 := mul_lt_sq' _ _ bx bq
          have m0 : 0 ≤ ((xs[k] : Nat) : Int) * ((ys[m] : Nat) : Int) := Int.mul_nonneg (by omega) (by omega)
          go_wp2_with fail
          go_roundw
          case rel =>
            obtain ⟨s, hs⟩ : ∃ s, s = cy + xs[k] * ys[m] + zs1[k + m] := ⟨_, rfl⟩
            have es : ((cy : Nat) : Int) + (((xs[k] : Nat) : Int) * ((ys[m] : Nat) : Int) + ((zs1[k + m] : Nat) : Int)) = (s : Int) := by rw [hs]; push_cast; omega
            have bs : s ≤ 18446744073709551615 := by omega
            rw [es] at *
            have hst := (hown1.stored (k + m) (.int .u32 ((s % 4294967296 : Nat) : Int))).1
            rw [nums_set] at hst
            have hv := mul_step zs1 (k + m) s cy _ hp Hval1.out (xs[k] * ys[m]) hs
            refine ⟨m + 1, zs1.set (k + m) (s % 4294967296), s / 4294967296, by omega, by go_num, by go_num, by omega, by simpa using Hzl1.out, ?_, hws1.set _ _ (by omega), by rw [pow_mul_take k m xs[k] ys hlm, ← Nat.add_assoc k m 1, hv, Nat.add_assoc], fun t h1 h2 => ?_, hbr1.setCell (Nat.le_refl _) _⟩
            · exact hst
            · rw [List.getElem_set_ne (by omega)]
              exact Hzero1.out t h1 (by simpa using h2)
          case measure => simp [intOf]; omega
        · obtain rfl : m = ys.length := by omega
          have hp : k + ys.length < zs1.length := by have := Hzl1.out; omega
          have hcO : wr.cell? ⟨w.heap.size, k + ys.length, none⟩ = some (.int .u32 ((zs1[k + ys.length] : Nat) : Int)) := (hown1.cellAt _ (by omega)).trans (nums_get _)
          have hfO := hown1.frozenAt (k + ys.length)
          go_wp2_with fail
          go_roundw
          case rel =>
            have hst := (hown1.stored (k + ys.length) (.int .u32 (cy : Nat))).1
            rw [nums_set] at hst
            have hv := mul_end zs1 (k + ys.length) cy _ hp (Hzero1.out _ (Nat.le_refl _) hp) Hval1.out
            rw [List.take_length, ← mul_take_succ xs k (val ys) hlt] at hv
            refine ⟨k + 1, zs1.set (k + ys.length) cy, by omega, by go_num, by simpa using Hzl1.out, hst, hws1.set _ _ hcy, hv, fun t h1 h2 => ?_, hbr1.setCell (Nat.le_refl _) _⟩
            rw [List.getElem_set_ne (by omega)]
            exact Hzero1.out t (by omega) (by simpa using h2)
          case measure => simp [intOf]; omega
    · obtain rfl : k = xs.length := by omega
      go_wp2_with fail
      go_ret
      have hv := Hval.out
      rw [List.take_length] at hv
      rw [← Hzl.out] at hown'
      exact ⟨_, zs, by rw [← Hzl.out]; rfl, Words.of_own hown' hws (fun b h1 _ _ => by unfold Old; omega), hv, by rw [Hzl.out, HN.out], hbr⟩
end Go.Proofs.YtpeglenapmkdfaaGreat

/- Clean, Neg, Abs, Sign, Valid, Mul of package integer. -/
namespace Go.Proofs.YtpeglenapmkdfaaGreat
open Go.RowKit
attribute [local go_sem ↓] Go.wp_at_zero Go.wp_at_succ

set_option maxHeartbeats 1000000 in
theorem mul_any (w : World) (X : Nat → Prop) (v1 v2 : Value) (n1 n2 : Bool) (xs ys : List Nat) (h1 : IntR w X v1 n1 xs) (h2 : IntR w X v2 n2 ys) (hs1 : xs.length ≤ 1099511627776) (hs2 : ys.length ≤ 1099511627776) :
    Calls Tryz.prog 93 #[v1, v2] w fun e w' => ∃ v', e = .returned v' ∧ IntV w' (Old w) v' (sv n1 xs * sv n2 ys) ∧ Below w.heap.size w w' := by
  obtain ⟨A, c, rfl, _, _, H1⟩ := h1.open_
  obtain ⟨B, d, rfl, _, _, H2⟩ := h2.open_
  go_enter Tryz.func93, Tryz.ntmps93
  go_wp2_with fail
  have KS := boxes3 w #[.bool n1, .slice A xs.length c] #[.bool n2, .slice B ys.length d] #[.bool false, .slice none 0 0] 42 42 42
  go_region_held3 (fun w' => w'.cell? ⟨w.heap.size, 0, none⟩ = some (.bool n1) ∧ w'.cell? ⟨w.heap.size, 1, none⟩ = some (.slice A xs.length c) ∧ w'.cell? ⟨w.heap.size + 1, 0, none⟩ = some (.bool n2) ∧ w'.cell? ⟨w.heap.size + 1, 1, none⟩ = some (.slice B ys.length d))
    (first | (refine (fun K => ⟨K.1.cell 0, K.1.cell 1, K.2.cell 0, K.2.cell 1⟩) (KS.out _ ?_); first | exact hbs.mono (by simp) | exact hbt.mono (by simp) | exact ((hbs.mono (by simp)).setCell (by simp) _).setCell (by simp) _) | go_keep)
    (first
      | (go_at_call_of 109 (Value.slice A xs.length c); refine (trim_any _ X (.slice A xs.length c) xs (by exact H1.below (below3 _ _ _ _).drew)).mono ?_; rintro e w' ⟨va, rfl, ha, rfl⟩)
      | (go_at_call_of 109 (Value.slice B ys.length d); refine (trim_any _ X (.slice B ys.length d) ys (by exact H2.below (below3 _ _ _ _).drew)).mono ?_; rintro e w' ⟨vb, rfl, hb, rfl⟩)
      | (go_at_call 108; refine (times_any _ X va vb (trimL xs) (trimL ys) ha hb (by have := trimL_len xs; omega) (by have := trimL_len ys; omega)).mono ?_; rintro e w2 ⟨vt, zs, rfl, ht, hv, hl, hb2⟩; have HV := Lib.hid hv; have HL := Lib.hid hl; clear hv hl; have hbt := below_undrew hb2; have hst := (locs3 hbt).2.2.2.2)
      | (go_at_call 107; refine (signed_any _ _ _ vt zs ht (by have := HL.out; have := trimL_len xs; have := trimL_len ys; omega)).mono ?_; rintro e w3 ⟨vs, rfl, hs, hb3⟩; have hbs := hbt.trans (hb3.mono hbt.size); rw [sv_mul n1 n2 (trimL xs) (trimL ys) zs HV.out, sv_trim, sv_trim] at hs; obtain ⟨As, cs, rfl, _, _, Hs⟩ := hs.open_; obtain ⟨La, Lb, Lr, hB, hsz⟩ := locs3 hbs; have cc := Lr.cell; have cf := Lr.frz))
  all_goals
    go_wp2_with fail
    refine bodyPost_ret (by simp [results, Tryz.results93, go_sem, cc, cf] <;> rfl) rfl ⟨_, rfl, IntV.stored hs (by simp [Old]; omega) _ _ (by intro b _; simp [Old]; omega), below_set2 hB (by omega) _ _⟩
end Go.Proofs.YtpeglenapmkdfaaGreat

/- plus: the sum of two magnitudes. -/
namespace Go.Proofs.YtpeglenapmkdfaaGreat
open Go.RowKit

set_option maxRecDepth 20000 in
set_option maxHeartbeats 1000000 in
theorem plus_any (w : World) (X : Nat → Prop) (va vb : Value) (xs ys : List Nat) (ha : Words w X va xs) (hb : Words w X vb ys) (hs : xs.length ≤ 1099511627776) (ht : ys.length ≤ 1099511627776) :
    Calls Tryz.prog 112 #[va, vb] w fun e w' => ∃ v' zs, e = .returned v' ∧ Words w' (Old w) v' zs ∧ val zs = val xs + val ys ∧ zs.length ≤ xs.length + ys.length + 1 ∧ Below w.heap.size w w' := by
  obtain ⟨i0, hi, hz0, hz1, hz2⟩ := info_parts info_u32
  obtain ⟨A, c, rfl, hc, _, HA⟩ := ha.open_
  obtain ⟨B, d, rfl, hd, _, HB⟩ := hb.open_
  go_enter Tryz.func112, Tryz.ntmps112
  go_upto_if 13 with fail
  go_cut [0, 1] (fun p q wx => w = wx ∧ ∃ P Q A' c' B' d', p = .slice A' (List.length P) c' ∧ q = .slice B' (List.length Q) d' ∧ Words w X p P ∧ Words w X q Q ∧ Q.length ≤ P.length ∧ P.length ≤ xs.length + ys.length ∧ P.length ≤ 1099511627776 ∧ val P + val Q = val xs + val ys)
  case first =>
    by_cases hl : xs.length < ys.length
    all_goals
      go_wp2_with fail
      go_meet
      case rel => first | exact ⟨rfl, ys, xs, B, d, A, c, rfl, rfl, HB, HA, by omega, by omega, by omega, by omega⟩ | exact ⟨rfl, xs, ys, A, c, B, d, rfl, rfl, HA, HB, by omega, by omega, by omega, by omega⟩
  case rest =>
    obtain ⟨rfl, P, Q, A', c', B', d', rfl, rfl, HP, HQ, hQP, hPl, hPm, hsum⟩ := hcut
    have Hsum := Lib.hid hsum
    clear hsum
    go_wp2_with (at_make; refine wpList_make0 _ rfl _ _ rfl Tryz.underlying40 info_u32 w.heap.size (P.length + 1) rfl rfl (by omega) (by omega) (by unfold maxLen; omega) (by omega) ?_)
    intro w1 hown hgrow
    have hb1 : Below w.heap.size w w1 := below_none (Below.refl _ _) hgrow (Nat.le_refl _)
    clear hgrow
    go_wp2_with fail
    go_loopw [5, 6, 22] (fun o cr i wr => ∃ (k : Nat) (zs : List Nat) (cy : Nat), k ≤ P.length ∧ i = .int .i64 k ∧ cr = .int .u64 cy ∧ cy ≤ 1 ∧ zs.length = k ∧ wr.ownsRow w.heap.size 113 1 o zs.length (nums .u32 zs) ∧ Ws zs ∧
      val zs + 4294967296 ^ k * cy = val (P.take k) + val (Q.take k) ∧ Below w.heap.size w wr) (fun _ _ i _ => P.length - (intOf i).toNat)
    case atStart => exact ⟨0, [], 0, by omega, rfl, rfl, by omega, rfl, by simpa [nums] using hown, Ws.nil, by simp, hb1⟩
    case round =>
      obtain ⟨k, zs, cy, hk, rfl, rfl, hcy, hzl, hown', hws, hval, hbr⟩ := hrel
      have Hval := Lib.hid hval
      have Hzl := Lib.hid hzl
      have hzb : zs.length ≤ 1099511627776 := by omega
      have hsz := hbr.size
      clear hval hzl hown
      have HPr := HP.below hbr
      have HQr := HQ.below hbr
      by_cases hlt : k < P.length
      · obtain ⟨a, rfl, _, _, hca⟩ := HPr.at_ hlt
        have bx := HP.lt hlt
        by_cases hq : k < Q.length
        · obtain ⟨b, rfl, _, _, hcb⟩ := HQr.at_ hq
          have bq := HQ.lt hq
          go_wp2_with (at_builtin; refine wpList_push _ rfl _ _ rfl Tryz.underlying40 info_u32 rfl w.heap.size _ _ _ rfl (hown'.alloc _) _ _ rfl (heap_alloc_new wr _) rfl (by omega) (by unfold maxLen; omega) (by simp; omega) ?_)
          intro v2 w2 hown2 hg2 _
          have hb2 := below_own (hbr.alloc hsz _) (hown'.alloc _) hg2 (Nat.le_refl _) (by simp; omega)
          go_wp2_with fail
          go_roundw
          case rel =>
            rw [nums_snoc' _ _ _ ((cy + P[k] + Q[k]) % 4294967296) (by omega)] at hown2
            exact ⟨k + 1, zs ++ [(cy + P[k] + Q[k]) % 4294967296], (cy + P[k] + Q[k]) / 4294967296, by omega, by go_num, by go_num, by omega, by simp [Hzl.out], by simpa using hown2, Ws.append.2 ⟨hws, by simp [Ws]; omega⟩, add_step zs P Q k cy Hzl.out Hval.out hlt hq, hb2⟩
          case measure => simp [intOf]; omega
        · go_wp2_with (at_builtin; refine wpList_push _ rfl _ _ rfl Tryz.underlying40 info_u32 rfl w.heap.size _ _ _ rfl (hown'.alloc _) _ _ rfl (heap_alloc_new wr _) rfl (by omega) (by unfold maxLen; omega) (by simp; omega) ?_)
          intro v2 w2 hown2 hg2 _
          have hb2 := below_own (hbr.alloc hsz _) (hown'.alloc _) hg2 (Nat.le_refl _) (by simp; omega)
          go_wp2_with fail
          go_roundw
          case rel =>
            rw [nums_snoc' _ _ _ ((cy + P[k]) % 4294967296) (by omega)] at hown2
            exact ⟨k + 1, zs ++ [(cy + P[k]) % 4294967296], (cy + P[k]) / 4294967296, by omega, by go_num, by go_num, by omega, by simp [Hzl.out], by simpa using hown2, Ws.append.2 ⟨hws, by simp [Ws]; omega⟩, add_step1 zs P Q k cy Hzl.out Hval.out hlt (by omega), hb2⟩
          case measure => simp [intOf]; omega
      · go_wp2_with (at_builtin; refine wpList_push _ rfl _ _ rfl Tryz.underlying40 info_u32 rfl w.heap.size _ _ _ rfl (hown'.alloc _) _ _ rfl (heap_alloc_new wr _) rfl (by omega) (by unfold maxLen; omega) (by simp; omega) ?_)
        intro v2 w2 hown2 hg2 _
        have hb2 := below_own (hbr.alloc hsz _) (hown'.alloc _) hg2 (Nat.le_refl _) (by simp; omega)
        go_wp2_with fail
        go_ret
        rw [nums_snoc' _ _ _ (cy % 4294967296) (by omega)] at hown2
        refine ⟨_, zs ++ [cy % 4294967296], rfl, Words.of_own (by simpa using hown2) (Ws.append.2 ⟨hws, by simp [Ws]; omega⟩) (fun b h1 _ _ => by unfold Old; omega), ?_, by have := Hzl.out; simp; omega, hb2⟩
        have h1 := Hval.out
        rw [List.take_of_length_le (by omega), List.take_of_length_le (by omega)] at h1
        rw [val_snoc, Hzl.out, Nat.mod_eq_of_lt (by omega), h1, Hsum.out]
end Go.Proofs.YtpeglenapmkdfaaGreat

/- minus: the difference of two magnitudes. -/
namespace Go.Proofs.YtpeglenapmkdfaaGreat
open Go.RowKit

set_option maxHeartbeats 1000000 in
theorem minus_any (w : World) (X : Nat → Prop) (va vb : Value) (xs ys : List Nat) (ha : Words w X va xs) (hb : Words w X vb ys) (hs : xs.length ≤ 1099511627776) (hle : val ys ≤ val xs) (hlen : ys.length ≤ xs.length) :
    Calls Tryz.prog 113 #[va, vb] w fun e w' => ∃ v' zs, e = .returned v' ∧ Words w' (Old w) v' zs ∧ val zs = val xs - val ys ∧ zs.length = xs.length ∧ Below w.heap.size w w' := by
  obtain ⟨A, c, rfl, hc, _, HA⟩ := ha.open_
  obtain ⟨B, d, rfl, hd, _, HB⟩ := hb.open_
  have Hle := Lib.hid hle
  clear hle
  go_enter Tryz.func113, Tryz.ntmps113
  go_wp2_with (at_make; refine wpList_makeN _ rfl _ _ rfl Tryz.underlying40 info_u32 rfl w.heap.size xs.length rfl rfl rfl rfl (by omega) (by unfold maxLen; omega) (Nat.le_refl _) ?_)
  intro w1 hown hgrow
  have hb1 : Below w.heap.size w w1 := below_none (Below.refl _ _) hgrow (Nat.le_refl _)
  rw [nums_zeros] at hown
  clear hgrow
  go_wp2_with fail
  go_loopw [6, 15] (fun br i wr => ∃ (k : Nat) (zs : List Nat) (b : Nat), k ≤ xs.length ∧ i = .int .i64 k ∧ br = .int .u32 b ∧ b ≤ 1 ∧ zs.length = xs.length ∧ wr.ownsRow w.heap.size 113 1 (.slice (some ⟨w.heap.size, 0, none⟩) xs.length xs.length) xs.length (nums .u32 zs) ∧ Ws zs ∧
      val (zs.take k) + val (ys.take k) = val (xs.take k) + 4294967296 ^ k * b ∧ Below w.heap.size w wr) (fun _ i _ => xs.length - (intOf i).toNat)
  case atStart => exact ⟨0, List.replicate xs.length 0, 0, by omega, rfl, rfl, by omega, by simp, hown, Ws.replicate _, by simp, hb1⟩
  case round =>
    obtain ⟨k, zs, b, hk, rfl, rfl, hbb, hzl, hown', hws, hval, hbr⟩ := hrel
    have Hval := Lib.hid hval
    have Hzl := Lib.hid hzl
    have hsz := hbr.size
    clear hval hzl hown
    have HPr := HA.below hbr
    have HQr := HB.below hbr
    by_cases hlt : k < xs.length
    · obtain ⟨a, rfl, _, _, hca⟩ := HPr.at_ hlt
      have bx := HA.lt hlt
      have hcO : wr.cell? ⟨w.heap.size, k, none⟩ = some (.int .u32 ((zs[k]'(by have := Hzl.out; omega) : Nat) : Int)) := (hown'.cellAt k (by omega)).trans (nums_get _)
      have hfO := hown'.frozenAt k
      by_cases hq : k < ys.length
      · obtain ⟨q, rfl, _, _, hcb⟩ := HQr.at_ hq
        have bq := HB.lt hq
        go_wp2_with (go_at_call 117; refine (sub32_any _ _ _ _ bx bq hbb).mono ?_; rintro e w' ⟨rfl, rfl⟩)
        go_roundw
        case rel =>
          have hst := (hown'.stored k (.int .u32 (dif xs[k] ys[k] b : Nat))).1
          rw [nums_set] at hst
          have hv := sub_step zs xs k (dif xs[k] ys[k] b) xs[k] ys[k] b (bor xs[k] ys[k] b) (val (ys.take k)) (by have := Hzl.out; omega) hlt rfl (dif_bor _ _ _ bx bq hbb) Hval.out
          rw [← val_take_succ ys k hq] at hv
          exact ⟨k + 1, zs.set k (dif xs[k] ys[k] b), bor xs[k] ys[k] b, by omega, by go_num, rfl, bor_le _ _ _, by simpa using Hzl.out, hst, hws.set _ _ (dif_lt _ _ _), hv, hbr.setCell (Nat.le_refl _) _⟩
        case measure => simp [intOf]; omega
      · go_wp2_with (go_at_call 117; refine (sub32_any _ _ 0 _ bx (by omega) hbb).mono ?_; rintro e w' ⟨rfl, rfl⟩)
        go_roundw
        case rel =>
          have hst := (hown'.stored k (.int .u32 (dif xs[k] 0 b : Nat))).1
          rw [nums_set] at hst
          have hv := sub_step zs xs k (dif xs[k] 0 b) xs[k] 0 b (bor xs[k] 0 b) (val (ys.take k)) (by have := Hzl.out; omega) hlt rfl (dif_bor _ _ _ bx (by omega) hbb) Hval.out
          rw [Nat.mul_zero, Nat.add_zero, ← val_take_more ys k (by omega)] at hv
          exact ⟨k + 1, zs.set k (dif xs[k] 0 b), bor xs[k] 0 b, by omega, by go_num, rfl, bor_le _ _ _, by simpa using Hzl.out, hst, hws.set _ _ (dif_lt _ _ _), hv, hbr.setCell (Nat.le_refl _) _⟩
        case measure => simp [intOf]; omega
    · go_wp2_with fail
      go_ret
      obtain rfl : k = xs.length := by omega
      have hv := Hval.out
      rw [List.take_of_length_le (by have := Hzl.out; omega), List.take_of_length_le (by omega), List.take_of_length_le (by omega)] at hv
      have hend := sub_end zs xs ys b hws Hzl.out Hle.out hv
      rw [← Hzl.out] at hown'
      exact ⟨_, zs, by rw [← Hzl.out]; rfl, Words.of_own hown' hws (fun b h1 _ _ => by unfold Old; omega), hend.1, Hzl.out, hbr⟩
end Go.Proofs.YtpeglenapmkdfaaGreat

