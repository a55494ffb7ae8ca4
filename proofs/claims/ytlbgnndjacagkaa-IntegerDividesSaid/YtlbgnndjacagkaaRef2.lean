/- The reference's inner functions, second part: timesWord, subWords, compareWords. -/
import Derived.Test.YtlbgnndjacagkaaRows
import Derived.Test.YtlbgnndjacagkaaRef1
namespace Go.Proofs.Ytlbgnndjacagkaa
open Go.RowKit

theorem timesWord_step (zs xs : List Nat) (k d cy : Nat) (hl : zs.length = k) (hk : k < xs.length) (hv : val zs + 4294967296 ^ k * cy = val (xs.take k) * d) :
    val (zs ++ [(xs[k] * d + cy) % 4294967296]) + 4294967296 ^ (k + 1) * ((xs[k] * d + cy) / 4294967296) = val (xs.take (k + 1)) * d := by
  refine carry_step zs k _ cy _ hl ?_
  rw [val_take_succ xs k hk, Nat.mul_add, Nat.add_mul, ← hv, Nat.mul_assoc]
  omega

set_option maxHeartbeats 1000000 in
theorem timesWord_any (w : World) (X : Nat → Prop) (va : Value) (xs : List Nat) (d : Nat) (ha : Words w X va xs) (hs : xs.length ≤ 1000000000000) (hd : d ≤ 4294967296) :
    Calls Try.prog 57 #[va, .int .u64 d] w fun e w' => ∃ v', e = .returned v' ∧ Words w' (Old w) v' (dig (val xs * d)) ∧ Below w.heap.size w w' := by
  obtain ⟨A, c, rfl, hc, _, HA⟩ := ha.open_
  go_enter Try.func57, Try.ntmps57
  go_wp2_with fail
  go_loopw [5, 6, 7] (fun o cr i wr => ∃ (k : Nat) (zs : List Nat) (cy : Nat), k ≤ xs.length ∧ i = .int .i64 k ∧ cr = .int .u64 cy ∧ cy < 4294967296 ∧ zs.length = k ∧ wr.ownsRow w.heap.size 44 1 o zs.length (nums .u32 zs) ∧ Ws zs ∧
      val zs + 4294967296 ^ k * cy = val (xs.take k) * d ∧ Below w.heap.size w wr) (fun _ _ i _ => xs.length - (intOf i).toNat)
  case atStart => exact ⟨0, [], 0, by omega, rfl, rfl, by omega, rfl, World.ownsRow_lit w #[] 0 (Nat.le_refl _) (by unfold maxLen; omega) rfl, Ws.nil, by simp, (Below.refl _ _).alloc (Nat.le_refl _) _⟩
  case round =>
    obtain ⟨k, zs, cy, hk, rfl, rfl, hcy, hzl, hown', hws, hval, hbr⟩ := hrel
    have Hval := Lib.hid hval
    have Hzl := Lib.hid hzl
    have hzb : zs.length ≤ k := by omega
    have hsz := hbr.size
    clear hval hzl
    have HPr := HA.below hbr
    by_cases hlt : k < xs.length
    · obtain ⟨a, rfl, _, _, hca⟩ := HPr.at_ hlt
      have bx := HA.lt hlt
      have m2 : xs[k] * d ≤ 4294967295 * 4294967296 := Nat.mul_le_mul (by omega) hd
      have m1 : ((xs[k] : Nat) : Int) * ((d : Nat) : Int) ≤ 18446744069414584320 := by rw [← Int.natCast_mul]; omega
      have m0 : 0 ≤ ((xs[k] : Nat) : Int) * ((d : Nat) : Int) := Int.mul_nonneg (by omega) (by omega)
      go_wp2_with (at_builtin; refine wpList_push _ rfl _ _ rfl Try.underlying22 info_u32 rfl w.heap.size _ _ _ rfl (hown'.alloc _) _ _ rfl (heap_alloc_new wr _) rfl (by omega) (by unfold maxLen; omega) (by simp; omega) ?_)
      intro v2 w2 hown2 hg2 _
      have hb2 := below_own (hbr.alloc hsz _) (hown'.alloc _) hg2 (Nat.le_refl _) (by simp; omega)
      go_wp2_with fail
      go_roundw
      case rel =>
        obtain ⟨s, hs'⟩ : ∃ s, s = xs[k] * d + cy := ⟨_, rfl⟩
        have es : ((xs[k] : Nat) : Int) * ((d : Nat) : Int) + ((cy : Nat) : Int) = (s : Int) := by rw [hs']; push_cast; omega
        have bs : s < 18446744073709551616 := by omega
        rw [es] at *
        have hv := timesWord_step zs xs k d cy Hzl.out hlt Hval.out
        rw [← hs'] at hv
        rw [nums_snoc' _ _ _ (s % 4294967296) (by omega)] at hown2
        exact ⟨k + 1, zs ++ [s % 4294967296], s / 4294967296, by omega, by go_num, by go_num, by omega, by simp [Hzl.out], by simpa using hown2, Ws.append.2 ⟨hws, by simp [Ws]; omega⟩, hv, hb2⟩
      case measure => simp [intOf]; omega
    · go_wp2_with (first | (at_builtin; refine wpList_push _ rfl _ _ rfl Try.underlying22 info_u32 rfl w.heap.size _ _ _ rfl (hown'.alloc _) _ _ rfl (heap_alloc_new wr _) rfl (by omega) (by unfold maxLen; omega) (by simp; omega) ?_) | (go_at_call 51; fail))
      intro v2 w2 hown2 hg2 _
      have hb2 := below_own (hbr.alloc hsz _) (hown'.alloc _) hg2 (Nat.le_refl _) (by simp; omega)
      rw [nums_snoc' _ _ _ (cy % 4294967296) (by omega)] at hown2
      have W2 : Words w2 (Old w) v2 (zs ++ [cy % 4294967296]) := Words.of_own (by simpa using hown2) (Ws.append.2 ⟨hws, by simp [Ws]; omega⟩) (fun b h1 _ _ => by unfold Old; omega)
      go_wp2_with fail
      refine (rtrim_any _ _ _ _ W2 (by simp; omega)).mono ?_
      rintro e w3 ⟨v3, rfl, h3, hb3⟩
      go_wp2_with fail
      go_ret
      have hv := Hval.out
      rw [List.take_of_length_le (by omega)] at hv
      rw [trimL_dig W2.2, val_snoc, Hzl.out, Nat.mod_eq_of_lt (by omega), hv] at h3
      exact ⟨_, rfl, h3.weak (by intro b _; unfold Old; have := hb2.size; omega), hb2.trans (hb3.mono hb2.size)⟩

theorem subWords_step (zs P : List Nat) (k s x y b b' QK : Nat) (hz : zs.length = k) (hp : k < P.length) (hx : x = P[k]) (hd : s % 4294967296 + y + b = x + 4294967296 * b')
    (hv : val zs + QK = val (P.take k) + 4294967296 ^ k * b) :
    val (zs ++ [s % 4294967296]) + (QK + 4294967296 ^ k * y) = val (P.take (k + 1)) + 4294967296 ^ (k + 1) * b' := by
  rw [val_snoc, hz, val_take_succ P k hp, ← hx, Nat.pow_succ]
  have e : 4294967296 ^ k * (s % 4294967296 + y + b) = 4294967296 ^ k * (x + 4294967296 * b') := by rw [hd]
  simp only [Nat.mul_add] at e
  rw [Nat.mul_assoc]
  omega

set_option maxHeartbeats 1000000 in
theorem subWords_any (w : World) (X : Nat → Prop) (va vb : Value) (xs ys : List Nat) (ha : Words w X va xs) (hb : Words w X vb ys) (hs : xs.length ≤ 1000000000000) (hle : val ys ≤ val xs) (hlen : ys.length ≤ xs.length) :
    Calls Try.prog 66 #[va, vb] w fun e w' => ∃ v', e = .returned v' ∧ Words w' (Old w) v' (dig (val xs - val ys)) ∧ Below w.heap.size w w' := by
  obtain ⟨A, c, rfl, hc, _, HA⟩ := ha.open_
  obtain ⟨B, d, rfl, hd, _, HB⟩ := hb.open_
  have Hle := Lib.hid hle
  clear hle
  go_enter Try.func66, Try.ntmps66
  go_wp2_with fail
  go_loopw [5, 6, 7] (fun o cr i wr => ∃ (k : Nat) (zs : List Nat) (b : Nat), k ≤ xs.length ∧ i = .int .i64 k ∧ cr = .int .u64 b ∧ b ≤ 1 ∧ zs.length = k ∧ wr.ownsRow w.heap.size 44 1 o zs.length (nums .u32 zs) ∧ Ws zs ∧
      val zs + val (ys.take k) = val (xs.take k) + 4294967296 ^ k * b ∧ Below w.heap.size w wr) (fun _ _ i _ => xs.length - (intOf i).toNat)
  case atStart => exact ⟨0, [], 0, by omega, rfl, rfl, by omega, rfl, World.ownsRow_lit w #[] 0 (Nat.le_refl _) (by unfold maxLen; omega) rfl, Ws.nil, by simp, (Below.refl _ _).alloc (Nat.le_refl _) _⟩
  case round =>
    obtain ⟨k, zs, b, hk, rfl, rfl, hbb, hzl, hown', hws, hval, hbr⟩ := hrel
    have Hval := Lib.hid hval
    have Hzl := Lib.hid hzl
    have hzb : zs.length ≤ k := by omega
    have hsz := hbr.size
    clear hval hzl
    have HPr := HA.below hbr
    have HQr := HB.below hbr
    have bx := wordAt_lt HA.2 k
    have by_ := wordAt_lt HB.2 k
    by_cases hlt : k < xs.length
    · go_wp2_with (first | (go_at_call 61; ((with_reducible refine (word_any _ X (.slice A xs.length c) xs k HPr).mono ?_); rintro e w' ⟨rfl, rfl⟩)) | (go_at_call 61; ((with_reducible refine (word_any _ X (.slice B ys.length d) ys k HQr).mono ?_); rintro e w' ⟨rfl, rfl⟩)) | (at_builtin; refine wpList_push _ rfl _ _ rfl Try.underlying22 info_u32 rfl w.heap.size _ _ _ rfl (hown'.alloc _) _ _ rfl (heap_alloc_new wr _) rfl (by omega) (by unfold maxLen; omega) (by simp; omega) ?_))
      intro v2 w2 hown2 hg2 _
      have hb2 := below_own (hbr.alloc hsz _) (hown'.alloc _) hg2 (Nat.le_refl _) (by simp; omega)
      go_wp2_with fail
      go_roundw
      case rel =>
        rw [nums_snoc' _ _ _ ((4294967296 + wordAt xs k - wordAt ys k - b) % 4294967296) (by omega)] at hown2
        have hv := subWords_step zs xs k (4294967296 + wordAt xs k - wordAt ys k - b) (wordAt xs k) (wordAt ys k) b (1 - (4294967296 + wordAt xs k - wordAt ys k - b) / 4294967296) (val (ys.take k)) Hzl.out hlt (wordAt_in hlt) (by omega) Hval.out
        rw [← val_take_wordAt] at hv
        exact ⟨k + 1, zs ++ [(4294967296 + wordAt xs k - wordAt ys k - b) % 4294967296], 1 - (4294967296 + wordAt xs k - wordAt ys k - b) / 4294967296, by omega, by go_num, by go_num, by omega, by simp [Hzl.out], by simpa using hown2, Ws.append.2 ⟨hws, by simp [Ws]; omega⟩, hv, hb2⟩
      case measure => simp [intOf]; omega
    · obtain rfl : k = xs.length := by omega
      go_wp2_with fail
      have W2 : Words wr (Old w) _ zs := Words.of_own hown' hws (fun b h1 _ _ => by unfold Old; omega)
      refine (rtrim_any _ _ _ _ W2 (by omega)).mono ?_
      rintro e w3 ⟨v3, rfl, h3, hb3⟩
      go_wp2_with fail
      go_ret
      have hv := Hval.out
      rw [List.take_of_length_le (by omega), List.take_of_length_le (by omega)] at hv
      have hend := sub_end zs xs ys b hws Hzl.out Hle.out hv
      rw [trimL_dig hws, hend.1] at h3
      exact ⟨_, rfl, h3.weak (by intro b _; unfold Old; have := hbr.size; omega), hbr.trans (hb3.mono hbr.size)⟩

set_option maxHeartbeats 1000000 in
theorem compareWords_any (w : World) (X : Nat → Prop) (va vb : Value) (xs ys : List Nat) (ha : Words w X va xs) (hb : Words w X vb ys) (hx : Can xs) (hy : Can ys) :
    Calls Try.prog 65 #[va, vb] w fun e w' => e = .returned (.int .i64 (cmpN (val xs) (val ys))) ∧ ∃ n, w' = w.drewN n := by
  have m1 := ha.lt_max
  have m2 := hb.lt_max
  obtain ⟨A, c, rfl, hc, _, HA⟩ := ha.open_
  obtain ⟨B, d, rfl, hd, _, HB⟩ := hb.open_
  by_cases hl : xs.length = ys.length
  · have hlb : ((xs.length : Int) != (ys.length : Int)) = false := by simp [hl]
    have HL := Lib.hid hl
    have hl1 : xs.length ≤ ys.length := by omega
    have hl2 : ys.length ≤ xs.length := by omega
    clear hl
    go_enter Try.func65, Try.ntmps65
    go_wp2_with fail
    go_loopw [5] (fun i wr => ∃ (k n : Nat), k ≤ xs.length ∧ i = .int .i64 ((k : Int) - 1) ∧ xs.drop k = ys.drop k ∧ wr = w.drewN n) (fun i _ => (intOf i + 1).toNat)
    case atStart => exact ⟨xs.length, 0, by omega, rfl, by rw [List.drop_length, List.drop_of_length_le hl2], rfl⟩
    case round =>
      obtain ⟨k, n, hk, rfl, hdr, rfl⟩ := hrel
      have Hdr := Lib.hid hdr
      clear hdr
      by_cases hlt : 0 < k
      · obtain ⟨p, rfl⟩ : ∃ p, k = p + 1 := ⟨k - 1, by omega⟩
        have hp : p < xs.length := by omega
        have hq : p < ys.length := by omega
        obtain ⟨a, rfl, _, _, hca⟩ := HA.at_ hp
        obtain ⟨b, rfl, _, _, hcb⟩ := HB.at_ hq
        have ip : (p : Int) < (xs.length : Int) := by omega
        have iq : (p : Int) < (ys.length : Int) := by omega
        rcases Nat.lt_trichotomy xs[p] ys[p] with h | h | h
        · have h1 : ((xs[p] : Nat) : Int) < ((ys[p] : Nat) : Int) := by omega
          have hd : decide (((xs[p] : Nat) : Int) < ((ys[p] : Nat) : Int)) = true := by simpa using h
          go_wp2_with fail
          go_quiet (fail)
          go_wp2_with fail
          go_ret
          exact ⟨ret_eq (int_eq (cmpN_lt (val_lt_at xs ys HL.out hx.1 p hp Hdr.out h)).symm), _, by rw [World.drewN_drewN]⟩
        · have h1 : ¬ ((xs[p] : Nat) : Int) < ((ys[p] : Nat) : Int) := by omega
          have h2 : ¬ ((ys[p] : Nat) : Int) < ((xs[p] : Nat) : Int) := by omega
          have hd : decide (((xs[p] : Nat) : Int) < ((ys[p] : Nat) : Int)) = false := by simp; omega
          have hd2 : decide (((ys[p] : Nat) : Int) < ((xs[p] : Nat) : Int)) = false := by simp; omega
          have HE := Lib.hid h
          clear h
          go_wp2_with fail
          go_quiet (fail)
          go_wp2_with fail
          go_quiet (fail)
          go_wp2_with fail
          go_roundw
          case rel => exact ⟨p, _, by omega, by go_num, by rw [List.drop_eq_getElem_cons hp, List.drop_eq_getElem_cons hq, HE.out, Hdr.out], rfl⟩
          case measure => simp [intOf] <;> omega
        · have h1 : ¬ ((xs[p] : Nat) : Int) < ((ys[p] : Nat) : Int) := by omega
          have h2 : ((ys[p] : Nat) : Int) < ((xs[p] : Nat) : Int) := by omega
          have hd : decide (((xs[p] : Nat) : Int) < ((ys[p] : Nat) : Int)) = false := by simp; omega
          have hd2 : decide (((ys[p] : Nat) : Int) < ((xs[p] : Nat) : Int)) = true := by simp; omega
          go_wp2_with fail
          go_quiet (fail)
          go_wp2_with fail
          go_quiet (fail)
          go_wp2_with fail
          go_ret
          exact ⟨ret_eq (int_eq (cmpN_gt (val_lt_at ys xs HL.out.symm hy.1 p hq Hdr.out.symm h)).symm), _, by rw [World.drewN_drewN, World.drewN_drewN]⟩
      · obtain rfl : k = 0 := by omega
        go_wp2_with fail
        go_ret
        have h := Hdr.out
        simp only [List.drop_zero] at h
        exact ⟨ret_eq (int_eq (cmpN_eq (by rw [h])).symm), n, rfl⟩
  · have hlb : ((xs.length : Int) != (ys.length : Int)) = true := by simp; omega
    by_cases hlt : xs.length < ys.length
    · go_enter Try.func65, Try.ntmps65
      go_wp2_with fail
      go_ret
      exact ⟨ret_eq (int_eq (cmpN_lt (val_lt_of_len hx.1 hy hlt)).symm), 0, rfl⟩
    · go_enter Try.func65, Try.ntmps65
      go_wp2_with fail
      go_ret
      exact ⟨ret_eq (int_eq (cmpN_gt (val_lt_of_len hy.1 hx (by omega))).symm), 0, rfl⟩
end Go.Proofs.Ytlbgnndjacagkaa
