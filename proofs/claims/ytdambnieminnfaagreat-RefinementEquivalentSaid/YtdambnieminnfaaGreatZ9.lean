/- Contracts of the functions that the statements reach, part 9. -/
import Derived.Test.YtdambnieminnfaaGreatRows
import Derived.Deep.RegionHeld3
import Derived.Deep.DrawnRows
import Derived.Test.YtdambnieminnfaaGreatZ5
import Derived.Test.YtdambnieminnfaaGreatZ6
import Derived.Test.YtdambnieminnfaaGreatZ7
import Derived.Test.YtdambnieminnfaaGreatZ8
set_option linter.unusedSimpArgs false
set_option linter.unusedVariables false

/- The reference's inner functions, second part: timesWord, subWords, compareWords. -/
namespace Go.Proofs.YtdambnieminnfaaGreat
open Go.RowKit

theorem timesWord_step (zs xs : List Nat) (k d cy : Nat) (hl : zs.length = k) (hk : k < xs.length) (hv : val zs + 4294967296 ^ k * cy = val (xs.take k) * d) :
 val (zs ++ [(xs[k] * d + cy) % 4294967296]) + 4294967296 ^ (k + 1) * ((xs[k] * d + cy) / 4294967296) = val (xs.take (k + 1)) * d := by
 refine carry_step zs k _ cy _ hl ?_
 rw [val_take_succ xs k hk, Nat.mul_add, Nat.add_mul, ← hv, Nat.mul_assoc]
 omega

set_option maxHeartbeats 1000000 in
theorem timesWord_any (w : World) (X : Nat → Prop) (va : Value) (xs : List Nat) (d : Nat) (ha : Words w X va xs) (hs : xs.length ≤ 1000000000000) (hd : d ≤ 4294967296) :
 Calls Tryz.prog 145 #[va, .int .u64 d] w fun e w' => ∃ v', e = .returned v' ∧ Words w' (Old w) v' (dig (val xs * d)) ∧ Below w.heap.size w w' := by
 obtain ⟨A, c, rfl, hc, _, HA⟩ := ha.open_
 go_enter Tryz.func145, Tryz.ntmps145
 go_wp2_with fail
 go_loopw [5, 6, 7] (fun o cr i wr => ∃ (k : Nat) (zs : List Nat) (cy : Nat), k ≤ xs.length ∧ i = .int .i64 k ∧ cr = .int .u64 cy ∧ cy < 4294967296 ∧ zs.length = k ∧ wr.ownsRow w.heap.size 129 1 o zs.length (nums .u32 zs) ∧ Ws zs ∧
  val zs + 4294967296 ^ k * cy = val (xs.take k) * d ∧ Below w.heap.size w wr) (fun _ _ i _ => xs.length - (intOf i).toNat)
 case atStart => exact ⟨0, [], 0, by omega, rfl, rfl, by omega, rfl, World.ownsRow_lit w #[] 0 (Nat.le_refl _) (by unfold maxLen; omega) rfl, Ws.nil, by simp, (Below.refl _ _).alloc (Nat.le_refl _) _⟩
 case round =>
  obtain ⟨k, zs, cy, hk, rfl, rfl, hcy, hzl, hown', hws, hval, hbr⟩ := hrel
  have Hval := Lib.hid hval
  have Hzl := Lib.hid hzl
  have hzb : zs.length ≤ k := by omega
  have hsz := hbr.size
  clear hval hzl
  have HPr := HA.below hbr
  by_cases hlt : k < xs.length
  ·obtain ⟨a, rfl, _, _, hca⟩ := HPr.at_ hlt
   have bx := HA.lt hlt
   have m2 : xs[k] * d ≤ 4294967295 * 4294967296 := Nat.mul_le_mul (by omega) hd
   have m1 : ((xs[k] : Nat) : Int) * ((d : Nat) : Int) ≤ 18446744069414584320 := by rw [← Int.natCast_mul]; omega
   have m0 : 0 ≤ ((xs[k] : Nat) : Int) * ((d : Nat) : Int) := Int.mul_nonneg (by omega) (by omega)
   go_wp2_with (at_builtin; refine wpList_push _ rfl _ _ rfl Tryz.underlying56 info_u32 rfl w.heap.size _ _ _ rfl (hown'.alloc _) _ _ rfl (heap_alloc_new wr _) rfl (by omega) (by unfold maxLen; omega) (by simp; omega) ?_)
   intro v2 w2 hown2 hg2 _
   have hb2 := below_own (hbr.alloc hsz _) (hown'.alloc _) hg2 (Nat.le_refl _) (by simp; omega)
   go_wp2_with fail
   go_roundw
   case rel =>
    obtain ⟨s, hs'⟩ : ∃ s, s = xs[k] * d + cy := ⟨_, rfl⟩
    have es : ((xs[k] : Nat) : Int) * ((d : Nat) : Int) + ((cy : Nat) : Int) = (s : Int) := by rw [hs']; push_cast; omega
    have bs : s < 18446744073709551616 := by omega
    rw [es] at *
    have hv := timesWord_step zs xs k d cy Hzl.out hlt Hval.out
    rw [← hs'] at hv
    rw [nums_snoc' _ _ _ (s % 4294967296) (by omega)] at hown2
    exact ⟨k + 1, zs ++ [s % 4294967296], s / 4294967296, by omega, by go_num, by go_num, by omega, by simp [Hzl.out], by simpa using hown2, Ws.append.2 ⟨hws, by simp [Ws]; omega⟩, hv, hb2⟩
   case measure => simp [intOf]; omega
  ·go_wp2_with (first | (at_builtin; refine wpList_push _ rfl _ _ rfl Tryz.underlying56 info_u32 rfl w.heap.size _ _ _ rfl (hown'.alloc _) _ _ rfl (heap_alloc_new wr _) rfl (by omega) (by unfold maxLen; omega) (by simp; omega) ?_) | (go_at_call 109; fail))
   intro v2 w2 hown2 hg2 _
   have hb2 := below_own (hbr.alloc hsz _) (hown'.alloc _) hg2 (Nat.le_refl _) (by simp; omega)
   rw [nums_snoc' _ _ _ (cy % 4294967296) (by omega)] at hown2
   have W2 : Words w2 (Old w) v2 (zs ++ [cy % 4294967296]) := Words.of_own (by simpa using hown2) (Ws.append.2 ⟨hws, by simp [Ws]; omega⟩) (fun b h1 _ _ => by unfold Old; omega)
   go_wp2_with fail
   refine (rtrim_any _ _ _ _ W2 (by simp; omega)).mono ?_
   rintro e w3 ⟨v3, rfl, h3, hb3⟩
   go_wp2_with fail
   go_ret
   have hv := Hval.out
   rw [List.take_of_length_le (by omega)] at hv
   rw [trimL_dig W2.2, val_snoc, Hzl.out, Nat.mod_eq_of_lt (by omega), hv] at h3
   exact ⟨_, rfl, h3.weak (by intro b _; unfold Old; have := hb2.size; omega), hb2.trans (hb3.mono hb2.size)⟩

theorem subWords_step (zs P : List Nat) (k s x y b b' QK : Nat) (hz : zs.length = k) (hp : k < P.length) (hx : x = P[k]) (hd : s % 4294967296 + y + b = x + 4294967296 * b')
 (hv : val zs + QK = val (P.take k) + 4294967296 ^ k * b) :
 val (zs ++ [s % 4294967296]) + (QK + 4294967296 ^ k * y) = val (P.take (k + 1)) + 4294967296 ^ (k + 1) * b' := by
 rw [val_snoc, hz, val_take_succ P k hp, ← hx, Nat.pow_succ]
 have e : 4294967296 ^ k * (s % 4294967296 + y + b) = 4294967296 ^ k * (x + 4294967296 * b') := by rw [hd]
 simp only [Nat.mul_add] at e
 rw [Nat.mul_assoc]
 omega

set_option maxHeartbeats 1000000 in
theorem subWords_any (w : World) (X : Nat → Prop) (va vb : Value) (xs ys : List Nat) (ha : Words w X va xs) (hb : Words w X vb ys) (hs : xs.length ≤ 1000000000000) (hle : val ys ≤ val xs) (hlen : ys.length ≤ xs.length) :
 Calls Tryz.prog 113 #[va, vb] w fun e w' => ∃ v', e = .returned v' ∧ Words w' (Old w) v' (dig (val xs - val ys)) ∧ Below w.heap.size w w' := by
 obtain ⟨A, c, rfl, hc, _, HA⟩ := ha.open_
 obtain ⟨B, d, rfl, hd, _, HB⟩ := hb.open_
 have Hle := Lib.hid hle
 clear hle
 go_enter Tryz.func113, Tryz.ntmps113
 go_wp2_with fail
 go_loopw [5, 6, 7] (fun o cr i wr => ∃ (k : Nat) (zs : List Nat) (b : Nat), k ≤ xs.length ∧ i = .int .i64 k ∧ cr = .int .u64 b ∧ b ≤ 1 ∧ zs.length = k ∧ wr.ownsRow w.heap.size 129 1 o zs.length (nums .u32 zs) ∧ Ws zs ∧
  val zs + val (ys.take k) = val (xs.take k) + 4294967296 ^ k * b ∧ Below w.heap.size w wr) (fun _ _ i _ => xs.length - (intOf i).toNat)
 case atStart => exact ⟨0, [], 0, by omega, rfl, rfl, by omega, rfl, World.ownsRow_lit w #[] 0 (Nat.le_refl _) (by unfold maxLen; omega) rfl, Ws.nil, by simp, (Below.refl _ _).alloc (Nat.le_refl _) _⟩
 case round =>
  obtain ⟨k, zs, b, hk, rfl, rfl, hbb, hzl, hown', hws, hval, hbr⟩ := hrel
  have Hval := Lib.hid hval
  have Hzl := Lib.hid hzl
  have hzb : zs.length ≤ k := by omega
  have hsz := hbr.size
  clear hval hzl
  have HPr := HA.below hbr
  have HQr := HB.below hbr
  have bx := wordAt_lt HA.2 k
  have by_ := wordAt_lt HB.2 k
  by_cases hlt : k < xs.length
  ·go_wp2_with (first | (go_at_call 144; ((with_reducible refine (word_any _ X (.slice A xs.length c) xs k HPr).mono ?_); rintro e w' ⟨rfl, rfl⟩)) | (go_at_call 144; ((with_reducible refine (word_any _ X (.slice B ys.length d) ys k HQr).mono ?_); rintro e w' ⟨rfl, rfl⟩)) | (at_builtin; refine wpList_push _ rfl _ _ rfl Tryz.underlying56 info_u32 rfl w.heap.size _ _ _ rfl (hown'.alloc _) _ _ rfl (heap_alloc_new wr _) rfl (by omega) (by unfold maxLen; omega) (by simp; omega) ?_))
   intro v2 w2 hown2 hg2 _
   have hb2 := below_own (hbr.alloc hsz _) (hown'.alloc _) hg2 (Nat.le_refl _) (by simp; omega)
   go_wp2_with fail
   go_roundw
   case rel =>
    rw [nums_snoc' _ _ _ ((4294967296 + wordAt xs k - wordAt ys k - b) % 4294967296) (by omega)] at hown2
    have hv := subWords_step zs xs k (4294967296 + wordAt xs k - wordAt ys k - b) (wordAt xs k) (wordAt ys k) b (1 - (4294967296 + wordAt xs k - wordAt ys k - b) / 4294967296) (val (ys.take k)) Hzl.out hlt (wordAt_in hlt) (by omega) Hval.out
    rw [← val_take_wordAt] at hv
    exact ⟨k + 1, zs ++ [(4294967296 + wordAt xs k - wordAt ys k - b) % 4294967296], 1 - (4294967296 + wordAt xs k - wordAt ys k - b) / 4294967296, by omega, by go_num, by go_num, by omega, by simp [Hzl.out], by simpa using hown2, Ws.append.2 ⟨hws, by simp [Ws]; omega⟩, hv, hb2⟩
   case measure => simp [intOf]; omega
  ·obtain rfl : k = xs.length := by omega
   go_wp2_with fail
   have W2 : Words wr (Old w) _ zs := Words.of_own hown' hws (fun b h1 _ _ => by unfold Old; omega)
   refine (rtrim_any _ _ _ _ W2 (by omega)).mono ?_
   rintro e w3 ⟨v3, rfl, h3, hb3⟩
   go_wp2_with fail
   go_ret
   have hv := Hval.out
   rw [List.take_of_length_le (by omega), List.take_of_length_le (by omega)] at hv
   have hend := sub_end zs xs ys b hws Hzl.out Hle.out hv
   rw [trimL_dig hws, hend.1] at h3
   exact ⟨_, rfl, h3.weak (by intro b _; unfold Old; have := hbr.size; omega), hbr.trans (hb3.mono hbr.size)⟩

set_option maxHeartbeats 1000000 in
theorem compareWords_any (w : World) (X : Nat → Prop) (va vb : Value) (xs ys : List Nat) (ha : Words w X va xs) (hb : Words w X vb ys) (hx : Can xs) (hy : Can ys) :
 Calls Tryz.prog 112 #[va, vb] w fun e w' => e = .returned (.int .i64 (cmpN (val xs) (val ys))) ∧ ∃ n, w' = w.drewN n := by
 have m1 := ha.lt_max
 have m2 := hb.lt_max
 obtain ⟨A, c, rfl, hc, _, HA⟩ := ha.open_
 obtain ⟨B, d, rfl, hd, _, HB⟩ := hb.open_
 by_cases hl : xs.length = ys.length
 ·have hlb : ((xs.length : Int) != (ys.length : Int)) = false := by simp [hl]
  have HL := Lib.hid hl
  have hl1 : xs.length ≤ ys.length := by omega
  have hl2 : ys.length ≤ xs.length := by omega
  clear hl
  go_enter Tryz.func112, Tryz.ntmps112
  go_wp2_with fail
  go_loopw [5] (fun i wr => ∃ (k n : Nat), k ≤ xs.length ∧ i = .int .i64 ((k : Int) - 1) ∧ xs.drop k = ys.drop k ∧ wr = w.drewN n) (fun i _ => (intOf i + 1).toNat)
  case atStart => exact ⟨xs.length, 0, by omega, rfl, by rw [List.drop_length, List.drop_of_length_le hl2], rfl⟩
  case round =>
   obtain ⟨k, n, hk, rfl, hdr, rfl⟩ := hrel
   have Hdr := Lib.hid hdr
   clear hdr
   by_cases hlt : 0 < k
   ·obtain ⟨p, rfl⟩ : ∃ p, k = p + 1 := ⟨k - 1, by omega⟩
    have hp : p < xs.length := by omega
    have hq : p < ys.length := by omega
    obtain ⟨a, rfl, _, _, hca⟩ := HA.at_ hp
    obtain ⟨b, rfl, _, _, hcb⟩ := HB.at_ hq
    have ip : (p : Int) < (xs.length : Int) := by omega
    have iq : (p : Int) < (ys.length : Int) := by omega
    rcases Nat.lt_trichotomy xs[p] ys[p] with h | h | h
    ·have h1 : ((xs[p] : Nat) : Int) < ((ys[p] : Nat) : Int) := by omega
     have hd : decide (((xs[p] : Nat) : Int) < ((ys[p] : Nat) : Int)) = true := by simpa using h
     go_wp2_with fail
     go_quiet (fail)
     go_wp2_with fail
     go_ret
     exact ⟨ret_eq (int_eq (cmpN_lt (val_lt_at xs ys HL.out hx.1 p hp Hdr.out h)).symm), _, by rw [World.drewN_drewN]⟩
    ·have h1 : ¬ ((xs[p] : Nat) : Int) < ((ys[p] : Nat) : Int) := by omega
     have h2 : ¬ ((ys[p] : Nat) : Int) < ((xs[p] : Nat) : Int) := by omega
     have hd : decide (((xs[p] : Nat) : Int) < ((ys[p] : Nat) : Int)) = false := by simp; omega
     have hd2 : decide (((ys[p] : Nat) : Int) < ((xs[p] : Nat) : Int)) = false := by simp; omega
     have HE := Lib.hid h
     clear h
     go_wp2_with fail
     go_quiet (fail)
     go_wp2_with fail
     go_quiet (fail)
     go_wp2_with fail
     go_roundw
     case rel => exact ⟨p, _, by omega, by go_num, by rw [List.drop_eq_getElem_cons hp, List.drop_eq_getElem_cons hq, HE.out, Hdr.out], rfl⟩
     case measure => simp [intOf] <;> omega
    ·have h1 : ¬ ((xs[p] : Nat) : Int) < ((ys[p] : Nat) : Int) := by omega
     have h2 : ((ys[p] : Nat) : Int) < ((xs[p] : Nat) : Int) := by omega
     have hd : decide (((xs[p] : Nat) : Int) < ((ys[p] : Nat) : Int)) = false := by simp; omega
     have hd2 : decide (((ys[p] : Nat) : Int) < ((xs[p] : Nat) : Int)) = true := by simp; omega
     go_wp2_with fail
     go_quiet (fail)
     go_wp2_with fail
     go_quiet (fail)
     go_wp2_with fail
     go_ret
     exact ⟨ret_eq (int_eq (cmpN_gt (val_lt_at ys xs HL.out.symm hy.1 p hq Hdr.out.symm h)).symm), _, by rw [World.drewN_drewN, World.drewN_drewN]⟩
   ·obtain rfl : k = 0 := by omega
    go_wp2_with fail
    go_ret
    have h := Hdr.out
    simp only [List.drop_zero] at h
    exact ⟨ret_eq (int_eq (cmpN_eq (by rw [h])).symm), n, rfl⟩
 ·have hlb : ((xs.length : Int) != (ys.length : Int)) = true := by simp; omega
  by_cases hlt : xs.length < ys.length
  ·go_enter Tryz.func112, Tryz.ntmps112
   go_wp2_with fail
   go_ret
   exact ⟨ret_eq (int_eq (cmpN_lt (val_lt_of_len hx.1 hy hlt)).symm), 0, rfl⟩
  ·go_enter Tryz.func112, Tryz.ntmps112
   go_wp2_with fail
   go_ret
   exact ⟨ret_eq (int_eq (cmpN_gt (val_lt_of_len hy.1 hx (by omega))).symm), 0, rfl⟩
end Go.Proofs.YtdambnieminnfaaGreat

/- Valid, Sign, Of of package integer; Equal, made, Of of the reference; short, same of the law. -/
namespace Go.Proofs.YtdambnieminnfaaGreat
open Go.RowKit
attribute [local go_sem ↓] Go.wp_at_zero Go.wp_at_succ

set_option maxHeartbeats 400000 in
theorem sign_any (w : World) (X : Nat → Prop) (v : Value) (neg : Bool) (xs : List Nat) (h : IntR w X v neg xs) :
 Calls Tryz.prog 135 #[v] w fun e w' => e = .returned (.int .i64 (sv neg xs).sign) ∧ Below w.heap.size w w' := by
 obtain ⟨A, c, rfl, h1, h2, H⟩ := h.open_
 have hlen := trimL_dig H.2
 have hpos := dig_len_pos (val xs)
 by_cases h0 : val xs = 0
 ·have hn : trimL xs = [] := by rw [hlen, h0, dig_zero]
  have HN := Lib.hid hn
  have hs : (sv neg xs).sign = 0 := by unfold sv; rw [h0]; cases neg <;> simp
  have HS := Lib.hid hs
  clear hn hs hlen hpos h0
  go_enter Tryz.func135, Tryz.ntmps135
  go_wp2_with (go_at_call 129; refine (trim_any _ X _ xs (H.below (below1 _ _))).mono ?_; rintro e w' ⟨v1, rfl, hv1, rfl⟩; rw [HN.out] at hv1; obtain ⟨A1, c1, rfl, _, _, _⟩ := hv1.open_)
  go_ret
  exact ⟨ret_eq (int_eq HS.out.symm), below1 _ _⟩
 ·have hl : 0 < (trimL xs).length := by rw [hlen]; omega
  have hlb : (((trimL xs).length : Int) == 0) = false := by rw [beq_eq_false_iff_ne]; omega
  have hs : (sv neg xs).sign = if neg then -1 else 1 := by
   unfold sv; cases neg
   ·show ((val xs : Nat) : Int).sign = 1
    exact Int.sign_eq_one_of_pos (by omega)
   ·show (-((val xs : Nat) : Int)).sign = -1
    exact Int.sign_eq_neg_one_of_neg (by omega)
  have HS := Lib.hid hs
  clear hs hlen hpos h0
  cases neg
  all_goals
   go_enter Tryz.func135, Tryz.ntmps135
   go_wp2_with (go_at_call 129; refine (trim_any _ X _ xs (H.below (below1 _ _))).mono ?_; rintro e w' ⟨v1, rfl, hv1, rfl⟩; obtain ⟨A1, c1, rfl, _, _, _⟩ := hv1.open_)
   go_ret
   exact ⟨ret_eq (int_eq HS.out.symm), below1 _ _⟩

set_option maxHeartbeats 400000 in
theorem made_any (w : World) (X : Nat → Prop) (neg : Bool) (v : Value) (xs : List Nat) (h : Words w X v xs) (hsz : xs.length ≤ 1099511627776) :
 Calls Tryz.prog 110 #[.bool neg, v] w fun e w' => ∃ v', e = .returned v' ∧ IntV w' (Old w) v' (sv neg xs) ∧ Below w.heap.size w w' := by
 go_enter Tryz.func110, Tryz.ntmps110
 go_wp2_with fail
 refine (rtrim_any _ X v xs (h.below (below1 _ _)) hsz).mono ?_
 rintro e w2 ⟨v1, rfl, h2, hb2⟩
 obtain ⟨A, c, rfl, hc, _, H2⟩ := h2.open_
 obtain ⟨L2, hB, hsz2⟩ := locs1 hb2
 have c2 := L2.cell
 have f2 := L2.frz
 cases neg
 all_goals
  go_wp2_with fail
  refine bodyPost_ret (by simp [results, Tryz.results110, go_sem, c2, f2] <;> rfl) rfl ⟨_, rfl, ?_, ?_⟩
  ·refine ⟨_, by rw [sv_lt _ _ h.2]; simp; rfl, ?_⟩
   rw [sv_abs, ← trimL_dig h.2]
   exact (H2.keep (keep_set2 (by simp [Old]) _ _)).weak (by intro b _; simp [Old]; omega)
  ·exact below_set2 hB (Nat.le_refl _) _ _

/- Neg, Abs, Bits of package integer; Clean, Neg, Abs, Valid, Sign, Bits of the reference. -/

set_option maxHeartbeats 400000 in
theorem neg_any (w : World) (X : Nat → Prop) (v : Value) (neg : Bool) (xs : List Nat) (h : IntR w X v neg xs) (hsz : xs.length ≤ 1099511627776) :
 Calls Tryz.prog 160 #[v] w fun e w' => ∃ v', e = .returned v' ∧ IntV w' (Old w) v' (-(sv neg xs)) ∧ Below w.heap.size w w' := by
 obtain ⟨A, c, rfl, _, _, H⟩ := h.open_
 go_enter Tryz.func160, Tryz.ntmps160
 go_wp2_with fail
 refine (signed_any _ X _ _ xs (H.below (below2 _ _ _)) (by omega)).mono ?_
 rintro e w2 ⟨v2, rfl, h2, hb2⟩
 obtain ⟨b2, A2, n2, c2, rfl, h2⟩ := h2.op
 obtain ⟨La, Lr, hB, hsz2⟩ := locs2 hb2
 have cc := Lr.cell
 have cf := Lr.frz
 go_wp2_with fail
 refine bodyPost_ret (by simp [results, Tryz.results160, go_sem, cc, cf] <;> rfl) rfl ⟨_, rfl, ?_, below_set2 hB (by omega) _ _⟩
 have h3 := IntV.stored (g := w.heap.size + 1) (Y := Old w) h2 (by simp only [Old, World.size_alloc]; omega) (.bool b2) (.slice A2 n2 c2) (by intro b _ hb; simp only [Old, World.size_alloc] at hb ⊢; omega)
 rw [sv_not] at h3
 exact h3

set_option maxHeartbeats 400000 in
theorem rclean_any (w : World) (X : Nat → Prop) (v : Value) (neg : Bool) (xs : List Nat) (h : IntR w X v neg xs) (hsz : xs.length ≤ 1099511627776) :
 Calls Tryz.prog 115 #[v] w fun e w' => ∃ v', e = .returned v' ∧ IntV w' (Old w) v' (sv neg xs) ∧ Below w.heap.size w w' := by
 obtain ⟨A, c, rfl, _, _, H⟩ := h.open_
 go_enter Tryz.func115, Tryz.ntmps115
 go_wp2_with fail
 refine (made_any _ X _ _ xs (H.below (below2 _ _ _)) (by omega)).mono ?_
 rintro e w2 ⟨v2, rfl, h2, hb2⟩
 obtain ⟨b2, A2, n2, c2, rfl, h2⟩ := h2.op
 obtain ⟨La, Lr, hB, hsz2⟩ := locs2 hb2
 have cc := Lr.cell
 have cf := Lr.frz
 go_wp2_with fail
 refine bodyPost_ret (by simp [results, Tryz.results115, go_sem, cc, cf] <;> rfl) rfl ⟨_, rfl, ?_, below_set2 hB (by omega) _ _⟩
 have h3 := IntV.stored (g := w.heap.size + 1) (Y := Old w) h2 (by simp only [Old, World.size_alloc]; omega) (.bool b2) (.slice A2 n2 c2) (by intro b _ hb; simp only [Old, World.size_alloc] at hb ⊢; omega)
 exact h3

set_option maxHeartbeats 400000 in
theorem rneg_any (w : World) (X : Nat → Prop) (v : Value) (neg : Bool) (xs : List Nat) (h : IntR w X v neg xs) (hsz : xs.length ≤ 1099511627776) :
 Calls Tryz.prog 116 #[v] w fun e w' => ∃ v', e = .returned v' ∧ IntV w' (Old w) v' (-(sv neg xs)) ∧ Below w.heap.size w w' := by
 obtain ⟨A, c, rfl, _, _, H⟩ := h.open_
 go_enter Tryz.func116, Tryz.ntmps116
 go_wp2_with fail
 refine (made_any _ X _ _ xs (H.below (below2 _ _ _)) (by omega)).mono ?_
 rintro e w2 ⟨v2, rfl, h2, hb2⟩
 obtain ⟨b2, A2, n2, c2, rfl, h2⟩ := h2.op
 obtain ⟨La, Lr, hB, hsz2⟩ := locs2 hb2
 have cc := Lr.cell
 have cf := Lr.frz
 go_wp2_with fail
 refine bodyPost_ret (by simp [results, Tryz.results116, go_sem, cc, cf] <;> rfl) rfl ⟨_, rfl, ?_, below_set2 hB (by omega) _ _⟩
 have h3 := IntV.stored (g := w.heap.size + 1) (Y := Old w) h2 (by simp only [Old, World.size_alloc]; omega) (.bool b2) (.slice A2 n2 c2) (by intro b _ hb; simp only [Old, World.size_alloc] at hb ⊢; omega)
 rw [sv_not] at h3
 exact h3

end Go.Proofs.YtdambnieminnfaaGreat

/- Add and Sub of the reference. -/
namespace Go.Proofs.YtdambnieminnfaaGreat
open Go.RowKit
attribute [local go_sem ↓] Go.wp_at_zero Go.wp_at_succ
attribute [local go_sem] beq_self_eq_true

theorem val_add_lt {xs ys : List Nat} (hx : Ws xs) (hy : Ws ys) : val xs + val ys < 4294967296 ^ (xs.length + ys.length + 1) := by
 have h1 := val_lt hx
 have h2 := val_lt hy
 have h3 : 4294967296 ^ xs.length ≤ 4294967296 ^ (xs.length + ys.length) := Nat.pow_le_pow_right (by omega) (by omega)
 have h4 : 4294967296 ^ ys.length ≤ 4294967296 ^ (xs.length + ys.length) := Nat.pow_le_pow_right (by omega) (by omega)
 rw [Nat.pow_succ]
 omega

set_option maxHeartbeats 2000000 in
theorem radd_any (w : World) (X : Nat → Prop) (v1 v2 : Value) (n1 n2 : Bool) (xs ys : List Nat) (h1 : IntR w X v1 n1 xs) (h2 : IntR w X v2 n2 ys) (hs1 : xs.length ≤ 400000000000) (hs2 : ys.length ≤ 400000000000) :
 Calls Tryz.prog 68 #[v1, v2] w fun e w' => ∃ v', e = .returned v' ∧ IntV w' (Old w) v' (sv n1 xs + sv n2 ys) ∧ Below w.heap.size w w' := by
 obtain ⟨A, c, rfl, _, _, H1⟩ := h1.open_
 obtain ⟨B, d, rfl, _, _, H2⟩ := h2.open_
 have l1 := trimL_len xs
 have l2 := trimL_len ys
 have HL1 := Lib.hid (fun h : val (trimL ys) ≤ val (trimL xs) => trim_len_le H1.2 H2.2 (by rwa [val_trimL, val_trimL] at h))
 have HL2 := Lib.hid (fun h : val (trimL xs) ≤ val (trimL ys) => trim_len_le H2.2 H1.2 (by rwa [val_trimL, val_trimL] at h))
 have hv1 := val_trimL xs
 have hv2 := val_trimL ys
 have HV1 := Lib.hid hv1
 have HV2 := Lib.hid hv2
 have HC1 := Lib.hid (can_trimL H1.2)
 have HC2 := Lib.hid (can_trimL H2.2)
 clear hv1 hv2
 rw [← sv_trim n1 xs, ← sv_trim n2 ys]
 generalize hz : sv n1 (trimL xs) + sv n2 (trimL ys) = z
 have HZ := Lib.hid hz
 clear hz
 go_enter Tryz.func68, Tryz.ntmps68
 go_wp2_with fail
 have KS := boxes3 w #[.bool n1, .slice A xs.length c] #[.bool n2, .slice B ys.length d] #[.bool false, .slice none 0 0] 58 58 58
 have K1 := (H1.weak (Y := fun _ => False) (fun _ _ h => h.elim)).below (below3 w (.cells #[.bool n1, .slice A xs.length c] 58) (.cells #[.bool n2, .slice B ys.length d] 58) (.cells #[.bool false, .slice none 0 0] 58))
 have K2 := (H2.weak (Y := fun _ => False) (fun _ _ h => h.elim)).below (below3 w (.cells #[.bool n1, .slice A xs.length c] 58) (.cells #[.bool n2, .slice B ys.length d] 58) (.cells #[.bool false, .slice none 0 0] 58))
 obtain ⟨-, -, Lr, hB0, hsz0⟩ := locs3 (c1 := #[.bool n1, .slice A xs.length c]) (c2 := #[.bool n2, .slice B ys.length d]) (c3 := #[.bool false, .slice none 0 0]) (t1 := 58) (t2 := 58) (t3 := 58) (Below.refl _ (((w.alloc _).alloc _).alloc _))
 generalize (((w.alloc (.cells #[.bool n1, .slice A xs.length c] 58)).alloc (.cells #[.bool n2, .slice B ys.length d] 58)).alloc (.cells #[.bool false, .slice none 0 0] 58)) = w0 at *
 clear H1 H2 h1 h2
 go_region_held3 (fun w' => w'.cell? ⟨w.heap.size, 0, none⟩ = some (.bool n1) ∧ w'.cell? ⟨w.heap.size, 1, none⟩ = some (.slice A xs.length c) ∧ w'.cell? ⟨w.heap.size + 1, 0, none⟩ = some (.bool n2) ∧ w'.cell? ⟨w.heap.size + 1, 1, none⟩ = some (.slice B ys.length d))
  (first | exact (fun K => ⟨K.1.cell 0, K.1.cell 1, K.2.cell 0, K.2.cell 1⟩) (KS.out _ (k9.mono (by omega))) | exact (fun K => ⟨K.1.cell 0, K.1.cell 1, K.2.cell 0, K.2.cell 1⟩) (KS.out _ (ka.mono (by omega))) | exact (fun K => ⟨K.1.cell 0, K.1.cell 1, K.2.cell 0, K.2.cell 1⟩) (KS.out _ (kb.mono (by omega))) | exact (fun K => ⟨K.1.cell 0, K.1.cell 1, K.2.cell 0, K.2.cell 1⟩) (KS.out _ (Below.refl _ _).drew))
  (first
   | (go_at_call_of 109 (Value.slice A xs.length c); refine (rtrim_any _ (fun _ => False) (.slice A xs.length c) xs (K1.below (by first | exact kb | exact (Below.refl _ _).drew)) (by omega)).mono ?_; rintro e wa ⟨va, rfl, ha, hka⟩; have ka : Below w0.heap.size w0 wa := (by first | exact kb.trans (hka.mono kb.size) | exact undrew hka); have k9 := ka)
   | (go_at_call_of 109 (Value.slice B ys.length d); refine (rtrim_any _ (fun _ => False) (.slice B ys.length d) ys (K2.below (by first | exact ka | exact (Below.refl _ _).drew)) (by omega)).mono ?_; rintro e wb ⟨vb, rfl, hb, hkb⟩; have kb : Below w0.heap.size w0 wb := (by first | exact ka.trans (hkb.mono ka.size) | exact undrew hkb); have k9 := kb))
 all_goals
  first
   | (have ha1 := (ha.below hkb).weak (Y := fun _ => False) (fun _ _ h => h.elim)
      have hb1 := hb.weak (Y := fun _ => False) (fun _ _ h => h.elim)
      have k0 := kb
      clear ha hb ka kb hka hkb k9
      generalize wb = w1 at *)
   | (have ha1 := ha.weak (Y := fun _ => False) (fun _ _ h => h.elim)
      have hb1 := (hb.below hka).weak (Y := fun _ => False) (fun _ _ h => h.elim)
      have k0 := ka
      clear ha hb ka kb hka hkb k9
      generalize wa = w1 at *)
  have ha := ha1
  have hb := hb1
  clear ha1 hb1
  have KS1 : Hid (∀ W, Below (w.heap.size + 1 + 1) w1 W → Loc W w.heap.size 58 #[.bool n1, .slice A xs.length c] ∧ Loc W (w.heap.size + 1) 58 #[.bool n2, .slice B ys.length d]) := fun W hW => KS.out W ((k0.mono (by omega)).trans hW)
  have hB1 : Below w.heap.size w w1 := hB0.trans (k0.mono hB0.size)
  have Lr1 := Lr.below k0
  have hsz1 : w.heap.size + 3 ≤ w1.heap.size := by have := k0.size; omega
  clear KS K1 K2 hB0 Lr hsz0 k0
  have k2 := KS1.out w1 (Below.refl _ _)
  have ca := k2.1.cell
  have cb := k2.2.cell
  clear k2
  clear HV1 HV2
  generalize trimL xs = es at *
  generalize trimL ys = fs at *
  by_cases hn : n1 = n2
  ·subst hn
   go_wp2_with fail
   go_region_held3 (fun w' => (w'.cell? ⟨w.heap.size, 0, none⟩ = some (.bool n1) ∧ w'.cell? ⟨w.heap.size, 1, none⟩ = some (.slice A xs.length c)) ∧ w'.cell? ⟨w.heap.size + 1, 0, none⟩ = some (.bool n1) ∧ w'.cell? ⟨w.heap.size + 1, 1, none⟩ = some (.slice B ys.length d))
    (first | exact cells_of (KS1.out _ (((k2.mono (by omega)).setCell (by simp) _).setCell (by simp) _)) | exact cells_of (KS1.out _ (k2.mono (by omega))) | exact cells_of (KS1.out _ (k1.mono (by omega))) | exact cells_of (KS1.out _ (Below.refl _ _).drew) | go_keep)
    (first
     | (go_at_call 111; refine (addWords_any _ (fun _ => False) va vb es fs (ha.below (Below.refl _ _).drew) (hb.below (Below.refl _ _).drew) (by omega)).mono ?_; rintro e w2 ⟨v', rfl, hp, hb2⟩; have k1 := below_undrew hb2)
     | (go_at_call 110; refine (made_any _ (fun _ => False) _ v' _ (hp.weak (fun _ _ h => h.elim)) (Nat.le_trans (dig_len_le (val_add_lt ha.2 hb.2)) (by omega))).mono ?_; rintro e w3 ⟨vs, rfl, hs, hb3⟩; have k2 := k1.trans (hb3.mono k1.size); have hk1 := k1.size; rw [sv_add_same _ es fs _ (val_dig _), HZ.out] at hs; obtain ⟨bs, As, ns, cs, rfl, Hs⟩ := hs.op; have Lr2 := Lr1.below k2; have cc := Lr2.cell; have cf := Lr2.frz))
   all_goals
    clear HL1 HL2 HC1 HC2 KS1 ca cb Lr1
    go_wp2_with fail
    refine bodyPost_ret (by simp [results, Tryz.results68, go_sem, cc, cf] <;> rfl) rfl ⟨_, rfl, IntV.stored (g := w.heap.size + 1 + 1) (Y := Old w) hs (by simp only [Old]; omega) _ _ (by intro b _ hb; simp only [Old] at hb ⊢; omega), below_set2 (hB1.trans (k2.mono (by omega))) (by omega) _ _⟩
  ·have hn' : (n1 == n2) = false := by simpa using hn
   clear hn
   by_cases hlt : val es < val fs
   ·have hcmp := cmpN_lt hlt
    have hlen := HL2.out (by omega)
    have HCM := Lib.hid hcmp
    have HLEN := Lib.hid hlen
    have HLT := Lib.hid hlt
    clear hcmp hlen HL1 HL2 hlt
    go_wp2_with fail
    refine (compareWords_any _ (fun _ => False) va vb es fs ha hb HC1.out HC2.out).mono ?_
    rintro e w' ⟨he, n, rfl⟩
    rw [HCM.out] at he
    subst he
    go_wp2_with fail
    go_region_held3 (fun w' => (w'.cell? ⟨w.heap.size, 0, none⟩ = some (.bool n1) ∧ w'.cell? ⟨w.heap.size, 1, none⟩ = some (.slice A xs.length c)) ∧ w'.cell? ⟨w.heap.size + 1, 0, none⟩ = some (.bool n2) ∧ w'.cell? ⟨w.heap.size + 1, 1, none⟩ = some (.slice B ys.length d))
     (first | exact cells_of (KS1.out _ (((k2.mono (by omega)).setCell (by simp) _).setCell (by simp) _)) | exact cells_of (KS1.out _ (k2.mono (by omega))) | exact cells_of (KS1.out _ (k1.mono (by omega))) | exact cells_of (KS1.out _ (below_drewN (Below.refl _ _) n).drew) | go_keep)
     (first
      | (go_at_call 113; refine (subWords_any _ (fun _ => False) vb va fs es (hb.below (below_drewN (Below.refl _ _) n).drew) (ha.below (below_drewN (Below.refl _ _) n).drew) (by omega) (by have := HLT.out; omega) HLEN.out).mono ?_; rintro e w2 ⟨v', rfl, hp, hb2⟩; have k1 : Below w1.heap.size w1 w2 := undrewN (undrew hb2))
      | (go_at_call 110; refine (made_any _ (fun _ => False) _ v' _ (hp.weak (fun _ _ h => h.elim)) (Nat.le_trans (dig_len_le (Nat.lt_of_le_of_lt (Nat.sub_le _ _) (val_lt hb.2))) (by omega))).mono ?_; rintro e w3 ⟨vs, rfl, hs, hb3⟩; have k2 := k1.trans (hb3.mono k1.size); have hk1 := k1.size; rw [sv_sub2 n1 n2 hn' es fs _ (Nat.le_of_lt HLT.out) (val_dig _), HZ.out] at hs; obtain ⟨bs, As, ns, cs, rfl, Hs⟩ := hs.op; have Lr2 := Lr1.below k2; have cc := Lr2.cell; have cf := Lr2.frz))
    all_goals
     clear HC1 HC2 KS1 ca cb Lr1
     go_wp2_with fail
     refine bodyPost_ret (by simp [results, Tryz.results68, go_sem, cc, cf] <;> rfl) rfl ⟨_, rfl, IntV.stored (g := w.heap.size + 1 + 1) (Y := Old w) hs (by simp only [Old]; omega) _ _ (by intro b _ hb; simp only [Old] at hb ⊢; omega), below_set2 (hB1.trans (k2.mono (by omega))) (by omega) _ _⟩
   ·obtain ⟨cm, hcc, hcm0⟩ : ∃ cm, cmpN (val es) (val fs) = cm ∧ 0 ≤ cm := ⟨_, rfl, cmpN_ge hlt⟩
    have hlen := HL1.out (by omega)
    have HCM := Lib.hid hcc
    have HLEN := Lib.hid hlen
    have HLT := Lib.hid hlt
    clear hcc hlen HL1 HL2 hlt
    go_wp2_with fail
    refine (compareWords_any _ (fun _ => False) va vb es fs ha hb HC1.out HC2.out).mono ?_
    rintro e w' ⟨he, n, rfl⟩
    rw [HCM.out] at he
    subst he
    go_wp2_with fail
    go_region_held3 (fun w' => (w'.cell? ⟨w.heap.size, 0, none⟩ = some (.bool n1) ∧ w'.cell? ⟨w.heap.size, 1, none⟩ = some (.slice A xs.length c)) ∧ w'.cell? ⟨w.heap.size + 1, 0, none⟩ = some (.bool n2) ∧ w'.cell? ⟨w.heap.size + 1, 1, none⟩ = some (.slice B ys.length d))
     (first | exact cells_of (KS1.out _ (((k2.mono (by omega)).setCell (by simp) _).setCell (by simp) _)) | exact cells_of (KS1.out _ (k2.mono (by omega))) | exact cells_of (KS1.out _ (k1.mono (by omega))) | exact cells_of (KS1.out _ (below_drewN (Below.refl _ _) n).drew) | go_keep)
     (first
      | (go_at_call 113; refine (subWords_any _ (fun _ => False) va vb es fs (ha.below (below_drewN (Below.refl _ _) n).drew) (hb.below (below_drewN (Below.refl _ _) n).drew) (by omega) (by have := HLT.out; omega) HLEN.out).mono ?_; rintro e w2 ⟨v', rfl, hp, hb2⟩; have k1 : Below w1.heap.size w1 w2 := undrewN (undrew hb2))
      | (go_at_call 110; refine (made_any _ (fun _ => False) _ v' _ (hp.weak (fun _ _ h => h.elim)) (Nat.le_trans (dig_len_le (Nat.lt_of_le_of_lt (Nat.sub_le _ _) (val_lt ha.2))) (by omega))).mono ?_; rintro e w3 ⟨vs, rfl, hs, hb3⟩; have k2 := k1.trans (hb3.mono k1.size); have hk1 := k1.size; rw [sv_sub1 n1 n2 hn' es fs _ (Nat.le_of_not_lt HLT.out) (val_dig _), HZ.out] at hs; obtain ⟨bs, As, ns, cs, rfl, Hs⟩ := hs.op; have Lr2 := Lr1.below k2; have cc := Lr2.cell; have cf := Lr2.frz))
    all_goals
     clear HC1 HC2 KS1 ca cb Lr1
     go_wp2_with fail
     refine bodyPost_ret (by simp [results, Tryz.results68, go_sem, cc, cf] <;> rfl) rfl ⟨_, rfl, IntV.stored (g := w.heap.size + 1 + 1) (Y := Old w) hs (by simp only [Old]; omega) _ _ (by intro b _ hb; simp only [Old] at hb ⊢; omega), below_set2 (hB1.trans (k2.mono (by omega))) (by omega) _ _⟩

set_option maxHeartbeats 1000000 in
theorem rsub_any (w : World) (X : Nat → Prop) (v1 v2 : Value) (n1 n2 : Bool) (xs ys : List Nat) (h1 : IntR w X v1 n1 xs) (h2 : IntR w X v2 n2 ys) (hs1 : xs.length ≤ 100000000000) (hs2 : ys.length ≤ 100000000000) :
 Calls Tryz.prog 147 #[v1, v2] w fun e w' => ∃ v', e = .returned v' ∧ IntV w' (Old w) v' (sv n1 xs - sv n2 ys) ∧ Below w.heap.size w w' := by
 obtain ⟨A, c, rfl, _, _, H1⟩ := h1.open_
 obtain ⟨B, d, rfl, _, _, H2⟩ := h2.open_
 have hlb : (dig (-(sv n2 ys)).natAbs).length ≤ ys.length := by rw [Int.natAbs_neg, sv_abs]; exact dig_len_le (val_lt H2.2)
 go_enter Tryz.func147, Tryz.ntmps147
 go_wp2_with fail
 have KS := boxes3 w #[.bool n1, .slice A xs.length c] #[.bool n2, .slice B ys.length d] #[.bool false, .slice none 0 0] 58 58 58
 have K1 := (H1.weak (Y := fun _ => False) (fun _ _ h => h.elim)).below (below3 w (.cells #[.bool n1, .slice A xs.length c] 58) (.cells #[.bool n2, .slice B ys.length d] 58) (.cells #[.bool false, .slice none 0 0] 58))
 have K2 := (H2.weak (Y := fun _ => False) (fun _ _ h => h.elim)).below (below3 w (.cells #[.bool n1, .slice A xs.length c] 58) (.cells #[.bool n2, .slice B ys.length d] 58) (.cells #[.bool false, .slice none 0 0] 58))
 obtain ⟨-, -, Lr, hB0, hsz0⟩ := locs3 (c1 := #[.bool n1, .slice A xs.length c]) (c2 := #[.bool n2, .slice B ys.length d]) (c3 := #[.bool false, .slice none 0 0]) (t1 := 58) (t2 := 58) (t3 := 58) (Below.refl _ (((w.alloc _).alloc _).alloc _))
 generalize (((w.alloc (.cells #[.bool n1, .slice A xs.length c] 58)).alloc (.cells #[.bool n2, .slice B ys.length d] 58)).alloc (.cells #[.bool false, .slice none 0 0] 58)) = w1 at *
 clear H1 H2 h1 h2
 go_region_held3 (fun w' => (w'.cell? ⟨w.heap.size, 0, none⟩ = some (.bool n1) ∧ w'.cell? ⟨w.heap.size, 1, none⟩ = some (.slice A xs.length c)) ∧ w'.cell? ⟨w.heap.size + 1, 0, none⟩ = some (.bool n2) ∧ w'.cell? ⟨w.heap.size + 1, 1, none⟩ = some (.slice B ys.length d))
  (first | exact cells_of (KS.out _ (((k2.mono (by omega)).setCell (by simp) _).setCell (by simp) _)) | exact cells_of (KS.out _ (k2.mono (by omega))) | exact cells_of (KS.out _ (k1.mono (by omega))) | exact cells_of (KS.out _ (Below.refl _ _).drew) | go_keep)
  (first
   | (go_at_call 116; refine (rneg_any _ (fun _ => False) _ n2 ys ⟨_, rfl, K2.below (Below.refl _ _).drew⟩ (by omega)).mono ?_; rintro e w2 ⟨vn, rfl, hn, hb2⟩; have k1 := below_undrew hb2; obtain ⟨bn, An, nn, cn, rfl, hn⟩ := hn.op)
   | (go_at_call 68; refine (radd_any _ (fun _ => False) _ _ _ _ _ _ ⟨_, rfl, K1.below k1⟩ (hn.weak (fun _ _ h => h.elim)) (by omega) (by omega)).mono ?_; rintro e w3 ⟨vs, rfl, hs, hb3⟩; have k2 := k1.trans (hb3.mono k1.size); have hk1 := k1.size; rw [sv_dig, ← Int.sub_eq_add_neg] at hs; obtain ⟨bs, As, ns, cs, rfl, hs⟩ := hs.op; have Lr2 := Lr.below k2; have cc := Lr2.cell; have cf := Lr2.frz))
 all_goals
  clear KS Lr
  go_wp2_with fail
  refine bodyPost_ret (by simp [results, Tryz.results147, go_sem, cc, cf] <;> rfl) rfl ⟨_, rfl, IntV.stored (g := w.heap.size + 1 + 1) (Y := Old w) hs (by simp only [Old]; omega) _ _ (by intro b _ hb; simp only [Old] at hb ⊢; omega), below_set2 (hB0.trans (k2.mono (by omega))) (by omega) _ _⟩
end Go.Proofs.YtdambnieminnfaaGreat

