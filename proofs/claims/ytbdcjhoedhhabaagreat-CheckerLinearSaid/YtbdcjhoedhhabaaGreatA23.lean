/- Contracts of the functions that the statements reach, part 23. -/
import Derived.Test.YtbdcjhoedhhabaaGreatRows
import Derived.Deep.DeepCutAuto
import Derived.Deep.QuietTactic
import Derived.BigQuiet
import Derived.Test.YtbdcjhoedhhabaaGreatA20
import Derived.Test.YtbdcjhoedhhabaaGreatA21
import Derived.Test.YtbdcjhoedhhabaaGreatA22
set_option linter.unusedSimpArgs false
set_option linter.unusedVariables false

/- Long division: the plain law. -/
namespace Go.Proofs.YtbdcjhoedhhabaaGreat
open Go.RowKit

theorem bitLen_bounds (x : Nat) (h0 : 0 < x) (h : x < 2 ^ 64) : 1 ≤ Lib.bitLen x ∧ 2 ^ (Lib.bitLen x - 1) ≤ x ∧ x < 2 ^ Lib.bitLen x := by
 induction x using Nat.strongRecOn with
 | _ x ih =>
   have e := Lib.bitLen_half x (by omega) h
   by_cases h2 : x / 2 = 0
   ·obtain rfl : x = 1 := by omega
    have : Lib.bitLen 1 = 1 := by decide +kernel
    rw [this]; decide
   ·obtain ⟨i1, i2, i3⟩ := ih (x / 2) (by omega) (by omega) (by omega)
    rw [e]
    generalize Lib.bitLen (x / 2) = L at *
    obtain ⟨l, rfl⟩ : ∃ l, L = l + 1 := ⟨L - 1, by omega⟩
    rw [(by omega : 1 + (l + 1) = l + 1 + 1), Nat.add_sub_cancel]
    rw [Nat.add_sub_cancel] at i2
    rw [Nat.pow_succ] at i3 ⊢
    rw [Nat.pow_succ]
    omega
theorem norm_word (x : Nat) (h0 : 0 < x) (h : x < 4294967296) : 32 - Lib.bitLen x < 32 ∧ 2147483648 ≤ x * 2 ^ (32 - Lib.bitLen x) ∧ (x + 1) * 2 ^ (32 - Lib.bitLen x) ≤ 4294967296 := by
 obtain ⟨h1, h2, h3⟩ := bitLen_bounds x h0 (by omega)
 have h4 := Lib.bitLen_le x 32 (by omega) (by omega)
 generalize Lib.bitLen x = L at *
 refine ⟨by omega, ?_, ?_⟩
 ·have e : 2 ^ (L - 1) * 2 ^ (32 - L) = 2147483648 := by rw [← Nat.pow_add, (by omega : L - 1 + (32 - L) = 31)]
  rw [← e]
  exact Nat.mul_le_mul_right _ h2
 ·have e : 2 ^ L * 2 ^ (32 - L) = 4294967296 := by rw [← Nat.pow_add, (by omega : L + (32 - L) = 32)]
  rw [← e]
  exact Nat.mul_le_mul_right _ h3
theorem val_cut (zs : List Nat) (n : Nat) (h : val zs < 4294967296 ^ n) : val (zs.take n) = val zs ∧ val (zs.drop n) = 0 := by
 have e := val_take_drop zs n
 by_cases hl : zs.length ≤ n
 ·rw [List.take_of_length_le hl, List.drop_of_length_le hl]; exact ⟨rfl, rfl⟩
 ·rw [List.length_take, Nat.min_eq_left (by omega)] at e
  rcases Nat.eq_zero_or_pos (val (zs.drop n)) with h0 | h0
  ·rw [h0, Nat.mul_zero] at e
   exact ⟨by omega, h0⟩
  ·have : 4294967296 ^ n * 1 ≤ 4294967296 ^ n * val (zs.drop n) := Nat.mul_le_mul_left _ h0
   omega
/-- The divisor, shifted. -/
theorem norm_div (ys vs : List Nat) (p s : Nat) (hy : Ws ys) (hv : Ws vs) (hl : ys.length = p + 2) (hvl : vs.length = p + 2 + 1) (h0 : 0 < ys[p + 1]) (hs : s = 32 - Lib.bitLen ys[p + 1]) (hval : val vs = val ys * 2 ^ s) :
 val (vs.take (p + 2)) = val ys * 2 ^ s ∧ val ys * 2 ^ s < 4294967296 ^ (p + 2) ∧ 4294967296 ^ (p + 1) * 2147483648 ≤ val ys * 2 ^ s ∧ (vs.take (p + 2)).length = p + 2 ∧ ∀ h : p + 1 < (vs.take (p + 2)).length, 2147483648 ≤ (vs.take (p + 2))[p + 1] := by
 obtain ⟨n1, n2, n3⟩ := norm_word ys[p + 1] h0 (hy.get _)
 rw [← hs] at n2 n3
 have e : val ys = val (ys.take (p + 1)) + 4294967296 ^ (p + 1) * ys[p + 1] := by
  rw [← val_take_succ ys (p + 1) (by omega), List.take_of_length_le (by omega)]
 have hlo := val_lt (hy.take (p + 1))
 rw [List.length_take, Nat.min_eq_left (by omega)] at hlo
 have hV1 : val ys * 2 ^ s < 4294967296 ^ (p + 2) := by
  have h1 : val ys < 4294967296 ^ (p + 1) * (ys[p + 1] + 1) := by rw [Nat.mul_add]; omega
  have h2 : val ys * 2 ^ s < 4294967296 ^ (p + 1) * (ys[p + 1] + 1) * 2 ^ s := Nat.mul_lt_mul_of_pos_right h1 (Nat.pow_pos (by omega))
  have h3 : 4294967296 ^ (p + 1) * ((ys[p + 1] + 1) * 2 ^ s) ≤ 4294967296 ^ (p + 1) * 4294967296 := Nat.mul_le_mul_left _ n3
  rw [Nat.mul_assoc] at h2
  rw [Nat.pow_succ 4294967296 (p + 1)]
  omega
 have hV2 : 4294967296 ^ (p + 1) * 2147483648 ≤ val ys * 2 ^ s := by
  have h1 : 4294967296 ^ (p + 1) * ys[p + 1] ≤ val ys := by omega
  have h2 := Nat.mul_le_mul_right (2 ^ s) h1
  have h3 : 4294967296 ^ (p + 1) * 2147483648 ≤ 4294967296 ^ (p + 1) * (ys[p + 1] * 2 ^ s) := Nat.mul_le_mul_left _ n2
  rw [Nat.mul_assoc] at h2
  omega
 obtain ⟨c1, _⟩ := val_cut vs (p + 2) (by rw [hval]; exact hV1)
 have hl2 : (vs.take (p + 2)).length = p + 2 := by rw [List.length_take]; omega
 refine ⟨by rw [c1, hval], hV1, hV2, hl2, fun h => ?_⟩
 have e2 : val (vs.take (p + 2)) = val ((vs.take (p + 2)).take (p + 1)) + 4294967296 ^ (p + 1) * (vs.take (p + 2))[p + 1] := by
  have h5 := List.take_of_length_le (show (vs.take (p + 2)).length ≤ p + 1 + 1 by omega)
  rw [← val_take_succ (vs.take (p + 2)) (p + 1) h, h5]
 have h3 := val_lt ((hv.take (p + 2)).take (p + 1))
 rw [List.length_take, hl2, Nat.min_eq_left (by omega)] at h3
 rw [c1, hval] at e2
 have h4 : 4294967296 ^ (p + 1) * 2147483648 < 4294967296 ^ (p + 1) * ((vs.take (p + 2))[p + 1] + 1) := by rw [Nat.mul_add]; omega
 have := Nat.lt_of_mul_lt_mul_left h4
 omega
/-- One step: the window's value. -/
theorem over_window {us : List Nat} {j n V : Nat} (hu : Ws us) (hj : j + n < us.length) (hV : V ≤ 4294967296 ^ n) (hd : val (us.drop (j + 1)) < V) :
 seg us j (n + 1) = val (us.drop j) ∧ val (us.drop j) < 4294967296 * V ∧ val (us.drop (j + n + 1)) = 0 ∧ val (us.drop j) = us[j] + 4294967296 * val (us.drop (j + 1)) := by
 have e := val_drop_succ us j (by omega)
 have hx := hu.get (i := j) (by omega)
 have h1 : val (us.drop j) < 4294967296 * V := by
  have : 4294967296 * (val (us.drop (j + 1)) + 1) ≤ 4294967296 * V := Nat.mul_le_mul_left _ hd
  rw [e]; omega
 have h2 : val (us.drop j) < 4294967296 ^ (n + 1) := by
  have : 4294967296 * V ≤ 4294967296 * 4294967296 ^ n := Nat.mul_le_mul_left _ hV
  rw [Nat.pow_succ, Nat.mul_comm]; omega
 obtain ⟨c1, c2⟩ := val_cut (us.drop j) (n + 1) h2
 rw [List.drop_drop] at c2
 exact ⟨c1, h1, by rw [Nat.add_assoc]; exact c2, e⟩
theorem over_step {us vs qs : List Nat} {j n V U0 : Nat} (hu : Ws us) (hj : j + n < us.length) (hV : V ≤ 4294967296 ^ n) (hpos : 0 < V) (hd : val (us.drop (j + 1)) < V) (hl : vs.length = us.length)
 (hs : ∀ i, i < j ∨ j + n < i → vs[i]? = us[i]?) (hseg : seg vs j (n + 1) = seg us j (n + 1) % V) (hq : j < qs.length)
 (hinv : U0 = val (us.take (j + 1)) + 4294967296 ^ (j + 1) * (val (us.drop (j + 1)) + V * val (qs.drop (j + 1)))) :
 val (vs.drop j) < V ∧ U0 = val (vs.take j) + 4294967296 ^ j * (val (vs.drop j) + V * val ((qs.set j (seg us j (n + 1) / V)).drop j)) := by
 obtain ⟨w1, w2, w3, w4⟩ := over_window hu hj hV hd
 have hup : vs.drop (j + n + 1) = us.drop (j + n + 1) := by
  apply List.ext_getElem?
  intro i
  rw [List.getElem?_drop, List.getElem?_drop]
  exact hs _ (Or.inr (by omega))
 have hlow : vs.take j = us.take j := by
  apply List.ext_getElem?
  intro i
  rw [List.getElem?_take, List.getElem?_take]
  split
  ·exact hs _ (Or.inl (by omega))
  ·rfl
 have e1 := val_take_drop (vs.drop j) (n + 1)
 rw [List.drop_drop, ← Nat.add_assoc, hup, w3, Nat.mul_zero, Nat.add_zero] at e1
 have e2 : val (vs.drop j) = seg us j (n + 1) % V := by rw [e1]; exact hseg
 refine ⟨by rw [e2]; exact Nat.mod_lt _ hpos, ?_⟩
 have e3 : val ((qs.set j (seg us j (n + 1) / V)).drop j) = seg us j (n + 1) / V + 4294967296 * val (qs.drop (j + 1)) := by
  rw [val_drop_succ _ j (by simpa using hq), List.getElem_set_self, List.drop_set, if_pos (by omega)]
 rw [e2, e3, hlow, hinv, val_take_succ us j (by omega), Nat.pow_succ]
 have e4 := Nat.div_add_mod (seg us j (n + 1)) V
 rw [w1] at e4 ⊢
 generalize val (us.drop j) / V = q at *
 generalize val (us.drop j) % V = r at *
 generalize val (qs.drop (j + 1)) = Y at *
 have e5 : us[j] + 4294967296 * val (us.drop (j + 1)) + V * (4294967296 * Y) = r + V * (q + 4294967296 * Y) := by rw [Nat.mul_add, ← w4, ← e4]; omega
 rw [← e5]
 simp only [Nat.mul_add]
 rw [Nat.mul_assoc, Nat.mul_assoc (4294967296 ^ j), Nat.mul_left_comm V 4294967296 Y]
 omega
theorem over_end {us qs xs ys : List Nat} {n s : Nat} (hV : val ys * 2 ^ s ≤ 4294967296 ^ n) (hpos : 0 < val ys) (hlt : val us < val ys * 2 ^ s) (hinv : val xs * 2 ^ s = val us + val ys * 2 ^ s * val qs) :
 val qs = val xs / val ys ∧ val (us.take n) / 2 ^ s = val xs % val ys := by
 have hP : 0 < 2 ^ s := Nat.pow_pos (by omega)
 have hq : val xs * 2 ^ s / (val ys * 2 ^ s) = val qs := by
  rw [hinv, Nat.add_comm, Nat.mul_add_div (Nat.mul_pos hpos hP), Nat.div_eq_of_lt hlt, Nat.add_zero]
 have hr : val xs * 2 ^ s % (val ys * 2 ^ s) = val us := by
  rw [hinv, Nat.add_mul_mod_self_left, Nat.mod_eq_of_lt hlt]
 rw [Nat.mul_div_mul_right _ _ hP] at hq
 rw [Nat.mul_mod_mul_right] at hr
 refine ⟨hq.symm, ?_⟩
 rw [(val_cut us n (by omega)).1, ← hr, Nat.mul_div_cancel _ hP]
/-- At the loop's start the upper words are less than the divisor. -/
theorem over_start {us xs : List Nat} {s n V : Nat} (hx : Ws xs) (hn : 0 < n) (hs : s < 32) (hl : us.length = xs.length + 1) (hnx : n ≤ xs.length) (hu : Ws us) (hval : val us = val xs * 2 ^ s) (hV : 4294967296 ^ (n - 1) * 2147483648 ≤ V) :
 val (us.drop (xs.length - n + 1)) < V := by
 have e := val_take_drop us (xs.length - n + 1)
 rw [List.length_take, Nat.min_eq_left (by omega)] at e
 have h1 : val us < 4294967296 ^ xs.length * 2147483648 := by
  have h2 : (2 : Nat) ^ s ≤ 2 ^ 31 := Nat.pow_le_pow_right (by omega) (by omega)
  have h3 : val xs * 2 ^ s ≤ val xs * 2147483648 := Nat.mul_le_mul_left _ h2
  have h4 := val_lt hx
  have h5 : val xs * 2147483648 < 4294967296 ^ xs.length * 2147483648 := Nat.mul_lt_mul_of_pos_right h4 (by omega)
  omega
 have h6 : 4294967296 ^ xs.length = 4294967296 ^ (xs.length - n + 1) * 4294967296 ^ (n - 1) := by rw [← Nat.pow_add]; congr 1; omega
 rw [h6, Nat.mul_assoc] at h1
 have h7 : 4294967296 ^ (xs.length - n + 1) * val (us.drop (xs.length - n + 1)) < 4294967296 ^ (xs.length - n + 1) * (4294967296 ^ (n - 1) * 2147483648) := by omega
 have := Nat.lt_of_mul_lt_mul_left h7
 omega

/- left and right: a magnitude shifted by fewer than 32 bits, and back. -/

theorem shl_parts (x P m h : Nat) (hx : x < 4294967296) (hm : 4294967296 = P * m) (hP : 0 < P) (hh : h < P) :
 (x * P) / 4294967296 < P ∧ (x * P) % 4294967296 % P = 0 ∧ h + (x * P) % 4294967296 < 4294967296 := by
 have h0 : (x * P) % 4294967296 % P = 0 := by rw [Nat.mod_mod_of_dvd _ ⟨m, hm⟩, Nat.mul_mod_left]
 refine ⟨?_, h0, ?_⟩
 ·rw [Nat.div_lt_iff_lt_mul (by omega), Nat.mul_comm]
  exact Nat.mul_lt_mul_of_pos_left hx hP
 ·have hlt := Nat.mod_lt (x * P) (show 4294967296 > 0 by omega)
  generalize (x * P) % 4294967296 = lo at *
  obtain ⟨q, rfl⟩ : ∃ q, lo = P * q := ⟨lo / P, by have := Nat.div_add_mod lo P; omega⟩
  rw [hm] at hlt
  have hq : q < m := Nat.lt_of_mul_lt_mul_left hlt
  have : P * (q + 1) ≤ P * m := Nat.mul_le_mul_left _ hq
  rw [Nat.mul_add, Nat.mul_one] at this
  omega
theorem or_low (h lo P s : Nat) (hP : P = 2 ^ s) (hh : h < P) (hl : lo % P = 0) (hb : h + lo < 4294967296) : bits BinOp.or IntKind.u32 (h : Int) (lo : Int) = ((h + lo : Nat) : Int) := by
 have e : (2 : Int) ^ s = ((P : Nat) : Int) := by rw [hP]; push_cast; rfl
 have := Go.bits_join_low .u32 32 (by decide) (fun n h0 h1 => by rw [IntKind.wrap_u32]; omega) s (h : Int) (lo : Int) (by omega) (by rw [e]; omega) (by omega) (by omega) (by rw [e]; omega) (by omega)
 rw [this]; push_cast; rfl
theorem left_step (zs xs : List Nat) (k P : Nat) (hk : k < xs.length) (hz : k + 1 < zs.length) (hv : val (zs.take (k + 1)) = val (xs.take k) * P) :
 val (((zs.set k (zs[k]'(by omega) + xs[k] * P % 4294967296)).set (k + 1) (xs[k] * P / 4294967296)).take (k + 2)) = val (xs.take (k + 1)) * P := by
 rw [val_take_set _ (k + 1) _ (by simpa using hz), val_take_set zs k _ (by omega), val_take_succ xs k hk]
 rw [val_take_succ zs k (by omega)] at hv
 rw [Nat.add_mul, ← hv, Nat.mul_add, Nat.pow_succ, Nat.mul_assoc (4294967296 ^ k) xs[k] P]
 have := Nat.div_add_mod (xs[k] * P) 4294967296
 generalize xs[k] * P / 4294967296 = q at *
 generalize xs[k] * P % 4294967296 = r at *
 rw [← this, Nat.mul_add, Nat.mul_assoc]
 omega

set_option maxHeartbeats 1000000 in
theorem left_any (w : World) (X : Nat → Prop) (va : Value) (xs : List Nat) (s : Nat) (ha : Words w X va xs) (hs : xs.length ≤ 1099511627776) (h32 : s < 32) :
 Calls Tryz.prog 555 #[va, .int .i64 s] w fun e w' => ∃ g zs, e = .returned (.slice (some ⟨g, 0, none⟩) (xs.length + 1) (xs.length + 1)) ∧ w.heap.size ≤ g ∧ Row w' g zs ∧ zs.length = xs.length + 1 ∧ Ws zs ∧ val zs = val xs * 2 ^ s ∧ Below w.heap.size w w' := by
 obtain ⟨A, c, rfl, hc, _, HA⟩ := ha.open_
 obtain ⟨P, hP⟩ : ∃ P, P = 2 ^ s := ⟨_, rfl⟩
 have hP1 : 0 < P := by rw [hP]; exact Nat.pow_pos (by omega)
 have hP2 : P ≤ 2147483648 := by rw [hP]; exact Nat.pow_le_pow_right (i := s) (j := 31) (by omega) (by omega)
 obtain ⟨m, hm⟩ : ∃ m, 4294967296 = P * m := ⟨2 ^ (32 - s), by rw [hP, ← Nat.pow_add, (by omega : s + (32 - s) = 32)]⟩
 have hPi : (2 : Int) ^ s = ((P : Nat) : Int) := by rw [hP]; push_cast; rfl
 rw [← hP]
 have HP := Lib.hid hP
 have HM := Lib.hid hm
 have HPI := Lib.hid hPi
 clear hP hm hPi
 go_enter Tryz.func555, Tryz.ntmps555
 go_wp2_with (at_make; refine wpList_makeN _ rfl _ _ rfl Tryz.underlying209 info_u32 rfl w.heap.size (xs.length + 1) rfl rfl (by go_num) (by go_num) (by omega) (by unfold maxLen; omega) (Nat.le_refl _) ?_)
 intro w1 hown hgrow
 have hb1 : Below w.heap.size w w1 := below_none (Below.refl _ _) hgrow (Nat.le_refl _)
 rw [nums_zeros] at hown
 have hrow := (Row.of_own hown).1
 clear hgrow hown
 go_wp2_with fail
 go_loopw [15] (fun i wr => ∃ (k : Nat) (zs : List Nat), k ≤ xs.length ∧ i = .int .i64 k ∧ zs.length = xs.length + 1 ∧ Row wr w.heap.size zs ∧ Ws zs ∧
  (∀ h : k < zs.length, zs[k] < P) ∧ val (zs.take (k + 1)) = val (xs.take k) * P ∧ (∀ t, k < t → (h : t < zs.length) → zs[t] = 0) ∧ Below w.heap.size w wr) (fun i _ => xs.length - (intOf i).toNat)
 case atStart => exact ⟨0, List.replicate (xs.length + 1) 0, by omega, rfl, by simp, hrow, Ws.replicate _, by simp; omega, by simp [List.take_replicate, val], by simp, hb1⟩
 case round =>
  obtain ⟨k, zs, hk, rfl, hzl, hr, hws, hhi, hval, hzero, hbr⟩ := hrel
  have Hval := Lib.hid hval
  have Hzl := Lib.hid hzl
  have hz1 : k < zs.length := by omega
  have hhi := hhi hz1
  have HZ := Lib.hid hzero
  have hsz := hbr.size
  clear hval hrow hzero
  have HPr := HA.below hbr
  by_cases hlt : k < xs.length
  ·obtain ⟨a, rfl, _, _, hca⟩ := HPr.at_ hlt
   have bx := HA.lt hlt
   have hz2 : k + 1 < zs.length := by omega
   clear hzl
   obtain ⟨p1, p2, p3⟩ := shl_parts xs[k] P m zs[k] bx HM.out hP1 hhi
   have hor := or_low zs[k] (xs[k] * P % 4294967296) P s HP.out hhi p2 p3
   have hst := left_step zs xs k P hlt hz2 Hval.out
   have P2 := Lib.hid p2
   have HST := Lib.hid hst
   clear p2 hst
   have hxP : xs[k] * P ≤ 4294967295 * 2147483648 := Nat.mul_le_mul (by omega) hP2
   have hw64 : IntKind.u64.wrap (((xs[k] : Nat) : Int) * 2 ^ s) = ((xs[k] * P : Nat) : Int) := by rw [HPI.out, ← Int.natCast_mul, IntKind.wrap_u64]; omega
   have e1 : ((xs[k] * P : Nat) : Int) % 4294967296 = ((xs[k] * P % 4294967296 : Nat) : Int) := by omega
   have e2 : ((xs[k] * P : Nat) : Int) / 4294967296 = ((xs[k] * P / 4294967296 : Nat) : Int) := by omega
   have e3 : ((xs[k] * P / 4294967296 : Nat) : Int) % 4294967296 = ((xs[k] * P / 4294967296 : Nat) : Int) := by omega
   have hr2 := (hr.set k (zs[k] + xs[k] * P % 4294967296)).set (k + 1) (xs[k] * P / 4294967296)
   have hws2 := (hws.set k (zs[k] + xs[k] * P % 4294967296) p3).set (k + 1) (xs[k] * P / 4294967296) (by omega)
   have hcO := hr.cell hz1
   have hfO := hr.frz k
   have hcO1 := hr.cell hz2
   have hfO1 := hr.frz (k + 1)
   clear hr hws
   generalize hxp : xs[k] * P = xp at *
   have HXP := Lib.hid hxp
   clear hxp hxP
   generalize hlo : xp % 4294967296 = lo at *
   generalize hhi' : xp / 4294967296 = hi at *
   have HLO := Lib.hid hlo
   have HHI := Lib.hid hhi'
   clear hlo hhi'
   generalize hy : zs[k] = y at *
   generalize hy1 : zs[k + 1] = y1 at *
   have HY := Lib.hid hy
   have HY1 := Lib.hid hy1
   clear hy hy1
   go_wp2_with fail
   go_roundw
   case rel =>
    refine ⟨k + 1, (zs.set k (y + lo)).set (k + 1) hi, by omega, by go_num, by simpa using Hzl.out, hr2, hws2, fun h => by simpa using p1, HST.out, fun t h1 h2 => ?_, (hbr.setCell (Nat.le_refl _) _).setCell (Nat.le_refl _) _⟩
    rw [List.getElem_set_ne (by omega), List.getElem_set_ne (by omega)]
    exact HZ.out t (by omega) (by simpa using h2)
   case measure => simp [intOf]; omega
  ·obtain rfl : k = xs.length := by omega
   go_wp2_with fail
   go_ret
   have hv := Hval.out
   rw [List.take_length, List.take_of_length_le (by omega)] at hv
   exact ⟨_, zs, rfl, Nat.le_refl _, hr, hzl, hws, hv, hbr⟩

/- The reference's inner functions: trim, word, compareWords, addWords, timesWord, subWords. -/

/-- The word at a place, 0 behind the end. -/
def wordAt (xs : List Nat) (i : Nat) : Nat := xs.getD i 0
theorem wordAt_in {xs : List Nat} {i : Nat} (hi : i < xs.length) : wordAt xs i = xs[i] := by
 unfold wordAt; rw [List.getD_eq_getElem?_getD, List.getElem?_eq_getElem hi]; rfl
theorem wordAt_out {xs : List Nat} {i : Nat} (hi : xs.length ≤ i) : wordAt xs i = 0 := by
 unfold wordAt; rw [List.getD_eq_getElem?_getD, List.getElem?_eq_none hi]; rfl

/- right: a magnitude shifted back. -/

theorem shr_word (x y P m : Nat) (hx : x < 4294967296) (hm : 4294967296 = P * m) (hP : 0 < P) :
 P * ((x + y * 4294967296) / P % 4294967296) + x % P = x + 4294967296 * (y % P) ∧ (x + y * 4294967296) / P % 4294967296 < 4294967296 := by
 refine ⟨?_, Nat.mod_lt _ (by omega)⟩
 have e1 : (x + y * 4294967296) / P = x / P + m * y := by
  rw [hm, Nat.mul_left_comm y P m, Nat.add_mul_div_left _ _ hP, Nat.mul_comm y m]
 have hxm : x / P < m := by rw [Nat.div_lt_iff_lt_mul hP, Nat.mul_comm, ← hm]; exact hx
 have e2 : (x / P + m * y) % 4294967296 = x / P + m * (y % P) := by
  have h1 := Nat.div_add_mod y P
  have h2 : m * y = m * (y % P) + 4294967296 * (y / P) := by
   rw [hm]
   have : m * y = m * (P * (y / P) + y % P) := by rw [h1]
   rw [this, Nat.mul_add, ← Nat.mul_assoc, Nat.mul_comm m P]
   omega
  rw [h2, ← Nat.add_assoc, Nat.add_mul_mod_self_left]
  refine Nat.mod_eq_of_lt ?_
  have h3 : m * (y % P + 1) ≤ m * P := Nat.mul_le_mul_left _ (Nat.mod_lt y hP)
  rw [Nat.mul_add, Nat.mul_one, Nat.mul_comm m P, ← hm] at h3
  omega
 rw [e1, e2, Nat.mul_add, ← Nat.mul_assoc, ← hm]
 have h1 := Nat.div_add_mod x P
 omega
theorem addr_succ (a : Addr) (k : Nat) : a.add (k + 1) = ⟨a.block, a.off + (k + 1), none⟩ := by simp [Addr.add]
theorem cast_shr (W P : Nat) : ((W : Nat) : Int) / ((P : Nat) : Int) % 4294967296 = ((W / P % 4294967296 : Nat) : Int) := by
 have : ((W : Nat) : Int) / ((P : Nat) : Int) = ((W / P : Nat) : Int) := (Int.natCast_ediv W P).symm
 rw [this]; omega
theorem shr_or (x y P m s : Nat) (hx : x < 4294967296) (hy : y < 4294967296) (hm : 4294967296 = P * m) (hP : 0 < P) (hs : (2 : Int) ^ s = ((P : Nat) : Int)) :
 ∃ W z : Nat, bits BinOp.or IntKind.u64 ((x : Nat) : Int) (((y : Nat) : Int) * 4294967296) = ((W : Nat) : Int) ∧ ((W : Nat) : Int) / 2 ^ s % 4294967296 = ((z : Nat) : Int) ∧ z < 4294967296 ∧ P * z + x % P = x + 4294967296 * (y % P) := by
 obtain ⟨h1, h2⟩ := shr_word x y P m hx hm hP
 refine ⟨x + y * 4294967296, _, ?_, ?_, h2, h1⟩
 ·have := Go.bits_join_low .u64 64 (by decide) (fun n h0 h1 => by rw [IntKind.wrap_u64]; omega) 32 ((x : Nat) : Int) (((y : Nat) : Int) * 4294967296) (by omega) (by omega) (by omega) (by omega) (by omega) (by omega)
  rw [this]; omega
 ·rw [hs, cast_shr]
theorem shr_one (x P m s : Nat) (hx : x < 4294967296) (hm : 4294967296 = P * m) (hP : 0 < P) (hs : (2 : Int) ^ s = ((P : Nat) : Int)) :
 ∃ z : Nat, ((x : Nat) : Int) / 2 ^ s % 4294967296 = ((z : Nat) : Int) ∧ z < 4294967296 ∧ P * z + x % P = x + 4294967296 * 0 := by
 obtain ⟨h1, h2⟩ := shr_word x 0 P m hx hm hP
 rw [Nat.zero_mul, Nat.add_zero, Nat.zero_mod] at h1
 exact ⟨_, by rw [hs, cast_shr], Nat.mod_lt _ (by omega), h1⟩
theorem right_step (zs xs : List Nat) (k P z y0 : Nat) (hk : k < xs.length) (hz : k < zs.length) (hv : P * val (zs.take k) + y0 = val (xs.take k) + 4294967296 ^ k * (xs[k] % P)) (Y : Nat) (hw : P * z + xs[k] % P = xs[k] + 4294967296 * Y) :
 P * val ((zs.set k z).take (k + 1)) + y0 = val (xs.take (k + 1)) + 4294967296 ^ (k + 1) * Y := by
 rw [val_take_set zs k z hz, val_take_succ xs k hk, Nat.mul_add, Nat.pow_succ, Nat.mul_assoc (4294967296 ^ k)]
 have : 4294967296 ^ k * (P * z) + 4294967296 ^ k * (xs[k] % P) = 4294967296 ^ k * xs[k] + 4294967296 ^ k * (4294967296 * Y) := by rw [← Nat.mul_add, hw, Nat.mul_add]
 rw [Nat.mul_left_comm P]
 omega

set_option maxHeartbeats 1000000 in
theorem right_any (w : World) (X : Nat → Prop) (va : Value) (xs : List Nat) (s : Nat) (ha : Words w X va xs) (hs : xs.length ≤ 1099511627776) (h32 : s < 32) :
 Calls Tryz.prog 557 #[va, .int .i64 s] w fun e w' => ∃ v' zs, e = .returned v' ∧ Words w' (Old w) v' zs ∧ zs.length = xs.length ∧ val zs = val xs / 2 ^ s ∧ Below w.heap.size w w' := by
 obtain ⟨A, c, rfl, hc, _, HA⟩ := ha.open_
 obtain ⟨P, hP⟩ : ∃ P, P = 2 ^ s := ⟨_, rfl⟩
 have hP1 : 0 < P := by rw [hP]; exact Nat.pow_pos (by omega)
 obtain ⟨m, hm⟩ : ∃ m, 4294967296 = P * m := ⟨2 ^ (32 - s), by rw [hP, ← Nat.pow_add, (by omega : s + (32 - s) = 32)]⟩
 have hPi : (2 : Int) ^ s = ((P : Nat) : Int) := by rw [hP]; push_cast; rfl
 rw [← hP]
 have HM := Lib.hid hm
 have HPI := Lib.hid hPi
 clear hP hm hPi
 go_enter Tryz.func557, Tryz.ntmps557
 go_wp2_with (at_make; refine wpList_makeN _ rfl _ _ rfl Tryz.underlying209 info_u32 rfl w.heap.size xs.length rfl rfl rfl rfl (by omega) (by unfold maxLen; omega) (Nat.le_refl _) ?_)
 intro w1 hown hgrow
 have hb1 : Below w.heap.size w w1 := below_none (Below.refl _ _) hgrow (Nat.le_refl _)
 rw [nums_zeros] at hown
 have hrow := (Row.of_own hown).1
 clear hgrow hown
 go_wp2_with fail
 go_loopw [14] (fun i wr => ∃ (k : Nat) (zs : List Nat), k ≤ xs.length ∧ i = .int .i64 k ∧ zs.length = xs.length ∧ Row wr w.heap.size zs ∧ Ws zs ∧
  P * val (zs.take k) + wordAt xs 0 % P = val (xs.take k) + 4294967296 ^ k * (wordAt xs k % P) ∧ Below w.heap.size w wr) (fun i _ => xs.length - (intOf i).toNat)
 case atStart => exact ⟨0, List.replicate xs.length 0, by omega, rfl, by simp, hrow, Ws.replicate _, by simp [val], hb1⟩
 case round =>
  obtain ⟨k, zs, hk, rfl, hzl, hr, hws, hval, hbr⟩ := hrel
  have Hval := Lib.hid hval
  have Hzl := Lib.hid hzl
  have hsz := hbr.size
  clear hval hrow
  have HPr := HA.below hbr
  by_cases hlt : k < xs.length
  ·have hz1 : k < zs.length := by omega
   clear hzl
   have hv := Hval.out
   rw [wordAt_in hlt] at hv
   have bx := HA.lt hlt
   have hfO := hr.frz k
   have hcO := hr.cell hz1
   obtain ⟨a, rfl, _, _, hca⟩ := HPr.at_ hlt
   by_cases hl2 : k + 1 < xs.length
   ·obtain ⟨a2, ha2, _, _, hca2⟩ := HPr.at_ hl2
    injection ha2 with ha2
    subst ha2
    have by1 := HA.lt hl2
    have hca3 : wr.cell? ⟨a.block, a.off + (k + 1), none⟩ = some (.int .u32 ((xs[k + 1] : Nat) : Int)) := by have h := hca2; rw [addr_succ] at h; exact h
    clear hca2
    obtain ⟨W, z, hor, e2, hw2, hw1⟩ := shr_or xs[k] xs[k + 1] P m s bx by1 HM.out hP1 HPI.out
    have hst := right_step zs xs k P z _ hlt hz1 hv _ hw1
    rw [← wordAt_in hl2] at hst
    have HST := Lib.hid hst
    clear hst hw1 hv
    have e1 : IntKind.u64.wrap (((xs[k + 1] : Nat) : Int) * 4294967296) = ((xs[k + 1] : Nat) : Int) * 4294967296 := by rw [IntKind.wrap_u64]; omega
    have hr2 := hr.set k z
    have hws2 := hws.set k _ hw2
    clear hr hws
    go_wp2_with fail
    go_roundw
    case rel => exact ⟨k + 1, zs.set k z, by omega, by go_num, by simpa using Hzl.out, hr2, hws2, HST.out, hbr.setCell (Nat.le_refl _) _⟩
    case measure => simp [intOf]; omega
   ·obtain ⟨z, e2, hw2, hw1⟩ := shr_one xs[k] P m s bx HM.out hP1 HPI.out
    have hst := right_step zs xs k P z _ hlt hz1 hv _ hw1
    have HST := Lib.hid hst
    clear hst hw1 hv
    have hr2 := hr.set k z
    have hws2 := hws.set k _ hw2
    clear hr hws
    go_wp2_with fail
    go_roundw
    case rel => exact ⟨k + 1, zs.set k z, by omega, by go_num, by simpa using Hzl.out, hr2, hws2, by rw [wordAt_out (xs := xs) (i := k + 1) (by omega), Nat.zero_mod]; exact HST.out, hbr.setCell (Nat.le_refl _) _⟩
    case measure => simp [intOf]; omega
  ·obtain rfl : k = xs.length := by omega
   go_wp2_with fail
   go_ret
   have hv := Hval.out
   rw [List.take_length, List.take_of_length_le (by omega), wordAt_out (Nat.le_refl _), Nat.zero_mod, Nat.mul_zero, Nat.add_zero] at hv
   refine ⟨_, zs, rfl, ?_, hzl, ?_, hbr⟩
   ·rw [← hzl]; exact hr.words hws (by unfold Old; omega) (by unfold maxLen; omega)
   ·rw [← hv, Nat.mul_add_div hP1, Nat.div_eq_of_lt (Nat.mod_lt _ hP1), Nat.add_zero]

/- short, compare. -/

set_option maxHeartbeats 1000000 in
theorem short_any (w : World) (X : Nat → Prop) (va : Value) (xs : List Nat) (d : Nat) (ha : Words w X va xs) (hs : xs.length ≤ 1099511627776) (hd0 : 0 < d) (hd : d < 4294967296) :
 Calls Tryz.prog 553 #[va, .int .u32 d] w fun e w' => ∃ v' zs r, e = .returned (.tuple #[v', .int .u32 (r : Nat)]) ∧ Words w' (Old w) v' zs ∧ val zs = val xs / d ∧ r = val xs % d ∧ zs.length = xs.length ∧ Below w.heap.size w w' := by
 obtain ⟨A, c, rfl, hc, _, HA⟩ := ha.open_
 go_enter Tryz.func553, Tryz.ntmps553
 go_wp2_with (at_make; refine wpList_makeN _ rfl _ _ rfl Tryz.underlying209 info_u32 rfl w.heap.size xs.length rfl rfl rfl rfl (by omega) (by unfold maxLen; omega) (Nat.le_refl _) ?_)
 intro w1 hown hgrow
 have hb1 : Below w.heap.size w w1 := below_none (Below.refl _ _) hgrow (Nat.le_refl _)
 rw [nums_zeros] at hown
 clear hgrow
 go_wp2_with fail
 go_loopw [7, 8] (fun rr i wr => ∃ (k : Nat) (zs : List Nat) (r : Nat), k ≤ xs.length ∧ i = .int .i64 ((k : Int) - 1) ∧ rr = .int .u32 r ∧ r < d ∧ zs.length = xs.length ∧ wr.ownsRow w.heap.size 305 1 (.slice (some ⟨w.heap.size, 0, none⟩) xs.length xs.length) xs.length (nums .u32 zs) ∧ Ws zs ∧
  val (zs.drop k) * d + r = val (xs.drop k) ∧ Below w.heap.size w wr) (fun _ i _ => (intOf i + 1).toNat)
 case atStart => exact ⟨xs.length, List.replicate xs.length 0, 0, by omega, rfl, rfl, by omega, by simp, hown, Ws.replicate _, by simp, hb1⟩
 case round =>
  obtain ⟨k, zs, r, hk, rfl, rfl, hr, hzl, hown', hws, hval, hbr⟩ := hrel
  have Hval := Lib.hid hval
  have Hzl := Lib.hid hzl
  have hsz := hbr.size
  clear hval hzl hown
  have HPr := HA.below hbr
  by_cases hlt : 0 < k
  ·obtain ⟨p, rfl⟩ : ∃ p, k = p + 1 := ⟨k - 1, by omega⟩
   have hp : p < xs.length := by omega
   have hpz : p < zs.length := by have := Hzl.out; omega
   obtain ⟨a, rfl, _, _, hca⟩ := HPr.at_ hp
   have bx := HA.lt hp
   have hcO : wr.cell? ⟨w.heap.size, p, none⟩ = some (.int .u32 ((zs[p] : Nat) : Int)) := (hown'.cellAt p (by omega)).trans (nums_get _)
   have hfO := hown'.frozenAt p
   go_wp2_with (go_at_call 573; refine (div32_any _ _ _ _ hr bx hd).mono ?_; rintro e w' ⟨rfl, n, rfl⟩)
   go_roundw
   case rel =>
    have hst := (hown'.stored p (.int .u32 (((r * 4294967296 + xs[p]) / d : Nat) : Int))).1
    rw [nums_set] at hst
    exact ⟨p, zs.set p ((r * 4294967296 + xs[p]) / d), (r * 4294967296 + xs[p]) % d, by omega, by go_num, by go_num, Nat.mod_lt _ hd0, by simpa using Hzl.out, hst, hws.set _ _ (div_lt_32 _ _ _ hr bx), short_step zs xs p d r xs[p] _ _ hpz hp rfl rfl rfl Hval.out, (below_drewN hbr n).setCell (Nat.le_refl _) _⟩
   case measure => simp [intOf] <;> omega
  ·obtain rfl : k = 0 := by omega
   go_wp2_with fail
   go_ret2
   have hv := Hval.out
   simp only [List.drop_zero] at hv
   rw [← Hzl.out] at hown'
   refine ⟨_, zs, r, by rw [← Hzl.out]; rfl, Words.of_own hown' hws (fun b h1 _ _ => by unfold Old; omega), ?_, ?_, Hzl.out, hbr⟩
   ·rw [← hv, Nat.add_comm, Nat.add_mul_div_right _ _ hd0, Nat.div_eq_of_lt hr, Nat.zero_add]
   ·rw [← hv, Nat.add_comm, Nat.add_mul_mod_self_right, Nat.mod_eq_of_lt hr]

set_option maxHeartbeats 1000000 in
theorem compare_any (w : World) (X : Nat → Prop) (va vb : Value) (xs ys : List Nat) (ha : Words w X va xs) (hb : Words w X vb ys) (hx : Can xs) (hy : Can ys) :
 Calls Tryz.prog 425 #[va, vb] w fun e w' => e = .returned (.int .i64 (cmpN (val xs) (val ys))) ∧ ∃ n, w' = w.drewN n := by
 have m1 := ha.lt_max
 have m2 := hb.lt_max
 obtain ⟨A, c, rfl, hc, _, HA⟩ := ha.open_
 obtain ⟨B, d, rfl, hd, _, HB⟩ := hb.open_
 by_cases hl : xs.length = ys.length
 ·have hlb : ((xs.length : Int) != (ys.length : Int)) = false := by simp [hl]
  have HL := Lib.hid hl
  have hl1 : xs.length ≤ ys.length := by omega
  have hl2 : ys.length ≤ xs.length := by omega
  clear hl
  go_enter Tryz.func425, Tryz.ntmps425
  go_wp2_with fail
  go_loopw [5] (fun i wr => ∃ (k n : Nat), k ≤ xs.length ∧ i = .int .i64 ((k : Int) - 1) ∧ xs.drop k = ys.drop k ∧ wr = w.drewN n) (fun i _ => (intOf i + 1).toNat)
  case atStart => exact ⟨xs.length, 0, by omega, rfl, by rw [List.drop_length, List.drop_of_length_le hl2], rfl⟩
  case round =>
   obtain ⟨k, n, hk, rfl, hdr, rfl⟩ := hrel
   have Hdr := Lib.hid hdr
   clear hdr
   by_cases hlt : 0 < k
   ·obtain ⟨p, rfl⟩ : ∃ p, k = p + 1 := ⟨k - 1, by omega⟩
    have hp : p < xs.length := by omega
    have hq : p < ys.length := by omega
    obtain ⟨a, rfl, _, _, hca⟩ := HA.at_ hp
    obtain ⟨b, rfl, _, _, hcb⟩ := HB.at_ hq
    have ip : (p : Int) < (xs.length : Int) := by omega
    have iq : (p : Int) < (ys.length : Int) := by omega
    by_cases he : xs[p] = ys[p]
    ·have hbb : (((xs[p] : Nat) : Int) != ((ys[p] : Nat) : Int)) = false := by simp [he]
     have HE := Lib.hid he
     clear he
     go_wp2_with fail
     go_quiet (fail)
     go_wp2_with fail
     go_roundw
     case rel => exact ⟨p, n + nq, by omega, by go_num, by rw [List.drop_eq_getElem_cons hp, List.drop_eq_getElem_cons hq, HE.out, Hdr.out], rfl⟩
     case measure => simp [intOf] <;> omega
    ·have hbb : (((xs[p] : Nat) : Int) != ((ys[p] : Nat) : Int)) = true := by simp; omega
     rcases Nat.lt_or_gt_of_ne he with h | h
     ·have h1 : ((xs[p] : Nat) : Int) < ((ys[p] : Nat) : Int) := by omega
      have hd : decide (((xs[p] : Nat) : Int) < ((ys[p] : Nat) : Int)) = true := by simpa using h
      go_wp2_with fail
      go_quiet (fail)
      go_wp2_with fail
      go_quiet (fail)
      go_wp2_with fail
      go_ret
      exact ⟨ret_eq (int_eq (cmpN_lt (val_lt_at xs ys HL.out hx.1 p hp Hdr.out h)).symm), _, by rw [World.drewN_drewN, World.drewN_drewN]⟩
     ·have h1 : ¬ ((xs[p] : Nat) : Int) < ((ys[p] : Nat) : Int) := by omega
      have hd : decide (((xs[p] : Nat) : Int) < ((ys[p] : Nat) : Int)) = false := by simp; omega
      go_wp2_with fail
      go_quiet (fail)
      go_wp2_with fail
      go_quiet (fail)
      go_wp2_with fail
      go_ret
      exact ⟨ret_eq (int_eq (cmpN_gt (val_lt_at ys xs HL.out.symm hy.1 p hq Hdr.out.symm h)).symm), _, by rw [World.drewN_drewN, World.drewN_drewN]⟩
   ·obtain rfl : k = 0 := by omega
    go_wp2_with fail
    go_ret
    have h := Hdr.out
    simp only [List.drop_zero] at h
    exact ⟨ret_eq (int_eq (cmpN_eq (by rw [h])).symm), n, rfl⟩
 ·have hlb : ((xs.length : Int) != (ys.length : Int)) = true := by simp; omega
  by_cases hlt : xs.length < ys.length
  ·go_enter Tryz.func425, Tryz.ntmps425
   go_wp2_with fail
   go_ret
   exact ⟨ret_eq (int_eq (cmpN_lt (val_lt_of_len hx.1 hy hlt)).symm), 0, rfl⟩
  ·go_enter Tryz.func425, Tryz.ntmps425
   go_wp2_with fail
   go_ret
   exact ⟨ret_eq (int_eq (cmpN_gt (val_lt_of_len hy.1 hx (by omega))).symm), 0, rfl⟩
end Go.Proofs.YtbdcjhoedhhabaaGreat

