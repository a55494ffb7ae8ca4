/- Contracts of the functions that the statements reach, part 12. -/
import Derived.Test.YtdambnieminnfaaGreatRows
import Derived.Deep.DeepCutAuto
import Derived.Deep.RegionHeld3
import Derived.Deep.DrawnRows
import Derived.Test.YtdambnieminnfaaGreatZ3
import Derived.Test.YtdambnieminnfaaGreatZ4
import Derived.Test.YtdambnieminnfaaGreatZ7
import Derived.Test.YtdambnieminnfaaGreatZ10
import Derived.Test.YtdambnieminnfaaGreatZ11
set_option linter.unusedSimpArgs false
set_option linter.unusedVariables false

/- divWords of the reference: quotient and remainder, a word at a time, each by halving. -/
namespace Go.Proofs.YtdambnieminnfaaGreat
open Go.RowKit
attribute [local go_sem ↓] Go.wp_at_zero Go.wp_at_succ

theorem div_word (x N d B : Nat) (hd : 0 < d) : (x + B * N) % d = (x + B * (N % d)) % d ∧ (x + B * N) / d = (x + B * (N % d)) / d + B * (N / d) := by
 have e : x + B * N = (x + B * (N % d)) + d * (B * (N / d)) := by
  have h := Nat.div_add_mod N d
  have h2 : B * N = B * (d * (N / d)) + B * (N % d) := by rw [← Nat.mul_add, h]
  rw [h2, Nat.mul_left_comm B d]
  omega
 rw [e]
 exact ⟨Nat.add_mul_mod_self_left _ _ _, Nat.add_mul_div_left _ _ hd⟩

theorem cmpN_le (a b : Nat) : cmpN a b ≤ 0 ↔ a ≤ b := by
 unfold cmpN
 split
 ·omega
 ·split <;> omega

set_option maxRecDepth 20000 in
set_option maxHeartbeats 2000000 in
theorem divWords_any (w : World) (X : Nat → Prop) (va vb : Value) (xs ys : List Nat) (ha : Words w X va xs) (hb : Words w X vb ys) (hy : Can ys) (hne : 0 < ys.length) (hs : xs.length + ys.length ≤ 100000000000) :
 Calls Tryz.prog 146 #[va, vb] w fun e w' => ∃ v1 v2, e = .returned (.tuple #[v1, v2]) ∧ Words w' (Old w) v1 (dig (val xs / val ys)) ∧ Words w' (Old w) v2 (dig (val xs % val ys)) ∧ Below w.heap.size w w' := by
 obtain ⟨A, c, rfl, hc, _, HA⟩ := ha.open_
 obtain ⟨B, d, rfl, hd, _, HB⟩ := hb.open_
 have hm := HA.lt_max
 have hm2 := HB.lt_max
 have hpos : 0 < val ys := hy.pos (by intro e; subst e; simp at hne)
 have hlow := can_lower hy (by intro e; subst e; simp at hne)
 go_enter Tryz.func146, Tryz.ntmps146
 go_upto_if 19 with fail
 go_cut [6] (fun s W => ∃ sk : Nat, sk ≤ xs.length ∧ sk ≤ ys.length - 1 ∧ s = .int .i64 sk ∧ W = w)
 case first =>
  by_cases hgt : ys.length - 1 > xs.length
  ·go_wp2_with fail
   go_meet
   exact ⟨xs.length, by omega, by omega, by go_num, rfl⟩
  ·go_wp2_with fail
   go_meet
   exact ⟨ys.length - 1, by omega, by omega, by go_num, rfl⟩
 case rest =>
  obtain ⟨sk, hk1, hk2, rfl, hw0⟩ := hcut
  obtain rfl : w = wc := hw0.symm
  go_upto_region 4 with fail
  go_cut [7] (fun r W => Words W (Old w) r (dig (val (xs.drop (xs.length - sk)))) ∧ Below w.heap.size w W)
  case first =>
   have HD := HA.drop (k := xs.length - sk) (by omega)
   by_cases hc2 : c = xs.length - sk
   ·subst hc2
    rw [if_pos rfl] at HD
    rw [Nat.sub_self, (by omega : xs.length - (xs.length - sk) = 0)] at HD
    go_wp2_with fail
    refine (rtrim_any _ _ _ _ HD (by rw [List.length_drop]; omega)).mono ?_
    rintro e w1 ⟨v1, rfl, h1, hb1⟩
    rw [trimL_dig (Ws.drop HA.2 _)] at h1
    go_wp2_with fail
    go_meet
    exact ⟨h1, hb1⟩
   ·rw [if_neg hc2] at HD
    go_wp2_with fail
    refine (rtrim_any _ _ _ _ HD (by rw [List.length_drop]; omega)).mono ?_
    rintro e w1 ⟨v1, rfl, h1, hb1⟩
    rw [trimL_dig (Ws.drop HA.2 _)] at h1
    go_wp2_with fail
    go_meet
    exact ⟨h1, hb1⟩
  case rest =>
   obtain ⟨hr0, hb0⟩ := hcut
   have hsmall : val (xs.drop (xs.length - sk)) < val ys := by
    refine Nat.lt_of_lt_of_le (val_lt (Ws.drop HA.2 _)) (Nat.le_trans (Nat.pow_le_pow_right (by omega) ?_) hlow)
    rw [List.length_drop]; omega
   have HDV := Lib.hid hpos
   have HLOW := Lib.hid hlow
   have HSM := Lib.hid hsmall
   clear hpos hlow hsmall
   go_wp2_with fail
   go_loopw [7, 8, 9] (fun r q i wr => ∃ (k : Nat) (qs : List Nat), k ≤ xs.length - sk ∧ i = .int .i64 ((k : Int) - 1) ∧ Words wr (Old w) r (dig (val (xs.drop k) % val ys)) ∧ Words wr (Old w) q qs ∧ qs.length ≤ xs.length - k ∧ val qs = val (xs.drop k) / val ys ∧ Below w.heap.size w wr) (fun _ _ i _ => (intOf i + 1).toNat)
   case atStart =>
    refine ⟨xs.length - sk, [], Nat.le_refl _, by go_num, ?_, ?_, by simp, ?_, hb0.alloc hb0.size _⟩
    ·rw [Nat.mod_eq_of_lt HSM.out]; exact hr0.below (below1 _ _)
    ·exact Words.lit [] (Loc.new _ _ _) (by simp) (by have := hb0.size; simp only [Old]; omega) (by unfold maxLen; simp)
    ·rw [Nat.div_eq_of_lt HSM.out]; rfl
   case round =>
    obtain ⟨k, qs, hk, hi, hr, hq, hql, hqv, hbr⟩ := hrel
    have HQV := Lib.hid hqv
    clear hqv hr0 hb0
    by_cases hk0 : k = 0
    ·subst hk0
     obtain rfl := hi
     go_wp2_with fail
     refine (rtrim_any _ _ _ _ hq (by omega)).mono ?_
     rintro e w1 ⟨v1, rfl, h1, hb1⟩
     rw [trimL_dig hq.2, HQV.out, List.drop_zero] at h1
     have hr1 := hr.below hb1
     rw [List.drop_zero] at hr1
     go_wp2_with fail
     go_ret2
     exact ⟨_, _, rfl, h1.weak (fun b _ hb => by simp only [Old] at hb ⊢; have := hbr.size; omega), hr1, hbr.trans (hb1.mono hbr.size)⟩
    ·obtain ⟨j, rfl⟩ : ∃ j, k = j + 1 := ⟨k - 1, by omega⟩
     obtain rfl := hi.trans (show Value.int .i64 (((j + 1 : Nat) : Int) - 1) = .int .i64 (j : Int) by congr 1; omega)
     clear hi
     have HBr := HB.below hbr
     have HAr := HA.below hbr
     obtain ⟨a, rfl, _, _, hca⟩ := HAr.at_ (k := j) (by omega)
     have hlt := HA.lt (i := j) (by omega)
     obtain ⟨hdm, hdd⟩ := div_word xs[j] (val (xs.drop (j + 1))) (val ys) 4294967296 HDV.out
     rw [← val_drop_succ xs j (by omega)] at hdm hdd
     have hrl := Nat.mod_lt (val (xs.drop (j + 1))) HDV.out
     have hQ : (xs[j] + 4294967296 * (val (xs.drop (j + 1)) % val ys)) / val ys < 4294967296 := by
      rw [Nat.div_lt_iff_lt_mul HDV.out]
      omega
     have hrlen : (dig (val (xs.drop (j + 1)) % val ys)).length ≤ ys.length := dig_len_le (Nat.lt_trans hrl (val_lt hy.1))
     rw [← HQV.out] at hdd
     have HDM := Lib.hid hdm
     have HDD := Lib.hid hdd
     have HQB := Lib.hid hQ
     have HRD := Lib.hid (ws_dig (val (xs.drop (j + 1)) % val ys))
     have HRV := Lib.hid (val_dig (val (xs.drop (j + 1)) % val ys))
     clear hdm hdd hQ hrl
     generalize hr0 : val (xs.drop (j + 1)) % val ys = r0 at *
     clear hr0
     generalize hx : xs[j] = x at *
     have HX := Lib.hid hx
     clear hx
     generalize hrs : dig r0 = rs at *
     have HRS := Lib.hid hrs
     clear hrs
     have b1 : (0 : Int) ≤ (j : Int) := by omega
     have b2 : (j : Int) < (xs.length : Int) := by omega
     go_wp2_with (at_builtin; refine wpList_words _ rfl _ _ rfl Tryz.underlying56 info_u32 wr.heap.size _ 1 [.int .u32 (x : Nat)] rfl (World.ownsRow_lit (e := 129) (size := 1) wr #[.int .u32 (x : Nat)] 1 (Nat.le_refl _) (by unfold maxLen; omega) rfl) rs _ rfl (hr.below (below1 wr _)) (by omega) (by unfold maxLen; omega) (by simp) ?_)
     intro v1 w1 hown1 hg1 hob1
     have k1 : Below wr.heap.size wr w1 := below_own (below1 wr (.cells #[.int .u32 (x : Nat)] 129)) (World.ownsRow_lit (e := 129) (size := 1) wr #[.int .u32 (x : Nat)] 1 (Nat.le_refl _) (by unfold maxLen; omega) rfl) hg1 (Nat.le_refl _) (by simp)
     have hw1 : Words w1 (Old w) v1 (x :: rs) := Words.of_own (xs := x :: rs) (by rw [List.length_cons, Nat.add_comm]; exact hown1) (by intro y hy; rcases List.mem_cons.1 hy with e | e; (subst e; omega); exact HRD.out y e) (fun b h1 _ _ => by have := hbr.size; unfold Old; omega)
     go_wp2_with fail
     refine (rtrim_any _ _ _ _ hw1 (by simp only [List.length_cons]; omega)).mono ?_
     rintro e w2 ⟨v2, rfl, h2, hb2⟩
     rw [trimL_dig hw1.2] at h2
     have hRv : val (x :: rs) = x + 4294967296 * r0 := by show x + 4294967296 * val rs = _; rw [HRV.out]
     rw [hRv] at h2
     have hRl : (dig (x + 4294967296 * r0)).length ≤ rs.length + 1 := by rw [← hRv]; exact dig_val_len (xs := x :: rs) hw1.2
     have HRL := Lib.hid hRl
     clear hRv hRl
     have k2 := k1.trans (hb2.mono k1.size)
     generalize hR : x + 4294967296 * r0 = R at *
     have HR := Lib.hid hR
     clear hR
     have hMID : ∀ m, val ys * m ≤ R ↔ m ≤ R / val ys := fun m => by rw [Nat.le_div_iff_mul_le HDV.out, Nat.mul_comm]
     have hREM : R - val ys * (R / val ys) = R % val ys := by have := Nat.div_add_mod R (val ys); omega
     have HMID := Lib.hid hMID
     have HREM := Lib.hid hREM
     have hQ := HQB.out
     clear hMID hREM HQB
     generalize hQ' : R / val ys = Q at *
     clear hQ'
     have h2' := h2.weak (Y := Old w) (fun b _ hb => by simp only [Old] at hb ⊢; have := hbr.size; have := k1.size; omega)
     have HB2 := HBr.below k2
     have hq2 := hq.below k2
     have hB2 := hbr.trans (k2.mono hbr.size)
     clear h2 hw1 hown1 hg1 hob1 hr hq k1 hb2 HBr HAr hca
     go_wp2_with fail
     go_loopw [10, 11] (fun l h wi => ∃ (lo hi : Nat), l = .int .u64 lo ∧ h = .int .u64 hi ∧ lo ≤ Q ∧ Q < hi ∧ hi ≤ 4294967296 ∧ Below w2.heap.size w2 wi) (fun l h _ => (intOf h - intOf l).toNat)
     case atStart => exact ⟨0, 4294967296, rfl, rfl, by omega, hQ, by omega, Below.refl _ _⟩
     case round =>
      obtain ⟨lo, hi, rfl, rfl, hlo, hhi, hB, hbi⟩ := hrel
      have HBi := HB2.below hbi
      have h2i := h2'.below hbi
      have e1 : IntKind.u64.wrap ((hi : Int) - (lo : Int)) = (hi : Int) - (lo : Int) := by rw [IntKind.wrap_u64]; omega
      have e2 : IntKind.u64.wrap ((lo : Int) + (hi : Int)) = (lo : Int) + (hi : Int) := by rw [IntKind.wrap_u64]; omega
      by_cases hgo : lo + 1 < hi
      ·obtain ⟨m, hm⟩ : ∃ m, m = (lo + hi) / 2 := ⟨_, rfl⟩
       have e3 : ((lo : Int) + (hi : Int)) / 2 = (m : Int) := by omega
       have hmb : lo < m ∧ m < hi := by omega
       have hgo' : (1 : Int) < (hi : Int) - (lo : Int) := by omega
       clear hm
       go_wp2_with fail
       refine (timesWord_any _ X _ ys m HBi (by omega) (by omega)).mono ?_
       rintro e w3 ⟨v3, rfl, h3, hb3⟩
       go_wp2_with fail
       refine (compareWords_any _ (fun _ => False) _ _ _ _ (h3.weak (fun _ _ h => h.elim)) ((h2i.below hb3).weak (fun _ _ h => h.elim)) (can_dig _) (can_dig _)).mono ?_
       rintro e w4 ⟨rfl, n, rfl⟩
       have hiff : cmpN (val (dig (val ys * m))) (val (dig R)) ≤ 0 ↔ m ≤ Q := by rw [val_dig, val_dig, cmpN_le]; exact HMID.out m
       generalize cmpN (val (dig (val ys * m))) (val (dig R)) = cc at *
       have HIFF := Lib.hid hiff
       clear hiff
       by_cases hmq : m ≤ Q
       ·have hcc : cc ≤ 0 := HIFF.out.2 hmq
        go_wp2_with fail
        go_roundw
        case rel => exact ⟨m, hi, rfl, rfl, hmq, hhi, hB, below_drewN (hbi.trans (hb3.mono hbi.size)) n⟩
        case measure => simp only [intOf]; omega
       ·have hcc : ¬ cc ≤ 0 := fun h => hmq (HIFF.out.1 h)
        go_wp2_with fail
        go_roundw
        case rel => exact ⟨lo, m, rfl, rfl, hlo, by omega, by omega, below_drewN (hbi.trans (hb3.mono hbi.size)) n⟩
        case measure => simp only [intOf]; omega
      ·have hgo' : ¬ (1 : Int) < (hi : Int) - (lo : Int) := by omega
       obtain rfl : lo = Q := by omega
       have hRl := HRL.out
       have hle := (HMID.out lo).2 (Nat.le_refl _)
       have HLE := Lib.hid hle
       clear hle
       go_wp2_with fail
       refine (timesWord_any _ X _ ys lo HBi (by omega) (by omega)).mono ?_
       rintro e w3 ⟨v3, rfl, h3, hb3⟩
       go_wp2_with fail
       refine (subWords_any _ (fun _ => False) _ _ _ _ ((h2i.below hb3).weak (fun _ _ h => h.elim)) (h3.weak (fun _ _ h => h.elim)) (by omega) (by rw [val_dig, val_dig]; exact HLE.out) (dig_len_mono HLE.out)).mono ?_
       rintro e w4 ⟨v4, rfl, h4, hb4⟩
       rw [val_dig, val_dig, HREM.out, ← HDM.out] at h4
       have k4 := (hbi.trans (hb3.mono hbi.size)).trans (hb4.mono (hbi.trans (hb3.mono hbi.size)).size)
       have hB4 := hB2.trans (k4.mono hB2.size)
       have hq4 := hq2.below k4
       have h4' := h4.weak (Y := Old w) (fun b _ hb => by simp only [Old] at hb ⊢; have := hB2.size; have := hbi.size; have := hb3.size; omega)
       have e4 : IntKind.u32.wrap (lo : Int) = (lo : Int) := by rw [IntKind.wrap_u32]; omega
       clear h4 h3 h2i HBi HB2 hq2 h2' e1 e2
       go_wp2_with (at_builtin; refine wpList_words _ rfl _ _ rfl Tryz.underlying56 info_u32 w4.heap.size _ 1 [.int .u32 (lo : Nat)] rfl (World.ownsRow_lit (e := 129) (size := 1) w4 #[.int .u32 (lo : Nat)] 1 (Nat.le_refl _) (by unfold maxLen; omega) rfl) qs _ rfl (hq4.below (below1 w4 _)) (by omega) (by unfold maxLen; omega) (by simp) ?_)
       intro v5 w5 hown5 hg5 hob5
       have k5 : Below w4.heap.size w4 w5 := below_own (below1 w4 (.cells #[.int .u32 (lo : Nat)] 129)) (World.ownsRow_lit (e := 129) (size := 1) w4 #[.int .u32 (lo : Nat)] 1 (Nat.le_refl _) (by unfold maxLen; omega) rfl) hg5 (Nat.le_refl _) (by simp)
       have hw5 : Words w5 (Old w) v5 (lo :: qs) := Words.of_own (xs := lo :: qs) (by rw [List.length_cons, Nat.add_comm]; exact hown5) (by intro y hy; rcases List.mem_cons.1 hy with e | e; (subst e; omega); exact hq4.2 y e) (fun b h1 _ _ => by have := hB4.size; unfold Old; omega)
       go_wp2_with fail
       go_roundw
       case rel =>
        refine ⟨j, lo :: qs, by omega, by go_num, h4'.below k5, hw5, by simp only [List.length_cons]; omega, ?_, hB4.trans (k5.mono hB4.size)⟩
        rw [HDD.out]
        rfl
       case measure => simp only [intOf]; omega

/- Gcd, the program's and the reference's. -/

/-- The number that a slice of words reads as. -/
def rd (w : World) : Value → Nat
 | .slice (some a) n _ => val ((List.range n).map fun i => match w.cell? (a.add i) with | some (.int _ x) => x.toNat | _ => 0)
 | _ => 0
theorem Words.rd {w : World} {X : Nat → Prop} {v : Value} {xs : List Nat} (h : Words w X v xs) : rd w v = val xs := by
 obtain ⟨A, c, rfl, _, _, H⟩ := h.open_
 rcases A with _ | a
 ·have h0 : xs = [] := by
   rcases xs with _ | ⟨y, ys⟩
   ·rfl
   ·obtain ⟨_, e, _⟩ := H.at_ (k := 0) (by simp)
    cases e
  subst h0
  rfl
 ·show val _ = _
  congr 1
  apply List.ext_getElem
  ·simp
  ·intro i h1 h2
   obtain ⟨a', e, _, _, hc⟩ := H.at_ (k := i) h2
   injection e with e
   subst e
   simp [hc]
theorem gcd_step (a b : Nat) : Nat.gcd b (a % b) = Nat.gcd a b := by
 rw [Nat.gcd_comm b, ← Nat.gcd_rec, Nat.gcd_comm]

set_option maxHeartbeats 2000000 in
theorem gcd_any (w : World) (X : Nat → Prop) (v1 v2 : Value) (n1 n2 : Bool) (xs ys : List Nat) (h1 : IntR w X v1 n1 xs) (h2 : IntR w X v2 n2 ys) (hs1 : xs.length ≤ 100000000000) (hs2 : ys.length ≤ 100000000000) :
 Calls Tryz.prog 161 #[v1, v2] w fun e w' => ∃ v', e = .returned v' ∧ IntV w' (Old w) v' ((Nat.gcd (val xs) (val ys) : Nat) : Int) ∧ Below w.heap.size w w' := by
 obtain ⟨A, c, rfl, _, _, H1⟩ := h1.open_
 obtain ⟨B, d, rfl, _, _, H2⟩ := h2.open_
 have l1 := trimL_len xs
 have l2 := trimL_len ys
 have c1 := can_trimL H1.2
 have c2 := can_trimL H2.2
 have HV1 := Lib.hid (val_trimL xs)
 have HV2 := Lib.hid (val_trimL ys)
 generalize hG : Nat.gcd (val xs) (val ys) = G
 have HG := Lib.hid hG
 clear hG
 go_enter Tryz.func161, Tryz.ntmps161
 go_wp2_with fail
 have KS := boxes3 w #[.bool n1, .slice A xs.length c] #[.bool n2, .slice B ys.length d] #[.bool false, .slice none 0 0] 58 58 58
 have K1 := (H1.weak (Y := fun _ => False) (fun _ _ h => h.elim)).below (below3 w (.cells #[.bool n1, .slice A xs.length c] 58) (.cells #[.bool n2, .slice B ys.length d] 58) (.cells #[.bool false, .slice none 0 0] 58))
 have K2 := (H2.weak (Y := fun _ => False) (fun _ _ h => h.elim)).below (below3 w (.cells #[.bool n1, .slice A xs.length c] 58) (.cells #[.bool n2, .slice B ys.length d] 58) (.cells #[.bool false, .slice none 0 0] 58))
 obtain ⟨-, -, Lr, hB0, hsz0⟩ := locs3 (c1 := #[.bool n1, .slice A xs.length c]) (c2 := #[.bool n2, .slice B ys.length d]) (c3 := #[.bool false, .slice none 0 0]) (t1 := 58) (t2 := 58) (t3 := 58) (Below.refl _ (((w.alloc _).alloc _).alloc _))
 generalize (((w.alloc (.cells #[.bool n1, .slice A xs.length c] 58)).alloc (.cells #[.bool n2, .slice B ys.length d] 58)).alloc (.cells #[.bool false, .slice none 0 0] 58)) = w1 at *
 clear H1 H2 h1 h2
 go_region_held3 (fun w' => (w'.cell? ⟨w.heap.size, 0, none⟩ = some (.bool n1) ∧ w'.cell? ⟨w.heap.size, 1, none⟩ = some (.slice A xs.length c)) ∧ w'.cell? ⟨w.heap.size + 1, 0, none⟩ = some (.bool n2) ∧ w'.cell? ⟨w.heap.size + 1, 1, none⟩ = some (.slice B ys.length d))
  (first | exact cells_of (KS.out _ (Below.refl _ _).drew) | go_keep)
  (first
   | (go_at_call_of 129 (Value.slice A xs.length c); refine (trim_any _ (fun _ => False) (.slice A xs.length c) xs (K1.below (Below.refl _ _).drew)).mono ?_; rintro e wa ⟨va, rfl, ha, rfl⟩)
   | (go_at_call_of 129 (Value.slice B ys.length d); refine (trim_any _ (fun _ => False) (.slice B ys.length d) ys (K2.below (Below.refl _ _).drew)).mono ?_; rintro e wb ⟨vb, rfl, hb, rfl⟩))
 all_goals
  clear KS
  go_wp2_with fail
  go_loopw [5, 6] (fun x y wr => ∃ (es bs : List Nat), Words wr (fun _ => False) x es ∧ Words wr (fun _ => False) y bs ∧ Can es ∧ Can bs ∧ Nat.gcd (val es) (val bs) = G ∧ es.length ≤ xs.length + ys.length ∧ bs.length ≤ xs.length + ys.length ∧ Loc wr (w.heap.size + 1 + 1) 58 #[.bool false, .slice none 0 0] ∧ Below w.heap.size w wr) (fun _ y wr => rd wr y)
  case atStart => exact ⟨_, _, ha.drew, hb.drew, c1, c2, by rw [HV1.out, HV2.out, HG.out], by omega, by omega, Lr.drew, hB0.drew⟩
  case round =>
   obtain ⟨es, bs, hx, hy, hcx, hcy, hg, hl1, hl2, hL, hbr⟩ := hrel
   have HGG := Lib.hid hg
   have HRD := Lib.hid hy.rd
   clear hg
   by_cases hb0 : bs.length = 0
   ·obtain rfl := List.length_eq_zero_iff.1 hb0
    obtain ⟨A2, m2, rfl, _, _, H2⟩ := hy.open_
    rw [List.length_nil] at *
    clear hb0
    go_wp2_with fail
    refine (signed_any _ (fun _ => False) false _ es hx (by omega)).mono ?_
    rintro e w5 ⟨v5, rfl, h5, hb5⟩
    have hgv := HGG.out
    rw [show val [] = 0 from rfl, Nat.gcd_zero_right] at hgv
    rw [sv_false, hgv] at h5
    obtain ⟨bs5, As5, n5, cs5, rfl, h5⟩ := h5.op
    have L5 := hL.below hb5
    have cc := L5.cell
    have cf := L5.frz
    have hsz5 := hbr.size
    have hB5 := hbr.trans (hb5.mono hbr.size)
    have hlL := hL.lt
    go_wp2_with fail
    refine bodyPost_ret (by simp [results, Tryz.results161, go_sem, cc, cf] <;> rfl) rfl ⟨_, rfl, IntV.stored (g := w.heap.size + 1 + 1) (Y := Old w) h5 (by simp only [Old]; omega) _ _ (by intro b _ hb; simp only [Old] at hb ⊢; omega), below_set2 hB5 (by omega) _ _⟩
   ·obtain ⟨A2, m2, rfl, _, _, H2⟩ := hy.open_
    have hb1 : 0 < bs.length := by omega
    have hbp : 0 < val bs := hcy.pos (by intro e; subst e; simp at hb0)
    have HBP := Lib.hid hbp
    clear hbp
    go_wp2_with fail
    refine (over_any _ (fun _ => False) (fun _ h => h.elim) _ _ es bs hx hy hcx hcy hb1 (by omega) (by omega)).mono ?_
    rintro e w5 ⟨q5, r5, qs, rs, rfl, hq5, hr5, hqv, hrv, hql, hrl, hb5⟩
    have HRV := Lib.hid hrv
    clear hqv hrv
    go_wp2_with fail
    refine (trim_any _ _ _ rs hr5).mono ?_
    rintro e w6 ⟨v6, rfl, h6, rfl⟩
    have hl6 := trimL_len rs
    have hc6 := can_trimL hr5.2
    have HV6 := Lib.hid (val_trimL rs)
    have HRD6 := Lib.hid h6.rd
    go_wp2_with fail
    go_roundw
    case rel => exact ⟨bs, trimL rs, hy.below hb5, h6, hcy, hc6, by rw [HV6.out, HRV.out, gcd_step]; exact HGG.out, by omega, by omega, hL.below hb5, hbr.trans (hb5.mono hbr.size)⟩
    case measure =>
     rw [HRD6.out, HRD.out, HV6.out, HRV.out]
     exact Nat.mod_lt _ HBP.out

set_option maxHeartbeats 2000000 in
theorem rgcd_any (w : World) (X : Nat → Prop) (v1 v2 : Value) (n1 n2 : Bool) (xs ys : List Nat) (h1 : IntR w X v1 n1 xs) (h2 : IntR w X v2 n2 ys) (hs1 : xs.length ≤ 10000000000) (hs2 : ys.length ≤ 10000000000) :
 Calls Tryz.prog 117 #[v1, v2] w fun e w' => ∃ v', e = .returned v' ∧ IntV w' (Old w) v' ((Nat.gcd (val xs) (val ys) : Nat) : Int) ∧ Below w.heap.size w w' := by
 obtain ⟨A, c, rfl, _, _, H1⟩ := h1.open_
 obtain ⟨B, d, rfl, _, _, H2⟩ := h2.open_
 have l1 := trimL_len xs
 have l2 := trimL_len ys
 have c1 := can_trimL H1.2
 have c2 := can_trimL H2.2
 have HV1 := Lib.hid (val_trimL xs)
 have HV2 := Lib.hid (val_trimL ys)
 generalize hG : Nat.gcd (val xs) (val ys) = G
 have HG := Lib.hid hG
 clear hG
 go_enter Tryz.func117, Tryz.ntmps117
 go_wp2_with fail
 have KS := boxes3 w #[.bool n1, .slice A xs.length c] #[.bool n2, .slice B ys.length d] #[.bool false, .slice none 0 0] 58 58 58
 have K1 := (H1.weak (Y := fun _ => False) (fun _ _ h => h.elim)).below (below3 w (.cells #[.bool n1, .slice A xs.length c] 58) (.cells #[.bool n2, .slice B ys.length d] 58) (.cells #[.bool false, .slice none 0 0] 58))
 have K2 := (H2.weak (Y := fun _ => False) (fun _ _ h => h.elim)).below (below3 w (.cells #[.bool n1, .slice A xs.length c] 58) (.cells #[.bool n2, .slice B ys.length d] 58) (.cells #[.bool false, .slice none 0 0] 58))
 obtain ⟨-, -, Lr, hB0, hsz0⟩ := locs3 (c1 := #[.bool n1, .slice A xs.length c]) (c2 := #[.bool n2, .slice B ys.length d]) (c3 := #[.bool false, .slice none 0 0]) (t1 := 58) (t2 := 58) (t3 := 58) (Below.refl _ (((w.alloc _).alloc _).alloc _))
 generalize (((w.alloc (.cells #[.bool n1, .slice A xs.length c] 58)).alloc (.cells #[.bool n2, .slice B ys.length d] 58)).alloc (.cells #[.bool false, .slice none 0 0] 58)) = w1 at *
 clear H1 H2 h1 h2
 go_region_held3 (fun w' => (w'.cell? ⟨w.heap.size, 0, none⟩ = some (.bool n1) ∧ w'.cell? ⟨w.heap.size, 1, none⟩ = some (.slice A xs.length c)) ∧ w'.cell? ⟨w.heap.size + 1, 0, none⟩ = some (.bool n2) ∧ w'.cell? ⟨w.heap.size + 1, 1, none⟩ = some (.slice B ys.length d))
  (first | exact cells_of (KS.out _ (k2.mono (by omega))) | exact cells_of (KS.out _ (k1.mono (by omega))) | exact cells_of (KS.out _ (Below.refl _ _).drew) | go_keep)
  (first
   | (go_at_call_of 109 (Value.slice A xs.length c); refine (rtrim_any _ (fun _ => False) (.slice A xs.length c) xs (K1.below (Below.refl _ _).drew) (by omega)).mono ?_; rintro e wa ⟨va, rfl, ha, hka⟩; have k1 := below_undrew hka)
   | (go_at_call_of 109 (Value.slice B ys.length d); refine (rtrim_any _ (fun _ => False) (.slice B ys.length d) ys (K2.below k1) (by omega)).mono ?_; rintro e wb ⟨vb, rfl, hb, hkb⟩; have k2 := k1.trans (hkb.mono k1.size); have ha2 := ha.below hkb))
 all_goals
  clear KS
  have Lr2 := Lr.below k2
  have hB2 := hB0.trans (k2.mono (by omega))
  clear Lr hB0
  go_wp2_with fail
  go_loopw [5, 6] (fun x y wr => ∃ (es bs : List Nat), Words wr (fun _ => False) x es ∧ Words wr (fun _ => False) y bs ∧ Can es ∧ Can bs ∧ Nat.gcd (val es) (val bs) = G ∧ es.length ≤ xs.length + ys.length ∧ bs.length ≤ xs.length + ys.length ∧ Loc wr (w.heap.size + 1 + 1) 58 #[.bool false, .slice none 0 0] ∧ Below w.heap.size w wr) (fun _ y wr => rd wr y)
  case atStart => exact ⟨_, _, ha2.weak (fun _ _ h => h.elim), hb.weak (fun _ _ h => h.elim), c1, c2, by rw [HV1.out, HV2.out, HG.out], by omega, by omega, Lr2, hB2⟩
  case round =>
   obtain ⟨es, bs, hx, hy, hcx, hcy, hg, hl1, hl2, hL, hbr⟩ := hrel
   have HGG := Lib.hid hg
   have HRD := Lib.hid hy.rd
   clear hg
   by_cases hb0 : bs.length = 0
   ·obtain rfl := List.length_eq_zero_iff.1 hb0
    obtain ⟨A2, m2, rfl, _, _, H2⟩ := hy.open_
    rw [List.length_nil] at *
    clear hb0
    go_wp2_with fail
    refine (made_any _ (fun _ => False) false _ es hx (by omega)).mono ?_
    rintro e w5 ⟨v5, rfl, h5, hb5⟩
    have hgv := HGG.out
    rw [show val [] = 0 from rfl, Nat.gcd_zero_right] at hgv
    rw [sv_false, hgv] at h5
    obtain ⟨bs5, As5, n5, cs5, rfl, h5⟩ := h5.op
    have L5 := hL.below hb5
    have cc := L5.cell
    have cf := L5.frz
    have hsz5 := hbr.size
    have hB5 := hbr.trans (hb5.mono hbr.size)
    have hlL := hL.lt
    go_wp2_with fail
    refine bodyPost_ret (by simp [results, Tryz.results117, go_sem, cc, cf] <;> rfl) rfl ⟨_, rfl, IntV.stored (g := w.heap.size + 1 + 1) (Y := Old w) h5 (by simp only [Old]; omega) _ _ (by intro b _ hb; simp only [Old] at hb ⊢; omega), below_set2 hB5 (by omega) _ _⟩
   ·obtain ⟨A2, m2, rfl, _, _, H2⟩ := hy.open_
    have hb1 : 0 < bs.length := by omega
    have hbp : 0 < val bs := hcy.pos (by intro e; subst e; simp at hb0)
    have HBP := Lib.hid hbp
    have hrl : (dig (val es % val bs)).length ≤ bs.length := dig_len_le (Nat.lt_trans (Nat.mod_lt _ hbp) (val_lt hcy.1))
    have HRL := Lib.hid hrl
    clear hbp hrl
    go_wp2_with fail
    refine (divWords_any _ (fun _ => False) _ _ es bs hx hy hcy hb1 (by omega)).mono ?_
    rintro e w5 ⟨q5, r5, rfl, hq5, hr5, hb5⟩
    have HRD6 := Lib.hid hr5.rd
    go_wp2_with fail
    go_roundw
    case rel => exact ⟨bs, _, hy.below hb5, hr5.weak (fun _ _ h => h.elim), hcy, can_dig _, by rw [val_dig, gcd_step]; exact HGG.out, by omega, by have := HRL.out; omega, hL.below hb5, hbr.trans (hb5.mono hbr.size)⟩
    case measure =>
     rw [HRD6.out, HRD.out, val_dig]
     exact Nat.mod_lt _ HBP.out

/- Fractions: how they lie; rational.over and rational.zero. -/

/-- A fraction as it lies: two signs, two lists of words. -/
def RatR (w : World) (X : Nat → Prop) (v : Value) (n1 : Bool) (xs : List Nat) (n2 : Bool) (ys : List Nat) : Prop :=
 ∃ A c B d, v = .agg #[.bool n1, .slice A xs.length c, .bool n2, .slice B ys.length d] ∧ IntR w X (.agg #[.bool n1, .slice A xs.length c]) n1 xs ∧ IntR w X (.agg #[.bool n2, .slice B ys.length d]) n2 ys
/-- The canonical struct of a fraction. -/
def RatV (w : World) (X : Nat → Prop) (v : Value) (q : Rat) : Prop := RatR w X v (decide (q.num < 0)) (dig q.num.natAbs) (decide ((q.den : Int) < 0)) (dig (q.den : Int).natAbs)
/-- The value of a fraction as it lies: 0 where the denominator is 0. -/
def rv (n1 : Bool) (xs : List Nat) (n2 : Bool) (ys : List Nat) : Rat := Rat.divInt (sv n1 xs) (sv n2 ys)

theorem rv_canon (q : Rat) : rv (decide (q.num < 0)) (dig q.num.natAbs) (decide ((q.den : Int) < 0)) (dig (q.den : Int).natAbs) = q := by
 unfold rv; rw [sv_dig, sv_dig, Rat.num_divInt_den]

section
variable {X Y : Nat → Prop} {w w' : World} {v : Value} {n1 n2 : Bool} {xs ys : List Nat} {q : Rat}
theorem RatR.keep (h : RatR w X v n1 xs n2 ys) (hk : Keep X w w') : RatR w' X v n1 xs n2 ys := let ⟨A, c, B, d, e, h1, h2⟩ := h; ⟨A, c, B, d, e, h1.keep hk, h2.keep hk⟩
theorem RatR.weak (h : RatR w X v n1 xs n2 ys) (hY : ∀ b, b < w.heap.size → Y b → X b) : RatR w Y v n1 xs n2 ys := let ⟨A, c, B, d, e, h1, h2⟩ := h; ⟨A, c, B, d, e, h1.weak hY, h2.weak hY⟩
theorem RatR.below (h : RatR w X v n1 xs n2 ys) (hk : Below w.heap.size w w') : RatR w' X v n1 xs n2 ys := h.keep (.of_below hk)
theorem RatV.keep (h : RatV w X v q) (hk : Keep X w w') : RatV w' X v q := RatR.keep h hk
theorem RatV.weak (h : RatV w X v q) (hY : ∀ b, b < w.heap.size → Y b → X b) : RatV w Y v q := RatR.weak h hY
theorem RatV.below (h : RatV w X v q) (hk : Below w.heap.size w w') : RatV w' X v q := RatR.below h hk
/-- The shape, its parts letters. -/
theorem RatV.op (h : RatV w X v q) : ∃ (b : Bool) (A : Option Addr) (m c : Nat) (b' : Bool) (A' : Option Addr) (m' c' : Nat), v = .agg #[.bool b, .slice A m c, .bool b', .slice A' m' c'] ∧
 RatV w X (.agg #[.bool b, .slice A m c, .bool b', .slice A' m' c']) q ∧ IntV w X (.agg #[.bool b, .slice A m c]) q.num ∧ IntV w X (.agg #[.bool b', .slice A' m' c']) (q.den : Int) := by
 have h0 := h
 obtain ⟨A, c, B, d, rfl, h1, h2⟩ := h
 exact ⟨_, A, _, c, _, B, _, d, rfl, h0, h1, h2⟩
theorem RatV.of {a1 b1 : Bool} {a2 b2 : Value} (h : IntV w X (.agg #[.bool a1, a2]) q.num) (k : IntV w X (.agg #[.bool b1, b2]) (q.den : Int)) : RatV w X (.agg #[.bool a1, a2, .bool b1, b2]) q := by
 obtain ⟨A, c, e, _, _, h1⟩ := IntR.open_ h
 obtain ⟨B, d, e', _, _, h2⟩ := IntR.open_ k
 simp only [Value.agg.injEq, Array.mk.injEq, List.cons.injEq, Value.bool.injEq, and_true] at e e'
 obtain ⟨rfl, rfl⟩ := e
 obtain ⟨rfl, rfl⟩ := e'
 exact ⟨A, c, B, d, rfl, h, k⟩
theorem ratR_of {a1 b1 : Bool} {a2 b2 : Value} (h : IntR w X (.agg #[.bool a1, a2]) n1 xs) (k : IntR w X (.agg #[.bool b1, b2]) n2 ys) : RatR w X (.agg #[.bool a1, a2, .bool b1, b2]) n1 xs n2 ys := by
 obtain ⟨A, c, e, _, _, h1⟩ := IntR.open_ h
 obtain ⟨B, d, e', _, _, h2⟩ := IntR.open_ k
 simp only [Value.agg.injEq, Array.mk.injEq, List.cons.injEq, Value.bool.injEq, and_true] at e e'
 obtain ⟨rfl, rfl⟩ := e
 obtain ⟨rfl, rfl⟩ := e'
 exact ⟨A, c, B, d, rfl, h, k⟩
theorem RatR.to (h : RatR w X v n1 xs n2 ys)
 (k : Keep X w w' := by
  repeat (first
   | (with_reducible exact Keep.refl _ _) | (with_reducible refine Keep.drew ?_) | (with_reducible refine Keep.alloc ?_ _) | (with_reducible refine Keep.drewN ?_)
   | (with_reducible refine Keep.set ?_ ?_ _; rotate_left; (first | (right; simp only [zs]; omega) | (right; omega) | (left; simp only [Old, World.size_alloc, size_set, size_drew, size_drewN]; omega) | (left; dsimp only; omega)))
   | (with_reducible refine Keep.on ?_ (by assumption)))
  fail_if_success exfalso) : RatR w' (fun _ => False) v n1 xs n2 ys := (h.keep k).weak (fun _ _ h => h.elim)
theorem RatV.to (h : RatV w X v q)
 (k : Keep X w w' := by
  repeat (first
   | (with_reducible exact Keep.refl _ _) | (with_reducible refine Keep.drew ?_) | (with_reducible refine Keep.alloc ?_ _) | (with_reducible refine Keep.drewN ?_)
   | (with_reducible refine Keep.set ?_ ?_ _; rotate_left; (first | (right; simp only [zs]; omega) | (right; omega) | (left; simp only [Old, World.size_alloc, size_set, size_drew, size_drewN]; omega) | (left; dsimp only; omega)))
   | (with_reducible refine Keep.on ?_ (by assumption)))
  fail_if_success exfalso) : RatV w' (fun _ => False) v q := (h.keep k).weak (fun _ _ h => h.elim)
theorem RatV.out (h : RatV w X v q)
 (k : Keep (fun b => X b ∨ Y b) w w' := by
  repeat (first
   | (with_reducible exact Keep.refl _ _) | (with_reducible refine Keep.drew ?_) | (with_reducible refine Keep.alloc ?_ _) | (with_reducible refine Keep.drewN ?_)
   | (with_reducible refine Keep.set ?_ ?_ _; rotate_left; (first | (right; simp only [zs]; omega) | (right; omega) | (left; simp only [Old, World.size_alloc, size_set, size_drew, size_drewN]; omega) | (left; dsimp only; omega) | (left; left; simp only [Old, World.size_alloc, size_set, size_drew, size_drewN]; omega) | (left; right; simp only [Old, World.size_alloc, size_set, size_drew, size_drewN]; omega) | (left; right; dsimp only; omega)))
   | (with_reducible refine Keep.on ?_ (by assumption)))
  fail_if_success exfalso)
 (hY : ∀ b, b < w.heap.size → Y b → X b := by intro b hw hb; (try simp only [Old, World.size_alloc, size_set, size_drew, size_drewN] at hw hb ⊢); first | omega | (exfalso; omega)) : RatV w' Y v q := ((h.weak (Y := fun b => X b ∨ Y b) (fun b hb hxy => hxy.elim id (hY b hb))).keep k).weak (fun b _ h => Or.inr h)
end

set_option maxHeartbeats 1000000 in
theorem over_rat (w : World) (X : Nat → Prop) (v1 v2 : Value) (n1 n2 : Bool) (xs ys : List Nat) (h1 : IntR w X v1 n1 xs) (h2 : IntR w X v2 n2 ys) (hz : val ys ≠ 0) (hs1 : xs.length ≤ 100000000) (hs2 : ys.length ≤ 100000000) :
 Calls Tryz.prog 162 #[v1, v2] w fun e w' => ∃ v', e = .returned v' ∧ IntV w' (Old w) v' (qF (sv n1 xs) (sv n2 ys)) ∧ Below w.heap.size w w' := by
 obtain ⟨A, c, rfl, h1⟩ := h1.op
 obtain ⟨B, d, rfl, h2⟩ := h2.op
 go_enter Tryz.func162, Tryz.ntmps162
 go_wp2_with fail
 refine (divide_any _ (fun _ => False) _ _ n1 n2 xs ys h1.to h2.to hz hs1 hs2).mono ?_
 rintro e w1 ⟨q, r, rfl, hq, hr, hb1⟩
 obtain ⟨z1, z2, z3⟩ := sz3 hb1
 obtain ⟨bq, Aq, mq, cq, rfl, hq⟩ := hq.op
 obtain ⟨br, Ar, mr, cr, rfl, hr⟩ := hr.op
 obtain ⟨c5, f5, -⟩ := (made3 w _ _ #[.bool false, .slice none 0 0] 58).all (w' := w1)
 go_wp2_with fail
 refine bodyPost_ret (by simp [results, Tryz.results162, go_sem, c5, f5, z1, z2, z3] <;> rfl) rfl ⟨_, rfl, hq.out, bel⟩

set_option maxHeartbeats 1000000 in
theorem zero_rat (w : World) :
 Calls Tryz.prog 126 #[] w fun e w' => ∃ v', e = .returned v' ∧ RatV w' (Old w) v' 0 ∧ Below w.heap.size w w' := by
 go_enter Tryz.func126, Tryz.ntmps126
 go_wp2_with fail
 refine (of_any _ 0 (by decide) (by decide)).mono ?_
 rintro e w1 ⟨v1, rfl, h1, hb1⟩
 obtain ⟨b1, A1, m1, c1, rfl, h1⟩ := h1.op
 have z1 := sz1 hb1
 go_wp2_with fail
 refine (of_any _ 1 (by decide) (by decide)).mono ?_
 rintro e w2 ⟨v2, rfl, h2, hb2⟩
 obtain ⟨b2, A2, m2, c2, rfl, h2⟩ := h2.op
 have z2 := hb2.size
 obtain ⟨c5, f5, l5⟩ := (made1 w #[.bool false, .slice none 0 0, .bool false, .slice none 0 0] 60).all (w' := w2)
 go_wp2_with fail
 refine bodyPost_ret (by simp [results, Tryz.results126, go_sem, c5, f5, l5] <;> rfl) rfl ⟨_, rfl, RatV.of h1.out h2.out, bel⟩
end Go.Proofs.YtdambnieminnfaaGreat

/- Arguments opened: an api.Rat, an api.Frac, out of the form's reading. -/
namespace Go.Proofs.YtdambnieminnfaaGreat
open Go.ChangeShapes Go.WideShapes Go.ChangeAt Go.RowKit Go.Joins
open Go.ChangeMaps (open_string shut_string)

end Go.Proofs.YtdambnieminnfaaGreat

