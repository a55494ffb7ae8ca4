/- Contracts of the functions that the statements reach, part 13. -/
import Derived.Test.YtpeglenapmkdfaaGreatRows
import Derived.Deep.DeepCutAuto
import Derived.Test.YtpeglenapmkdfaaGreatM10
import Derived.Test.YtpeglenapmkdfaaGreatM12
set_option linter.unusedSimpArgs false
set_option linter.unusedVariables false

/- Fractions: the plain law of New: what it makes is Lean's own canonical quotient. -/
namespace Go.Proofs.YtpeglenapmkdfaaGreat
open Go.RowKit

theorem qF_exact (x : Int) (G : Nat) (hG : 0 < G) (h : x.natAbs % G = 0) : qF x (G : Int) = x / (G : Int) := by
  have hd := Nat.div_add_mod x.natAbs G
  rw [h, Nat.add_zero] at hd
  have hk : ((x.natAbs / G : Nat) : Int) * (G : Int) = (x.natAbs : Int) := by
    rw [Int.mul_comm]; rw [← Int.natCast_mul, hd]
  have hq : qF x (G : Int) * (G : Int) = x := by
    unfold qF
    rw [Int.natAbs_natCast, h, if_pos rfl, Int.sign_eq_one_of_pos (by omega : (0 : Int) < (G : Int)), Int.mul_one]
    rcases sign_cases x with ⟨h1, h2⟩ | ⟨h1, h2⟩ | ⟨h1, h2⟩
    · rw [h2, if_pos (by decide), Int.neg_mul, hk]; omega
    · rw [h2, if_neg (by decide), hk]; omega
    · rw [h2, if_neg (by decide), hk]; omega
  have h2 := Int.mul_ediv_cancel (qF x (G : Int)) (show (G : Int) ≠ 0 by omega)
  rw [hq] at h2
  exact h2.symm

/-- New's two fields, at a denominator and a numerator that are not 0. -/
theorem new_fields (n d : Int) (hd : d ≠ 0) (hn : n ≠ 0) :
    qF (if d < 0 then -n else n) ((Nat.gcd n.natAbs d.natAbs : Nat) : Int) = (Rat.divInt n d).num ∧ qF (if d < 0 then -d else d) ((Nat.gcd n.natAbs d.natAbs : Nat) : Int) = ((Rat.divInt n d).den : Int) := by
  have hg : 0 < Nat.gcd n.natAbs d.natAbs := Nat.gcd_pos_of_pos_left _ (by omega)
  have h1 : (if d < 0 then -n else n).natAbs = n.natAbs := by split <;> omega
  have h2 : (if d < 0 then -d else d).natAbs = d.natAbs := by split <;> omega
  rw [qF_exact _ _ hg (by rw [h1]; exact Nat.mod_eq_zero_of_dvd (Nat.gcd_dvd_left _ _)), qF_exact _ _ hg (by rw [h2]; exact Nat.mod_eq_zero_of_dvd (Nat.gcd_dvd_right _ _)), Rat.num_divInt, Rat.den_divInt, if_neg hd]
  have hgc : Int.gcd d n = Nat.gcd n.natAbs d.natAbs := by rw [Int.gcd_comm]; rfl
  rw [hgc]
  constructor
  · split
    · rename_i h; rw [Int.sign_eq_neg_one_of_neg h, Int.neg_mul, Int.one_mul]
    · rw [Int.sign_eq_one_of_pos (by omega), Int.one_mul]
  · rw [Int.natCast_ediv]
    congr 1
    split <;> omega

theorem rat_den0 (x : Rat) : ((x.den : Nat) : Int) ≠ 0 := by have := x.den_nz; omega
theorem rat_add (x y : Rat) : Rat.divInt (x.num * y.den + y.num * x.den) (x.den * y.den) = x + y := by
  rw [← Rat.divInt_add_divInt _ _ (rat_den0 x) (rat_den0 y), Rat.num_divInt_den, Rat.num_divInt_den]
theorem rat_mul (x y : Rat) : Rat.divInt (x.num * y.num) (x.den * y.den) = x * y := by
  rw [← Rat.divInt_mul_divInt, Rat.num_divInt_den, Rat.num_divInt_den]
theorem rat_div (x y : Rat) : Rat.divInt (x.num * y.den) (x.den * y.num) = x / y := by
  rw [Rat.div_def, ← Rat.divInt_mul_divInt, Rat.num_divInt_den]
  congr 1
  have h := Rat.inv_divInt y.num (y.den : Int)
  rw [Rat.num_divInt_den] at h
  exact h.symm
theorem rat_neg (x : Rat) : (-x).num = -x.num ∧ (-x).den = x.den := ⟨Rat.neg_num x, Rat.neg_den x⟩
theorem rat_sub (x y : Rat) : Rat.divInt (x.num * y.den - y.num * x.den) (x.den * y.den) = x - y := by
  rw [Rat.sub_eq_add_neg, ← rat_add x (-y), (rat_neg y).1, (rat_neg y).2, Int.neg_mul, Int.sub_eq_add_neg]
theorem divInt_sign (n d : Int) (hd : 0 < d) : (Rat.divInt n d).num.sign = n.sign := by
  rw [Rat.num_divInt, Int.sign_eq_one_of_pos hd, Int.one_mul]
  have hg : 0 < Int.gcd d n := Int.gcd_pos_of_ne_zero_left _ (by omega)
  obtain ⟨k, hk⟩ := Int.gcd_dvd_right (a := d) (b := n)
  have e : n / ((Int.gcd d n : Nat) : Int) = k := by
    conv => lhs; arg 1; rw [hk]
    exact Int.mul_ediv_cancel_left _ (by omega)
  rw [e]
  conv => rhs; rw [hk]
  rw [Int.sign_mul, Int.sign_eq_one_of_pos (show (0 : Int) < ((Int.gcd d n : Nat) : Int) by omega), Int.one_mul]
theorem rat_cmp (x y : Rat) : (x.num * y.den - y.num * x.den).sign = (x - y).num.sign := by
  rw [← rat_sub, divInt_sign]
  exact Int.mul_pos (by have := x.den_nz; omega) (by have := y.den_nz; omega)

/-- The sign that Compare answers. -/
def rcmp (x y : Rat) : Int := (x - y).num.sign
theorem rcmp_le (x y : Rat) : rcmp x y ≤ 0 ↔ x ≤ y := by
  have h : -(x - y) = y - x := Rat.neg_sub x y
  have h2 : (y - x).num = -(x - y).num := by rw [← h, Rat.neg_num]
  rw [Rat.le_iff_sub_nonneg, ← Rat.num_nonneg, h2]
  unfold rcmp
  rcases sign_cases (x - y).num with ⟨a, e⟩ | ⟨a, e⟩ | ⟨a, e⟩ <;> omega
theorem rcmp_neg (x y : Rat) : rcmp y x = -rcmp x y := by
  unfold rcmp
  rw [← Rat.neg_sub x y, Rat.neg_num, Int.sign_neg]
theorem rcmp_zero (x y : Rat) : rcmp x y = 0 ↔ x = y := by
  constructor
  · intro h
    exact Rat.le_antisymm ((rcmp_le x y).1 (by omega)) ((rcmp_le y x).1 (by rw [rcmp_neg]; omega))
  · rintro rfl
    unfold rcmp
    rw [Rat.sub_self]; rfl
theorem rcmp_trans (x y z : Rat) (h1 : rcmp x y ≤ 0) (h2 : rcmp y z ≤ 0) : rcmp x z ≤ 0 :=
  (rcmp_le x z).2 (Rat.le_trans ((rcmp_le x y).1 h1) ((rcmp_le y z).1 h2))
theorem rcmp_add (x y z : Rat) : rcmp (x + z) (y + z) = rcmp x y := by
  unfold rcmp
  have : x + z - (y + z) = x - y := by
    rw [Rat.sub_eq_add_neg, Rat.sub_eq_add_neg, Rat.neg_add, Rat.add_assoc, Rat.add_comm (-y), ← Rat.add_assoc z, Rat.add_neg_cancel, Rat.zero_add]
  rw [this]
theorem rat_add_sub (x y : Rat) : x + y - y = x := by
  rw [Rat.sub_eq_add_neg, Rat.add_assoc, Rat.add_neg_cancel, Rat.add_zero]
theorem rat_div_mul (x y : Rat) (h : y ≠ 0) : x / y * y = x := by
  rw [Rat.div_def, Rat.mul_assoc, Rat.inv_mul_cancel _ h, Rat.mul_one]

theorem qF_rest (x y : Int) (hy : y ≠ 0) : (x - qF x y * y).natAbs < y.natAbs ∧ (x - qF x y * y = 0 ∨ (x - qF x y * y).sign = y.sign) := by
  have hd := Nat.div_add_mod x.natAbs y.natAbs
  have hm := Nat.mod_lt x.natAbs (show 0 < y.natAbs by omega)
  unfold qF
  generalize x.natAbs / y.natAbs = k at *
  generalize x.natAbs % y.natAbs = r at *
  have hk : ((y.natAbs : Nat) : Int) * ((k : Nat) : Int) + ((r : Nat) : Int) = (x.natAbs : Int) := by rw [← hd]; push_cast; rfl
  rcases sign_cases x with ⟨h1, h2⟩ | ⟨h1, h2⟩ | ⟨h1, h2⟩ <;> rcases sign_cases y with ⟨g1, g2⟩ | ⟨g1, g2⟩ | ⟨g1, g2⟩
  all_goals first | omega | skip
  all_goals
    rw [h2, g2]
    first | rw [if_pos (by decide)] | rw [if_neg (by decide)]
    have hky : ((k : Nat) : Int) * y = (x.natAbs : Int) - (r : Int) ∨ ((k : Nat) : Int) * y = (r : Int) - (x.natAbs : Int) := by
      rcases Int.lt_or_lt_of_ne hy with h | h
      · right
        rw [(by omega : ((y.natAbs : Nat) : Int) = -y), Int.neg_mul, Int.mul_comm y] at hk
        omega
      · left
        rw [(by omega : ((y.natAbs : Nat) : Int) = y), Int.mul_comm y] at hk
        omega
    have hky2 : 0 < y → ((k : Nat) : Int) * y = (x.natAbs : Int) - (r : Int) := fun h => by
      rw [(by omega : ((y.natAbs : Nat) : Int) = y), Int.mul_comm y] at hk
      omega
    have hky3 : y < 0 → ((k : Nat) : Int) * y = (r : Int) - (x.natAbs : Int) := fun h => by
      rw [(by omega : ((y.natAbs : Nat) : Int) = -y), Int.neg_mul, Int.mul_comm y] at hk
      omega
    clear hk hky hd
    try split
    all_goals
      try simp only [Int.sub_mul, Int.neg_mul, Int.one_mul]
      generalize ((k : Nat) : Int) * y = m at *
      refine ⟨by omega, ?_⟩
      by_cases hr : r = 0
      · left; omega
      · first | (right; exact Int.sign_eq_one_of_pos (by omega)) | (right; exact Int.sign_eq_neg_one_of_neg (by omega)) | (left; omega)
/-- Over a divisor above 0 the code's floor is Lean's. -/
theorem qF_ediv (x : Int) (G : Nat) (hG : 0 < G) : qF x (G : Int) = x / (G : Int) := by
  obtain ⟨h1, h2⟩ := qF_rest x (G : Int) (by omega)
  have h3 : 0 ≤ x - qF x (G : Int) * (G : Int) := by
    rcases h2 with h | h
    · omega
    · rw [Int.sign_eq_one_of_pos (show (0 : Int) < (G : Int) by omega)] at h
      rcases sign_cases (x - qF x (G : Int) * (G : Int)) with ⟨a, e⟩ | ⟨a, e⟩ | ⟨a, e⟩ <;> omega
  generalize hr : x - qF x (G : Int) * (G : Int) = r at *
  have hx : x = r + qF x (G : Int) * (G : Int) := by omega
  have e : x / (G : Int) = (r + qF x (G : Int) * (G : Int)) / (G : Int) := by rw [← hx]
  rw [e, Int.add_mul_ediv_right _ _ (by omega), Int.ediv_eq_zero_of_lt h3 (by omega), Int.zero_add]
theorem rat_floor (q : Rat) : qF q.num (q.den : Int) = q.floor := by
  rw [qF_ediv _ _ (by have := q.den_nz; omega), Rat.floor_def]
end Go.Proofs.YtpeglenapmkdfaaGreat

/- divWords of the reference: quotient and remainder, a word at a time, each by halving. -/
namespace Go.Proofs.YtpeglenapmkdfaaGreat
open Go.RowKit
attribute [local go_sem ↓] Go.wp_at_zero Go.wp_at_succ

theorem div_word (x N d B : Nat) (hd : 0 < d) : (x + B * N) % d = (x + B * (N % d)) % d ∧ (x + B * N) / d = (x + B * (N % d)) / d + B * (N / d) := by
  have e : x + B * N = (x + B * (N % d)) + d * (B * (N / d)) := by
    have h := Nat.div_add_mod N d
    have h2 : B * N = B * (d * (N / d)) + B * (N % d) := by rw [← Nat.mul_add, h]
    rw [h2, Nat.mul_left_comm B d]
    omega
  rw [e]
  exact ⟨Nat.add_mul_mod_self_left _ _ _, Nat.add_mul_div_left _ _ hd⟩

theorem cmpN_le (a b : Nat) : cmpN a b ≤ 0 ↔ a ≤ b := by
  unfold cmpN
  split
  · omega
  · split <;> omega

set_option maxRecDepth 20000 in
set_option maxHeartbeats 2000000 in
theorem divWords_any (w : World) (X : Nat → Prop) (va vb : Value) (xs ys : List Nat) (ha : Words w X va xs) (hb : Words w X vb ys) (hy : Can ys) (hne : 0 < ys.length) (hs : xs.length + ys.length ≤ 100000000000) :
    Calls Tryz.prog 102 #[va, vb] w fun e w' => ∃ v1 v2, e = .returned (.tuple #[v1, v2]) ∧ Words w' (Old w) v1 (dig (val xs / val ys)) ∧ Words w' (Old w) v2 (dig (val xs % val ys)) ∧ Below w.heap.size w w' := by
  obtain ⟨A, c, rfl, hc, _, HA⟩ := ha.open_
  obtain ⟨B, d, rfl, hd, _, HB⟩ := hb.open_
  have hm := HA.lt_max
  have hm2 := HB.lt_max
  have hpos : 0 < val ys := hy.pos (by intro e; subst e; simp at hne)
  have hlow := can_lower hy (by intro e; subst e; simp at hne)
  go_enter Tryz.func102, Tryz.ntmps102
  go_upto_if 19 with fail
  go_cut [6] (fun s W => ∃ sk : Nat, sk ≤ xs.length ∧ sk ≤ ys.length - 1 ∧ s = .int .i64 sk ∧ W = w)
  case first =>
    by_cases hgt : ys.length - 1 > xs.length
    · go_wp2_with fail
      go_meet
      exact ⟨xs.length, by omega, by omega, by go_num, rfl⟩
    · go_wp2_with fail
      go_meet
      exact ⟨ys.length - 1, by omega, by omega, by go_num, rfl⟩
  case rest =>
    obtain ⟨sk, hk1, hk2, rfl, hw0⟩ := hcut
    obtain rfl : w = wc := hw0.symm
    go_upto_region 4 with fail
    go_cut [7] (fun r W => Words W (Old w) r (dig (val (xs.drop (xs.length - sk)))) ∧ Below w.heap.size w W)
    case first =>
      have HD := HA.drop (k := xs.length - sk) (by omega)
      by_cases hc2 : c = xs.length - sk
      · subst hc2
        rw [if_pos rfl] at HD
        rw [Nat.sub_self, (by omega : xs.length - (xs.length - sk) = 0)] at HD
        go_wp2_with fail
        refine (rtrim_any _ _ _ _ HD (by rw [List.length_drop]; omega)).mono ?_
        rintro e w1 ⟨v1, rfl, h1, hb1⟩
        rw [trimL_dig (Ws.drop HA.2 _)] at h1
        go_wp2_with fail
        go_meet
        exact ⟨h1, hb1⟩
      · rw [if_neg hc2] at HD
        go_wp2_with fail
        refine (rtrim_any _ _ _ _ HD (by rw [List.length_drop]; omega)).mono ?_
        rintro e w1 ⟨v1, rfl, h1, hb1⟩
        rw [trimL_dig (Ws.drop HA.2 _)] at h1
        go_wp2_with fail
        go_meet
        exact ⟨h1, hb1⟩
    case rest =>
      obtain ⟨hr0, hb0⟩ := hcut
      have hsmall : val (xs.drop (xs.length - sk)) < val ys := by
        refine Nat.lt_of_lt_of_le (val_lt (Ws.drop HA.2 _)) (Nat.le_trans (Nat.pow_le_pow_right (by omega) ?_) hlow)
        rw [List.length_drop]; omega
      have HDV := Lib.hid hpos
      have HLOW := Lib.hid hlow
      have HSM := Lib.hid hsmall
      clear hpos hlow hsmall
      go_wp2_with fail
      go_loopw [7, 8, 9] (fun r q i wr => ∃ (k : Nat) (qs : List Nat), k ≤ xs.length - sk ∧ i = .int .i64 ((k : Int) - 1) ∧ Words wr (Old w) r (dig (val (xs.drop k) % val ys)) ∧ Words wr (Old w) q qs ∧ qs.length ≤ xs.length - k ∧ val qs = val (xs.drop k) / val ys ∧ Below w.heap.size w wr) (fun _ _ i _ => (intOf i + 1).toNat)
      case atStart =>
        refine ⟨xs.length - sk, [], Nat.le_refl _, by go_num, ?_, ?_, by simp, ?_, hb0.alloc hb0.size _⟩
        · rw [Nat.mod_eq_of_lt HSM.out]; exact hr0.below (below1 _ _)
        · exact Words.lit [] (Loc.new _ _ _) (by simp) (by have := hb0.size; simp only [Old]; omega) (by unfold maxLen; simp)
        · rw [Nat.div_eq_of_lt HSM.out]; rfl
      case round =>
        obtain ⟨k, qs, hk, hi, hr, hq, hql, hqv, hbr⟩ := hrel
        have HQV := Lib.hid hqv
        clear hqv hr0 hb0
        by_cases hk0 : k = 0
        · subst hk0
          obtain rfl := hi
          go_wp2_with fail
          refine (rtrim_any _ _ _ _ hq (by omega)).mono ?_
          rintro e w1 ⟨v1, rfl, h1, hb1⟩
          rw [trimL_dig hq.2, HQV.out, List.drop_zero] at h1
          have hr1 := hr.below hb1
          rw [List.drop_zero] at hr1
          go_wp2_with fail
          go_ret2
          exact ⟨_, _, rfl, h1.weak (fun b _ hb => by simp only [Old] at hb ⊢; have := hbr.size; omega), hr1, hbr.trans (hb1.mono hbr.size)⟩
        · obtain ⟨j, rfl⟩ : ∃ j, k = j + 1 := ⟨k - 1, by omega⟩
          obtain rfl := hi.trans (show Value.int .i64 (((j + 1 : Nat) : Int) - 1) = .int .i64 (j : Int) by congr 1; omega)
          clear hi
          have HBr := HB.below hbr
          have HAr := HA.below hbr
          obtain ⟨a, rfl, _, _, hca⟩ := HAr.at_ (k := j) (by omega)
          have hlt := HA.lt (i := j) (by omega)
          obtain ⟨hdm, hdd⟩ := div_word xs[j] (val (xs.drop (j + 1))) (val ys) 4294967296 HDV.out
          rw [← val_drop_succ xs j (by omega)] at hdm hdd
          have hrl := Nat.mod_lt (val (xs.drop (j + 1))) HDV.out
          have hQ : (xs[j] + 4294967296 * (val (xs.drop (j + 1)) % val ys)) / val ys < 4294967296 := by
            rw [Nat.div_lt_iff_lt_mul HDV.out]
            omega
          have hrlen : (dig (val (xs.drop (j + 1)) % val ys)).length ≤ ys.length := dig_len_le (Nat.lt_trans hrl (val_lt hy.1))
          rw [← HQV.out] at hdd
          have HDM := Lib.hid hdm
          have HDD := Lib.hid hdd
          have HQB := Lib.hid hQ
          have HRD := Lib.hid (ws_dig (val (xs.drop (j + 1)) % val ys))
          have HRV := Lib.hid (val_dig (val (xs.drop (j + 1)) % val ys))
          clear hdm hdd hQ hrl
          generalize hr0 : val (xs.drop (j + 1)) % val ys = r0 at *
          clear hr0
          generalize hx : xs[j] = x at *
          have HX := Lib.hid hx
          clear hx
          generalize hrs : dig r0 = rs at *
          have HRS := Lib.hid hrs
          clear hrs
          have b1 : (0 : Int) ≤ (j : Int) := by omega
          have b2 : (j : Int) < (xs.length : Int) := by omega
          go_wp2_with (at_builtin; refine wpList_words _ rfl _ _ rfl Tryz.underlying40 info_u32 wr.heap.size _ 1 [.int .u32 (x : Nat)] rfl (World.ownsRow_lit (e := 113) (size := 1) wr #[.int .u32 (x : Nat)] 1 (Nat.le_refl _) (by unfold maxLen; omega) rfl) rs _ rfl (hr.below (below1 wr _)) (by omega) (by unfold maxLen; omega) (by simp) ?_)
          intro v1 w1 hown1 hg1 hob1
          have k1 : Below wr.heap.size wr w1 := below_own (below1 wr (.cells #[.int .u32 (x : Nat)] 113)) (World.ownsRow_lit (e := 113) (size := 1) wr #[.int .u32 (x : Nat)] 1 (Nat.le_refl _) (by unfold maxLen; omega) rfl) hg1 (Nat.le_refl _) (by simp)
          have hw1 : Words w1 (Old w) v1 (x :: rs) := Words.of_own (xs := x :: rs) (by rw [List.length_cons, Nat.add_comm]; exact hown1) (by intro y hy; rcases List.mem_cons.1 hy with e | e; (subst e; omega); exact HRD.out y e) (fun b h1 _ _ => by have := hbr.size; unfold Old; omega)
          go_wp2_with fail
          refine (rtrim_any _ _ _ _ hw1 (by simp only [List.length_cons]; omega)).mono ?_
          rintro e w2 ⟨v2, rfl, h2, hb2⟩
          rw [trimL_dig hw1.2] at h2
          have hRv : val (x :: rs) = x + 4294967296 * r0 := by show x + 4294967296 * val rs = _; rw [HRV.out]
          rw [hRv] at h2
          have hRl : (dig (x + 4294967296 * r0)).length ≤ rs.length + 1 := by rw [← hRv]; exact dig_val_len (xs := x :: rs) hw1.2
          have HRL := Lib.hid hRl
          clear hRv hRl
          have k2 := k1.trans (hb2.mono k1.size)
          generalize hR : x + 4294967296 * r0 = R at *
          have HR := Lib.hid hR
          clear hR
          have hMID : ∀ m, val ys * m ≤ R ↔ m ≤ R / val ys := fun m => by rw [Nat.le_div_iff_mul_le HDV.out, Nat.mul_comm]
          have hREM : R - val ys * (R / val ys) = R % val ys := by have := Nat.div_add_mod R (val ys); omega
          have HMID := Lib.hid hMID
          have HREM := Lib.hid hREM
          have hQ := HQB.out
          clear hMID hREM HQB
          generalize hQ' : R / val ys = Q at *
          clear hQ'
          have h2' := h2.weak (Y := Old w) (fun b _ hb => by simp only [Old] at hb ⊢; have := hbr.size; have := k1.size; omega)
          have HB2 := HBr.below k2
          have hq2 := hq.below k2
          have hB2 := hbr.trans (k2.mono hbr.size)
          clear h2 hw1 hown1 hg1 hob1 hr hq k1 hb2 HBr HAr hca
          go_wp2_with fail
          go_loopw [10, 11] (fun l h wi => ∃ (lo hi : Nat), l = .int .u64 lo ∧ h = .int .u64 hi ∧ lo ≤ Q ∧ Q < hi ∧ hi ≤ 4294967296 ∧ Below w2.heap.size w2 wi) (fun l h _ => (intOf h - intOf l).toNat)
          case atStart => exact ⟨0, 4294967296, rfl, rfl, by omega, hQ, by omega, Below.refl _ _⟩
          case round =>
            obtain ⟨lo, hi, rfl, rfl, hlo, hhi, hB, hbi⟩ := hrel
            have HBi := HB2.below hbi
            have h2i := h2'.below hbi
            have e1 : IntKind.u64.wrap ((hi : Int) - (lo : Int)) = (hi : Int) - (lo : Int) := by rw [IntKind.wrap_u64]; omega
            have e2 : IntKind.u64.wrap ((lo : Int) + (hi : Int)) = (lo : Int) + (hi : Int) := by rw [IntKind.wrap_u64]; omega
            by_cases hgo : lo + 1 < hi
            · obtain ⟨m, hm⟩ : ∃ m, m = (lo + hi) / 2 := ⟨_, rfl⟩
              have e3 : ((lo : Int) + (hi : Int)) / 2 = (m : Int) := by omega
              have hmb : lo < m ∧ m < hi := by omega
              have hgo' : (1 : Int) < (hi : Int) - (lo : Int) := by omega
              clear hm
              go_wp2_with fail
              refine (timesWord_any _ X _ ys m HBi (by omega) (by omega)).mono ?_
              rintro e w3 ⟨v3, rfl, h3, hb3⟩
              go_wp2_with fail
              refine (compareWords_any _ (fun _ => False) _ _ _ _ (h3.weak (fun _ _ h => h.elim)) ((h2i.below hb3).weak (fun _ _ h => h.elim)) (can_dig _) (can_dig _)).mono ?_
              rintro e w4 ⟨rfl, n, rfl⟩
              have hiff : cmpN (val (dig (val ys * m))) (val (dig R)) ≤ 0 ↔ m ≤ Q := by rw [val_dig, val_dig, cmpN_le]; exact HMID.out m
              generalize cmpN (val (dig (val ys * m))) (val (dig R)) = cc at *
              have HIFF := Lib.hid hiff
              clear hiff
              by_cases hmq : m ≤ Q
              · have hcc : cc ≤ 0 := HIFF.out.2 hmq
                go_wp2_with fail
                go_roundw
                case rel => exact ⟨m, hi, rfl, rfl, hmq, hhi, hB, below_drewN (hbi.trans (hb3.mono hbi.size)) n⟩
                case measure => simp only [intOf]; omega
              · have hcc : ¬ cc ≤ 0 := fun h => hmq (HIFF.out.1 h)
                go_wp2_with fail
                go_roundw
                case rel => exact ⟨lo, m, rfl, rfl, hlo, by omega, by omega, below_drewN (hbi.trans (hb3.mono hbi.size)) n⟩
                case measure => simp only [intOf]; omega
            · have hgo' : ¬ (1 : Int) < (hi : Int) - (lo : Int) := by omega
              obtain rfl : lo = Q := by omega
              have hRl := HRL.out
              have hle := (HMID.out lo).2 (Nat.le_refl _)
              have HLE := Lib.hid hle
              clear hle
              go_wp2_with fail
              refine (timesWord_any _ X _ ys lo HBi (by omega) (by omega)).mono ?_
              rintro e w3 ⟨v3, rfl, h3, hb3⟩
              go_wp2_with fail
              refine (subWords_any _ (fun _ => False) _ _ _ _ ((h2i.below hb3).weak (fun _ _ h => h.elim)) (h3.weak (fun _ _ h => h.elim)) (by omega) (by rw [val_dig, val_dig]; exact HLE.out) (dig_len_mono HLE.out)).mono ?_
              rintro e w4 ⟨v4, rfl, h4, hb4⟩
              rw [val_dig, val_dig, HREM.out, ← HDM.out] at h4
              have k4 := (hbi.trans (hb3.mono hbi.size)).trans (hb4.mono (hbi.trans (hb3.mono hbi.size)).size)
              have hB4 := hB2.trans (k4.mono hB2.size)
              have hq4 := hq2.below k4
              have h4' := h4.weak (Y := Old w) (fun b _ hb => by simp only [Old] at hb ⊢; have := hB2.size; have := hbi.size; have := hb3.size; omega)
              have e4 : IntKind.u32.wrap (lo : Int) = (lo : Int) := by rw [IntKind.wrap_u32]; omega
              clear h4 h3 h2i HBi HB2 hq2 h2' e1 e2
              go_wp2_with (at_builtin; refine wpList_words _ rfl _ _ rfl Tryz.underlying40 info_u32 w4.heap.size _ 1 [.int .u32 (lo : Nat)] rfl (World.ownsRow_lit (e := 113) (size := 1) w4 #[.int .u32 (lo : Nat)] 1 (Nat.le_refl _) (by unfold maxLen; omega) rfl) qs _ rfl (hq4.below (below1 w4 _)) (by omega) (by unfold maxLen; omega) (by simp) ?_)
              intro v5 w5 hown5 hg5 hob5
              have k5 : Below w4.heap.size w4 w5 := below_own (below1 w4 (.cells #[.int .u32 (lo : Nat)] 113)) (World.ownsRow_lit (e := 113) (size := 1) w4 #[.int .u32 (lo : Nat)] 1 (Nat.le_refl _) (by unfold maxLen; omega) rfl) hg5 (Nat.le_refl _) (by simp)
              have hw5 : Words w5 (Old w) v5 (lo :: qs) := Words.of_own (xs := lo :: qs) (by rw [List.length_cons, Nat.add_comm]; exact hown5) (by intro y hy; rcases List.mem_cons.1 hy with e | e; (subst e; omega); exact hq4.2 y e) (fun b h1 _ _ => by have := hB4.size; unfold Old; omega)
              go_wp2_with fail
              go_roundw
              case rel =>
                refine ⟨j, lo :: qs, by omega, by go_num, h4'.below k5, hw5, by simp only [List.length_cons]; omega, ?_, hB4.trans (k5.mono hB4.size)⟩
                rw [HDD.out]
                rfl
              case measure => simp only [intOf]; omega
end Go.Proofs.YtpeglenapmkdfaaGreat

