/- Neg, Abs, Bits of package integer; Clean, Neg, Abs, Valid, Sign, Bits of the reference. -/
import Derived.Test.YtlbgnndjacagkaaRows
import Derived.Test.YtlbgnndjacagkaaApi2
import Derived.Test.YtlbgnndjacagkaaLen
namespace Go.Proofs.Ytlbgnndjacagkaa
open Go.RowKit
attribute [local go_sem ↓] Go.wp_at_zero Go.wp_at_succ

theorem sv_absI (neg : Bool) (xs : List Nat) : sv false xs = ((sv neg xs).natAbs : Int) := by rw [sv_abs, sv_false]

set_option maxHeartbeats 400000 in
theorem neg_any (w : World) (X : Nat → Prop) (v : Value) (neg : Bool) (xs : List Nat) (h : IntR w X v neg xs) (hsz : xs.length ≤ 1099511627776) :
    Calls Try.prog 27 #[v] w fun e w' => ∃ v', e = .returned v' ∧ IntV w' (Old w) v' (-(sv neg xs)) ∧ Below w.heap.size w w' := by
  obtain ⟨A, c, rfl, _, _, H⟩ := h.open_
  go_enter Try.func27, Try.ntmps27
  go_wp2_with fail
  refine (signed_any _ X _ _ xs (H.below (below2 _ _ _)) (by omega)).mono ?_
  rintro e w2 ⟨v2, rfl, h2, hb2⟩
  obtain ⟨b2, A2, n2, c2, rfl, h2⟩ := h2.op
  obtain ⟨La, Lr, hB, hsz2⟩ := locs2 hb2
  have cc := Lr.cell
  have cf := Lr.frz
  go_wp2_with fail
  refine bodyPost_ret (by simp [results, Try.results27, go_sem, cc, cf] <;> rfl) rfl ⟨_, rfl, ?_, below_set2 hB (by omega) _ _⟩
  have h3 := IntV.stored (g := w.heap.size + 1) (Y := Old w) h2 (by simp only [Old, World.size_alloc]; omega) (.bool b2) (.slice A2 n2 c2) (by intro b _ hb; simp only [Old, World.size_alloc] at hb ⊢; omega)
  rw [sv_not] at h3
  exact h3

set_option maxHeartbeats 400000 in
theorem abs_any (w : World) (X : Nat → Prop) (v : Value) (neg : Bool) (xs : List Nat) (h : IntR w X v neg xs) (hsz : xs.length ≤ 1099511627776) :
    Calls Try.prog 29 #[v] w fun e w' => ∃ v', e = .returned v' ∧ IntV w' (Old w) v' (((sv neg xs).natAbs : Int)) ∧ Below w.heap.size w w' := by
  obtain ⟨A, c, rfl, _, _, H⟩ := h.open_
  go_enter Try.func29, Try.ntmps29
  go_wp2_with fail
  refine (signed_any _ X _ _ xs (H.below (below2 _ _ _)) (by omega)).mono ?_
  rintro e w2 ⟨v2, rfl, h2, hb2⟩
  obtain ⟨b2, A2, n2, c2, rfl, h2⟩ := h2.op
  obtain ⟨La, Lr, hB, hsz2⟩ := locs2 hb2
  have cc := Lr.cell
  have cf := Lr.frz
  go_wp2_with fail
  refine bodyPost_ret (by simp [results, Try.results29, go_sem, cc, cf] <;> rfl) rfl ⟨_, rfl, ?_, below_set2 hB (by omega) _ _⟩
  have h3 := IntV.stored (g := w.heap.size + 1) (Y := Old w) h2 (by simp only [Old, World.size_alloc]; omega) (.bool b2) (.slice A2 n2 c2) (by intro b _ hb; simp only [Old, World.size_alloc] at hb ⊢; omega)
  rw [sv_absI neg] at h3
  exact h3

set_option maxHeartbeats 400000 in
theorem rclean_any (w : World) (X : Nat → Prop) (v : Value) (neg : Bool) (xs : List Nat) (h : IntR w X v neg xs) (hsz : xs.length ≤ 1099511627776) :
    Calls Try.prog 21 #[v] w fun e w' => ∃ v', e = .returned v' ∧ IntV w' (Old w) v' (sv neg xs) ∧ Below w.heap.size w w' := by
  obtain ⟨A, c, rfl, _, _, H⟩ := h.open_
  go_enter Try.func21, Try.ntmps21
  go_wp2_with fail
  refine (made_any _ X _ _ xs (H.below (below2 _ _ _)) (by omega)).mono ?_
  rintro e w2 ⟨v2, rfl, h2, hb2⟩
  obtain ⟨b2, A2, n2, c2, rfl, h2⟩ := h2.op
  obtain ⟨La, Lr, hB, hsz2⟩ := locs2 hb2
  have cc := Lr.cell
  have cf := Lr.frz
  go_wp2_with fail
  refine bodyPost_ret (by simp [results, Try.results21, go_sem, cc, cf] <;> rfl) rfl ⟨_, rfl, ?_, below_set2 hB (by omega) _ _⟩
  have h3 := IntV.stored (g := w.heap.size + 1) (Y := Old w) h2 (by simp only [Old, World.size_alloc]; omega) (.bool b2) (.slice A2 n2 c2) (by intro b _ hb; simp only [Old, World.size_alloc] at hb ⊢; omega)
  exact h3

set_option maxHeartbeats 400000 in
theorem rneg_any (w : World) (X : Nat → Prop) (v : Value) (neg : Bool) (xs : List Nat) (h : IntR w X v neg xs) (hsz : xs.length ≤ 1099511627776) :
    Calls Try.prog 28 #[v] w fun e w' => ∃ v', e = .returned v' ∧ IntV w' (Old w) v' (-(sv neg xs)) ∧ Below w.heap.size w w' := by
  obtain ⟨A, c, rfl, _, _, H⟩ := h.open_
  go_enter Try.func28, Try.ntmps28
  go_wp2_with fail
  refine (made_any _ X _ _ xs (H.below (below2 _ _ _)) (by omega)).mono ?_
  rintro e w2 ⟨v2, rfl, h2, hb2⟩
  obtain ⟨b2, A2, n2, c2, rfl, h2⟩ := h2.op
  obtain ⟨La, Lr, hB, hsz2⟩ := locs2 hb2
  have cc := Lr.cell
  have cf := Lr.frz
  go_wp2_with fail
  refine bodyPost_ret (by simp [results, Try.results28, go_sem, cc, cf] <;> rfl) rfl ⟨_, rfl, ?_, below_set2 hB (by omega) _ _⟩
  have h3 := IntV.stored (g := w.heap.size + 1) (Y := Old w) h2 (by simp only [Old, World.size_alloc]; omega) (.bool b2) (.slice A2 n2 c2) (by intro b _ hb; simp only [Old, World.size_alloc] at hb ⊢; omega)
  rw [sv_not] at h3
  exact h3

set_option maxHeartbeats 400000 in
theorem rabs_any (w : World) (X : Nat → Prop) (v : Value) (neg : Bool) (xs : List Nat) (h : IntR w X v neg xs) (hsz : xs.length ≤ 1099511627776) :
    Calls Try.prog 30 #[v] w fun e w' => ∃ v', e = .returned v' ∧ IntV w' (Old w) v' (((sv neg xs).natAbs : Int)) ∧ Below w.heap.size w w' := by
  obtain ⟨A, c, rfl, _, _, H⟩ := h.open_
  go_enter Try.func30, Try.ntmps30
  go_wp2_with fail
  refine (made_any _ X _ _ xs (H.below (below2 _ _ _)) (by omega)).mono ?_
  rintro e w2 ⟨v2, rfl, h2, hb2⟩
  obtain ⟨b2, A2, n2, c2, rfl, h2⟩ := h2.op
  obtain ⟨La, Lr, hB, hsz2⟩ := locs2 hb2
  have cc := Lr.cell
  have cf := Lr.frz
  go_wp2_with fail
  refine bodyPost_ret (by simp [results, Try.results30, go_sem, cc, cf] <;> rfl) rfl ⟨_, rfl, ?_, below_set2 hB (by omega) _ _⟩
  have h3 := IntV.stored (g := w.heap.size + 1) (Y := Old w) h2 (by simp only [Old, World.size_alloc]; omega) (.bool b2) (.slice A2 n2 c2) (by intro b _ hb; simp only [Old, World.size_alloc] at hb ⊢; omega)
  rw [sv_absI neg] at h3
  exact h3

set_option maxHeartbeats 400000 in
theorem rvalid_any (w : World) (X : Nat → Prop) (v : Value) (neg : Bool) (xs : List Nat) (h : IntR w X v neg xs) :
    Calls Try.prog 22 #[v] w fun e w' => e = .returned (.bool (validR neg xs)) ∧ Below w.heap.size w w' := by
  obtain ⟨A, c, rfl, h1, h2, H⟩ := h.open_
  have hm := H.lt_max
  by_cases h0 : xs = []
  · subst h0
    go_enter Try.func22, Try.ntmps22
    go_wp2_with fail
    go_ret
    exact ⟨ret_eq (bool_eq (by simp [validR])), below1 _ _⟩
  · have hl : 0 < xs.length := List.length_pos_iff.2 h0
    have hlb : ((xs.length : Int) == 0) = false := by simp; omega
    obtain ⟨a, rfl, _, _, hc⟩ := (H.below (below1 w (.cells #[.bool neg, .slice A xs.length c] 24))).at_ (k := xs.length - 1) (by omega)
    have hv : validR neg xs = (((xs[xs.length - 1] : Nat) : Int) != 0) := by
      unfold validR; rw [dif_neg h0, List.getLast_eq_getElem]
      simp [bne]
      rw [Bool.eq_iff_iff]; simp
    have HV := Lib.hid hv
    clear hv h0
    go_enter Try.func22, Try.ntmps22
    go_wp2_with fail
    go_ret
    exact ⟨ret_eq (bool_eq HV.out.symm), below1 _ _⟩

set_option maxHeartbeats 400000 in
theorem rsign_any (w : World) (X : Nat → Prop) (v : Value) (neg : Bool) (xs : List Nat) (h : IntR w X v neg xs) (hsz : xs.length ≤ 1000000000000) :
    Calls Try.prog 24 #[v] w fun e w' => e = .returned (.int .i64 (sv neg xs).sign) ∧ Below w.heap.size w w' := by
  obtain ⟨A, c, rfl, h1, h2, H⟩ := h.open_
  have hlen := trimL_dig H.2
  have hpos := dig_len_pos (val xs)
  by_cases h0 : val xs = 0
  · have hn : trimL xs = [] := by rw [hlen, h0, dig_zero]
    have HN := Lib.hid hn
    have hs : (sv neg xs).sign = 0 := by unfold sv; rw [h0]; cases neg <;> simp
    have HS := Lib.hid hs
    clear hn hs hlen hpos h0
    go_enter Try.func24, Try.ntmps24
    go_wp2_with fail
    refine (rtrim_any _ X _ xs (H.below (below1 _ _)) (by omega)).mono ?_
    rintro e w2 ⟨v1, rfl, hv1, hb2⟩
    rw [HN.out] at hv1
    obtain ⟨A1, c1, rfl, _, _, _⟩ := hv1.open_
    obtain ⟨La, hB, _⟩ := locs1 hb2
    go_wp2_with fail
    go_ret
    exact ⟨ret_eq (int_eq HS.out.symm), hB⟩
  · have hl : 0 < (trimL xs).length := by rw [hlen]; omega
    have hlb : (((trimL xs).length : Int) == 0) = false := by rw [beq_eq_false_iff_ne]; omega
    have hs : (sv neg xs).sign = if neg then -1 else 1 := by
      unfold sv; cases neg
      · show ((val xs : Nat) : Int).sign = 1
        exact Int.sign_eq_one_of_pos (by omega)
      · show (-((val xs : Nat) : Int)).sign = -1
        exact Int.sign_eq_neg_one_of_neg (by omega)
    have HS := Lib.hid hs
    clear hs hlen hpos h0
    cases neg
    all_goals
      go_enter Try.func24, Try.ntmps24
      go_wp2_with fail
      refine (rtrim_any _ X _ xs (H.below (below1 _ _)) (by omega)).mono ?_
      rintro e w2 ⟨v1, rfl, hv1, hb2⟩
      obtain ⟨A1, c1, rfl, _, _, _⟩ := hv1.open_
      obtain ⟨La, hB, _⟩ := locs1 hb2
      have cc := La.cell
      go_wp2_with fail
      go_ret
      exact ⟨ret_eq (int_eq HS.out.symm), hB⟩

/-- The bits of canonical words. -/
def bitsW (ws : List Nat) : Nat := 32 * (ws.length - 1) + Lib.bitLen (ws.getLastD 0)

theorem bitsW_nil : bitsW [] = 0 := rfl
theorem bitsW_last {ws : List Nat} (h : 0 < ws.length) : bitsW ws = 32 * (ws.length - 1) + Lib.bitLen (ws[ws.length - 1]'(by omega)) := by
  unfold bitsW
  congr 2
  have hne : ws ≠ [] := List.length_pos_iff.1 h
  rw [← List.getLast_eq_getElem hne]
  cases ws with
  | nil => exact absurd rfl hne
  | cons x xs => simp [List.getLastD_eq_getLast?, List.getLast?_eq_some_getLast]

set_option maxHeartbeats 1000000 in
theorem bits_any (w : World) (X : Nat → Prop) (v : Value) (neg : Bool) (xs : List Nat) (h : IntR w X v neg xs) (hsz : xs.length ≤ 1000000000000) :
    Calls Try.prog 25 #[v] w fun e w' => e = .returned (.int .i64 (bitsW (dig (val xs)) : Nat)) ∧ Below w.heap.size w w' := by
  obtain ⟨A, c, rfl, h1, h2, H⟩ := h.open_
  have hlen := trimL_len xs
  have hdig := trimL_dig H.2
  have HD := Lib.hid hdig
  clear hdig
  go_enter Try.func25, Try.ntmps25
  go_wp2_with fail
  refine (trim_any _ X _ xs (H.below (below1 _ _))).mono ?_
  rintro e w' ⟨v1, rfl, hv1, rfl⟩
  obtain ⟨A1, c1, rfl, _, _, H1⟩ := hv1.open_
  generalize hys : trimL xs = ys at *
  clear hys
  by_cases h0 : ys = []
  · subst h0
    go_wp2_with fail
    go_ret
    exact ⟨ret_eq (int_eq (by rw [← HD.out]; rfl)), below1 _ _⟩
  · have hl : 0 < ys.length := List.length_pos_iff.2 h0
    have hlb : ((ys.length : Int) == 0) = false := by rw [beq_eq_false_iff_ne]; omega
    obtain ⟨a, rfl, _, _, hc⟩ := H1.at_ (k := ys.length - 1) (by omega)
    have by_ := H1.lt (i := ys.length - 1) (by omega)
    have hb := Lib.bitLen_le ys[ys.length - 1] 32 (by omega) (by omega)
    clear h0 hv1 H1
    go_wp2_with (go_at_call 52; refine (len32_any _ _ (by omega) (by omega)).mono ?_; rintro e w' ⟨rfl, rfl⟩; rw [Int.toNat_natCast])
    go_ret
    refine ⟨ret_eq (int_eq ?_), below1 _ _⟩
    rw [← HD.out, bitsW_last hl]
    omega

set_option maxHeartbeats 1000000 in
theorem rbits_any (w : World) (X : Nat → Prop) (v : Value) (neg : Bool) (xs : List Nat) (h : IntR w X v neg xs) (hsz : xs.length ≤ 1000000000000) :
    Calls Try.prog 26 #[v] w fun e w' => e = .returned (.int .i64 (bitsW (dig (val xs)) : Nat)) ∧ Below w.heap.size w w' := by
  obtain ⟨A, c, rfl, h1, h2, H⟩ := h.open_
  have hlen := trimL_len xs
  have hdig := trimL_dig H.2
  have HD := Lib.hid hdig
  clear hdig
  go_enter Try.func26, Try.ntmps26
  go_wp2_with fail
  refine (rtrim_any _ X _ xs (H.below (below1 _ _)) (by omega)).mono ?_
  rintro e w2 ⟨v1, rfl, hv1, hb2⟩
  obtain ⟨A1, c1, rfl, _, _, H1⟩ := hv1.open_
  obtain ⟨La, hB, _⟩ := locs1 hb2
  clear hb2 La
  generalize hys : trimL xs = ys at *
  clear hys
  by_cases h0 : ys = []
  · subst h0
    go_wp2_with fail
    go_ret
    exact ⟨ret_eq (int_eq (by rw [← HD.out]; rfl)), hB⟩
  · have hl : 0 < ys.length := List.length_pos_iff.2 h0
    have hlb : ((ys.length : Int) == 0) = false := by rw [beq_eq_false_iff_ne]; omega
    obtain ⟨a, rfl, _, _, hc⟩ := H1.at_ (k := ys.length - 1) (by omega)
    have by_ := H1.lt (i := ys.length - 1) (by omega)
    have hbw := bitsW_last hl
    have hb := Lib.bitLen_le ys[ys.length - 1] 32 (by omega) (by omega)
    have HBW := Lib.hid hbw
    clear h0 hv1 H1 hbw
    generalize ys[ys.length - 1] = top at *
    go_wp2_with fail
    go_loop [4, 5] (fun n t => ∃ (k x : Nat), x < 4294967296 ∧ t = .int .u32 x ∧ n = .int .i64 (k : Nat) ∧ k + Lib.bitLen x = bitsW ys ∧ k ≤ 32 * ys.length) (fun _ t => (intOf t).toNat)
    case atStart => exact ⟨32 * (ys.length - 1), top, by_, rfl, by go_num, HBW.out.symm, by omega⟩
    case round =>
      obtain ⟨k, x, hx, rfl, rfl, hk, hkl⟩ := hrel
      have HK := Lib.hid hk
      clear hk
      by_cases hx0 : 0 < x
      · have hh := Lib.bitLen_half x (by omega) (by omega)
        have hk2 := HK.out
        have HH := Lib.hid hh
        have hle := Lib.bitLen_le top 32 (by omega) (by omega)
        have hbk : k + 1 ≤ 32 * ys.length := by have := HBW.out; omega
        clear hh hk2
        go_wp2_with fail
        go_round
        case rel => exact ⟨k + 1, x / 2, by omega, by go_num, by go_num, by have := HK.out; have := HH.out; omega, hbk⟩
        case measure => simp only [intOf]; omega
      · obtain rfl : x = 0 := by omega
        go_wp2_with fail
        go_ret
        refine ⟨ret_eq (int_eq ?_), hB⟩
        have := HK.out
        have z : Lib.bitLen 0 = 0 := by decide
        rw [← HD.out, ← this, z]
        rfl
end Go.Proofs.Ytlbgnndjacagkaa
