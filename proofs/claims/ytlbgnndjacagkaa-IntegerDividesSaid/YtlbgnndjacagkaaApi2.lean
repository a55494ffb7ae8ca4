/- Valid, Sign, Of of package integer; Equal, made, Of of the reference; short, same of the law. -/
import Derived.Test.YtlbgnndjacagkaaRows
import Derived.Test.YtlbgnndjacagkaaApi1
import Derived.Test.YtlbgnndjacagkaaRef2
namespace Go.Proofs.Ytlbgnndjacagkaa
open Go.RowKit
attribute [local go_sem ↓] Go.wp_at_zero Go.wp_at_succ

set_option maxHeartbeats 400000 in
theorem lshort_any (w : World) (X : Nat → Prop) (v : Value) (neg : Bool) (xs : List Nat) (h : IntR w X v neg xs) :
    Calls Try.prog 13 #[v] w fun e w' => e = .returned (.bool (decide (xs.length ≤ 10))) ∧ Below w.heap.size w w' := by
  obtain ⟨A, c, rfl, _, _, H⟩ := h.open_
  go_enter Try.func13, Try.ntmps13
  go_wp2_with fail
  go_ret
  exact ⟨ret_eq (bool_eq (by simp; omega)), below1 _ _⟩

/-- Is the struct canonical? -/
def validR (neg : Bool) (xs : List Nat) : Bool := if h : xs = [] then !neg else xs.getLast h != 0

set_option maxHeartbeats 400000 in
theorem valid_any (w : World) (X : Nat → Prop) (v : Value) (neg : Bool) (xs : List Nat) (h : IntR w X v neg xs) :
    Calls Try.prog 16 #[v] w fun e w' => e = .returned (.bool (validR neg xs)) ∧ Below w.heap.size w w' := by
  obtain ⟨A, c, rfl, h1, h2, H⟩ := h.open_
  have hm := H.lt_max
  by_cases h0 : xs = []
  · subst h0
    go_enter Try.func16, Try.ntmps16
    go_wp2_with fail
    go_ret
    exact ⟨ret_eq (bool_eq (by simp [validR])), below1 _ _⟩
  · have hl : 0 < xs.length := List.length_pos_iff.2 h0
    have hlb : ((xs.length : Int) == 0) = false := by simp; omega
    obtain ⟨a, rfl, _, _, hc⟩ := (H.below (below1 w (.cells #[.bool neg, .slice A xs.length c] 24))).at_ (k := xs.length - 1) (by omega)
    have hv : validR neg xs = (((xs[xs.length - 1] : Nat) : Int) != 0) := by
      unfold validR; rw [dif_neg h0, List.getLast_eq_getElem]
      simp [bne]
      rw [Bool.eq_iff_iff]; simp
    have HV := Lib.hid hv
    clear hv h0
    go_enter Try.func16, Try.ntmps16
    go_wp2_with fail
    go_ret
    exact ⟨ret_eq (bool_eq HV.out.symm), below1 _ _⟩

set_option maxHeartbeats 400000 in
theorem sign_any (w : World) (X : Nat → Prop) (v : Value) (neg : Bool) (xs : List Nat) (h : IntR w X v neg xs) :
    Calls Try.prog 23 #[v] w fun e w' => e = .returned (.int .i64 (sv neg xs).sign) ∧ Below w.heap.size w w' := by
  obtain ⟨A, c, rfl, h1, h2, H⟩ := h.open_
  have hlen := trimL_dig H.2
  have hpos := dig_len_pos (val xs)
  by_cases h0 : val xs = 0
  · have hn : trimL xs = [] := by rw [hlen, h0, dig_zero]
    have HN := Lib.hid hn
    have hs : (sv neg xs).sign = 0 := by unfold sv; rw [h0]; cases neg <;> simp
    have HS := Lib.hid hs
    clear hn hs hlen hpos h0
    go_enter Try.func23, Try.ntmps23
    go_wp2_with (go_at_call 48; refine (trim_any _ X _ xs (H.below (below1 _ _))).mono ?_; rintro e w' ⟨v1, rfl, hv1, rfl⟩; rw [HN.out] at hv1; obtain ⟨A1, c1, rfl, _, _, _⟩ := hv1.open_)
    go_ret
    exact ⟨ret_eq (int_eq HS.out.symm), below1 _ _⟩
  · have hl : 0 < (trimL xs).length := by rw [hlen]; omega
    have hlb : (((trimL xs).length : Int) == 0) = false := by rw [beq_eq_false_iff_ne]; omega
    have hs : (sv neg xs).sign = if neg then -1 else 1 := by
      unfold sv; cases neg
      · show ((val xs : Nat) : Int).sign = 1
        exact Int.sign_eq_one_of_pos (by omega)
      · show (-((val xs : Nat) : Int)).sign = -1
        exact Int.sign_eq_neg_one_of_neg (by omega)
    have HS := Lib.hid hs
    clear hs hlen hpos h0
    cases neg
    all_goals
      go_enter Try.func23, Try.ntmps23
      go_wp2_with (go_at_call 48; refine (trim_any _ X _ xs (H.below (below1 _ _))).mono ?_; rintro e w' ⟨v1, rfl, hv1, rfl⟩; obtain ⟨A1, c1, rfl, _, _, _⟩ := hv1.open_)
      go_ret
      exact ⟨ret_eq (int_eq HS.out.symm), below1 _ _⟩

set_option maxHeartbeats 400000 in
theorem made_any (w : World) (X : Nat → Prop) (neg : Bool) (v : Value) (xs : List Nat) (h : Words w X v xs) (hsz : xs.length ≤ 1099511627776) :
    Calls Try.prog 50 #[.bool neg, v] w fun e w' => ∃ v', e = .returned v' ∧ IntV w' (Old w) v' (sv neg xs) ∧ Below w.heap.size w w' := by
  go_enter Try.func50, Try.ntmps50
  go_wp2_with fail
  refine (rtrim_any _ X v xs (h.below (below1 _ _)) hsz).mono ?_
  rintro e w2 ⟨v1, rfl, h2, hb2⟩
  obtain ⟨A, c, rfl, hc, _, H2⟩ := h2.open_
  obtain ⟨L2, hB, hsz2⟩ := locs1 hb2
  have c2 := L2.cell
  have f2 := L2.frz
  cases neg
  all_goals
    go_wp2_with fail
    refine bodyPost_ret (by simp [results, Try.results50, go_sem, c2, f2] <;> rfl) rfl ⟨_, rfl, ?_, ?_⟩
    · refine ⟨_, by rw [sv_lt _ _ h.2]; simp; rfl, ?_⟩
      rw [sv_abs, ← trimL_dig h.2]
      exact (H2.keep (keep_set2 (by simp [Old]) _ _)).weak (by intro b _; simp [Old]; omega)
    · exact below_set2 hB (Nat.le_refl _) _ _

/-- Are two structs the same in sign and words? -/
def sameR (n1 : Bool) (xs : List Nat) (n2 : Bool) (ys : List Nat) : Bool := n1 == n2 && xs == ys

set_option maxHeartbeats 1000000 in
theorem equal_any (w : World) (X : Nat → Prop) (v1 v2 : Value) (n1 n2 : Bool) (xs ys : List Nat) (h1 : IntR w X v1 n1 xs) (h2 : IntR w X v2 n2 ys) :
    Calls Try.prog 49 #[v1, v2] w fun e w' => e = .returned (.bool (sameR n1 xs n2 ys)) ∧ Below w.heap.size w w' := by
  obtain ⟨A, c, rfl, _, _, H1⟩ := h1.open_
  obtain ⟨B, d, rfl, _, _, H2⟩ := h2.open_
  have hm1 := H1.lt_max
  have hm2 := H2.lt_max
  by_cases hn : n1 = n2
  · subst hn
    by_cases hl : xs.length = ys.length
    · have hlb : ((xs.length : Int) != (ys.length : Int)) = false := by simp [hl]
      have HL := Lib.hid hl
      have hl1 : xs.length ≤ ys.length := by omega
      have hl2 : ys.length ≤ xs.length := by omega
      clear hl
      go_enter Try.func49, Try.ntmps49
      go_wp2_with fail
      go_loopw [5] (fun i wr => ∃ (k n : Nat), k ≤ xs.length ∧ i = .int .i64 k ∧ xs.take k = ys.take k ∧ wr = ((w.alloc (.cells #[.bool n1, .slice A xs.length c] 24)).alloc (.cells #[.bool n1, .slice B ys.length d] 24)).drewN n) (fun i _ => xs.length - (intOf i).toNat)
      case atStart => exact ⟨0, 0, by omega, rfl, by simp, rfl⟩
      case round =>
        obtain ⟨k, n, hk, rfl, htk, rfl⟩ := hrel
        have Htk := Lib.hid htk
        clear htk
        by_cases hlt : k < xs.length
        · have hq : k < ys.length := by omega
          obtain ⟨a, rfl, ha, _, hca⟩ := H1.at_ hlt
          obtain ⟨b, rfl, hb, _, hcb⟩ := H2.at_ hq
          have ea : ((w.alloc (.cells #[.bool n1, .slice (some a) xs.length c] 24)).alloc (.cells #[.bool n1, .slice (some b) ys.length d] 24)).cell? (a.add k) = some (.int .u32 ((xs[k] : Nat) : Int)) := ((below2 w _ _).cell (by rw [addr_block]; exact ha)).trans hca
          have eb : ((w.alloc (.cells #[.bool n1, .slice (some a) xs.length c] 24)).alloc (.cells #[.bool n1, .slice (some b) ys.length d] 24)).cell? (b.add k) = some (.int .u32 ((ys[k] : Nat) : Int)) := ((below2 w _ _).cell (by rw [addr_block]; exact hb)).trans hcb
          have ip : (k : Int) < (xs.length : Int) := by omega
          have iq : (k : Int) < (ys.length : Int) := by omega
          by_cases he : xs[k] = ys[k]
          · have hbb : (((xs[k] : Nat) : Int) != ((ys[k] : Nat) : Int)) = false := by simp [he]
            have HE := Lib.hid he
            clear he
            go_wp2_with fail
            go_quiet (fail)
            go_wp2_with fail
            go_roundw
            case rel => exact ⟨k + 1, n + nq, by omega, by go_num, by rw [List.take_succ_eq_append_getElem hlt, List.take_succ_eq_append_getElem hq, HE.out, Htk.out], rfl⟩
            case measure => simp [intOf] <;> omega
          · have hbb : (((xs[k] : Nat) : Int) != ((ys[k] : Nat) : Int)) = true := by simp; omega
            have hs : sameR n1 xs n1 ys = false := by unfold sameR; simp; intro e; subst e; exact he rfl
            have HS := Lib.hid hs
            clear hs
            go_wp2_with fail
            go_quiet (fail)
            go_wp2_with fail
            go_ret
            exact ⟨ret_eq (bool_eq HS.out.symm), below_drewN (below_drewN (below2 _ _ _) _) _⟩
        · obtain rfl : k = xs.length := by omega
          go_wp2_with fail
          go_ret
          refine ⟨ret_eq (bool_eq ?_), below_drewN (below2 _ _ _) _⟩
          have h := Htk.out
          rw [List.take_length, List.take_of_length_le (by omega)] at h
          simp [sameR, h]
    · have hlb : ((xs.length : Int) != (ys.length : Int)) = true := by simp; omega
      have hs : sameR n1 xs n1 ys = false := by unfold sameR; simp; intro e; subst e; exact hl rfl
      have HS := Lib.hid hs
      clear hs
      cases n1
      all_goals
        go_enter Try.func49, Try.ntmps49
        go_wp2_with fail
        go_ret
        exact ⟨ret_eq (bool_eq HS.out.symm), below2 _ _ _⟩
  · have hs : sameR n1 xs n2 ys = false := by unfold sameR; simp [hn]
    have HS := Lib.hid hs
    clear hs
    cases n1 <;> cases n2
    all_goals first | exact absurd rfl hn | skip
    all_goals
      clear hn
      go_enter Try.func49, Try.ntmps49
      go_wp2_with fail
      go_ret
      exact ⟨ret_eq (bool_eq HS.out.symm), below2 _ _ _⟩
end Go.Proofs.Ytlbgnndjacagkaa
