/- Text of the reference. -/
import Derived.Test.YtlbgnndjacagkaaRows
import Derived.Test.YtlbgnndjacagkaaRef4
import Derived.Test.YtlbgnndjacagkaaDec
import Derived.Test.YtlbgnndjacagkaaInt1
namespace Go.Proofs.Ytlbgnndjacagkaa
open Go.RowKit
attribute [local go_sem ↓] Go.wp_at_zero Go.wp_at_succ

theorem wordAt_dig {n : Nat} (h : n < 4294967296) : wordAt (dig n) 0 = n := by
  by_cases h0 : n = 0
  · subst h0; rw [dig_zero]; rfl
  · rw [dig_pos h0]
    show n % 4294967296 = n
    omega
theorem can_ten : Can [10] := ⟨by simp [Ws], fun _ => by simp⟩
theorem chars_push (ds : List Nat) (d : Nat) : bytesOf (chars (ds ++ [d])).reverse = UInt8.ofNat (48 + d) :: bytesOf (chars ds).reverse := by
  simp [chars, bytesOf]

theorem decR_len {k n : Nat} (h : n < 10 ^ k) : (decR n).length ≤ k := by
  induction k generalizing n with
  | zero => rw [(by omega : n = 0), decR_zero]; simp
  | succ k ih =>
    by_cases h0 : n = 0
    · subst h0; rw [decR_zero]; simp
    · rw [decR_pos h0, List.length_cons]
      have := ih (n := n / 10) (by rw [Nat.pow_succ] at h; omega)
      omega
theorem decR_val_len {xs : List Nat} (h : Ws xs) : (decR (val xs)).length ≤ 10 * xs.length := by
  refine decR_len (Nat.lt_of_lt_of_le (val_lt h) ?_)
  rw [Nat.pow_mul]
  exact Nat.pow_le_pow_left (by omega) _

theorem digit_front (d : Nat) (bs : List UInt8) (h : d < 10) : (({ data := #[48, 49, 50, 51, 52, 53, 54, 55, 56, 57] } : ByteArray).extract d (d + 1) ++ { data := bs.toArray } : ByteArray) = ⟨(UInt8.ofNat (48 + d) :: bs).toArray⟩ := by
  have e : (({ data := #[48, 49, 50, 51, 52, 53, 54, 55, 56, 57] } : ByteArray).extract d (d + 1)) = ⟨#[UInt8.ofNat (48 + d)]⟩ := by
    rcases (by omega : d = 0 ∨ d = 1 ∨ d = 2 ∨ d = 3 ∨ d = 4 ∨ d = 5 ∨ d = 6 ∨ d = 7 ∨ d = 8 ∨ d = 9) with rfl | rfl | rfl | rfl | rfl | rfl | rfl | rfl | rfl | rfl <;> rfl
  rw [e]
  apply ByteArray.ext
  simp [ByteArray.data_append]

theorem byte_front (b : UInt8) (bs : List UInt8) : ({ data := #[b] } ++ { data := bs.toArray } : ByteArray) = ⟨(b :: bs).toArray⟩ := by
  apply ByteArray.ext
  simp [ByteArray.data_append]

/-- The length of a string value. -/
def strLen : Value → Nat
  | .string b => b.size
  | _ => 0

set_option maxHeartbeats 2000000 in
theorem rtext_any (w : World) (X : Nat → Prop) (v : Value) (neg : Bool) (xs : List Nat) (h : IntR w X v neg xs) (hsz : xs.length ≤ 1000000000) :
    Calls Try.prog 34 #[v] w fun e w' => e = .returned (.string ⟨(textB (sv neg xs)).toArray⟩) ∧ Below w.heap.size w w' := by
  obtain ⟨A, c, rfl, _, _, H⟩ := h.open_
  generalize hT : textB (sv neg xs) = T
  have HT := Lib.hid hT
  clear hT
  go_enter Try.func34, Try.ntmps34
  go_wp2_with fail
  refine (rtrim_any _ X _ xs (H.below (below1 _ _)) (by omega)).mono ?_
  rintro e w1 ⟨v1, rfl, h1, hb1⟩
  rw [trimL_dig H.2] at h1
  obtain ⟨L, hB1, _⟩ := locs1 hb1
  have cL := L.cell
  have hl1 := dig_val_len H.2
  have hz := dig_len_pos (val xs)
  by_cases hv0 : val xs = 0
  · rw [hv0, dig_zero] at h1
    obtain ⟨A1, c1, rfl, hc1, _, H1⟩ := h1.open_
    rw [List.length_nil] at *
    have ht : textB (sv neg xs) = [48] := by unfold textB; rw [if_pos (by have := sv_abs neg xs; omega)]
    rw [HT.out] at ht
    subst ht
    clear hz hv0 hl1
    go_wp2_with fail
    go_ret
    exact ⟨rfl, hB1⟩
  · obtain ⟨A1, c1, rfl, hc1, _, H1⟩ := h1.open_
    have hl0 : 0 < (dig (val xs)).length := by omega
    clear hz
    have H1' := H1.weak (Y := Old w) (fun b _ hb => by simp only [Old] at hb ⊢; simp only [World.size_alloc]; omega)
    clear H1 h1
    have hdl := decR_val_len H.2
    have hz0 : ((((dig (val xs)).length : Nat) : Int) == 0) = false := by rw [beq_eq_false_iff_ne]; omega
    go_wp2_with fail
    go_loopw [3, 4] (fun vv s wr => ∃ (n : Nat) (ds : List Nat), Words wr (Old w) vv (dig n) ∧ s = .string ⟨(bytesOf (chars ds).reverse).toArray⟩ ∧ decR (val xs) = ds ++ decR n ∧ (dig n).length ≤ xs.length ∧ Loc wr w.heap.size 24 #[.bool neg, .slice A xs.length c] ∧ Below w.heap.size w wr) (fun _ s _ => (decR (val xs)).length - strLen s)
    case atStart => exact ⟨val xs, [], H1', rfl, rfl, hl1, L, hB1⟩
    case round =>
      obtain ⟨n, ds, hn, rfl, hdec, hnl, hL, hbr⟩ := hrel
      have hdsl : ds.length ≤ 10 * xs.length := by
        have e := congrArg List.length hdec
        rw [List.length_append] at e
        omega
      have HDEC := Lib.hid hdec
      clear hdec
      have hzn := dig_len_pos n
      by_cases hn0 : n = 0
      · clear hzn
        rw [hn0, decR_zero, List.append_nil] at HDEC
        rw [hn0, dig_zero] at hn
        obtain ⟨A2, c2, rfl, _, _, H2⟩ := hn.open_
        rw [List.length_nil] at *
        clear hn0 hnl
        have cL2 := hL.cell
        cases neg
        · have ht : textB (sv false xs) = bytesOf (chars ds).reverse := by
            rw [show sv false xs = ((val xs : Nat) : Int) from rfl, textB_pos _ (by omega), HDEC.out]
          rw [HT.out] at ht
          have HTT := Lib.hid ht
          clear ht
          go_wp2_with fail
          go_ret
          exact ⟨by rw [HTT.out]; rfl, hbr⟩
        · have ht : textB (sv true xs) = 45 :: bytesOf (chars ds).reverse := by
            rw [show sv true xs = -((val xs : Nat) : Int) from rfl, textB_neg _ (by omega), HDEC.out, List.reverse_append]
            rfl
          rw [HT.out] at ht
          have HTT := Lib.hid ht
          clear ht
          have hbl : ¬ (9223372036854775807 < 1 + ds.length) := by omega
          go_wp2_with fail
          go_ret
          exact ⟨by rw [HTT.out, ← byte_front]; rfl, hbr⟩
      · obtain ⟨A2, c2, rfl, _, _, H2⟩ := hn.open_
        have hl2 : 0 < (dig n).length := by omega
        clear hzn
        go_wp2_with fail
        refine (divWords_any _ (fun _ => False) _ _ (dig n) [10] ((H2.below (below1 _ _)).weak (fun _ _ h => h.elim)) (Words.lit [10] (Loc.new _ _ _) (by simp) (fun h => h) (by unfold maxLen; simp)) can_ten (by simp) (by simp only [List.length_singleton]; omega)).mono ?_
        rintro e w2 ⟨q, r, rfl, hq, hr, hb2⟩
        rw [val_dig, (show val [10] = 10 from rfl)] at hq hr
        go_wp2_with fail
        refine (word_any _ _ _ _ 0 hr).mono ?_
        rintro e w3 ⟨rfl, rfl⟩
        rw [wordAt_dig (by omega)]
        have hd10 : n % 10 < 10 := by omega
        go_wp2_with fail
        go_roundw
        case rel =>
          refine ⟨n / 10, ds ++ [n % 10], hq.weak (fun b _ hb => by simp only [Old] at hb ⊢; have := hbr.size; simp only [World.size_alloc]; omega), ?_, ?_, ?_, hL.below ((below1 _ _).trans (hb2.mono (by simp))), hbr.trans (((below1 _ _).trans (hb2.mono (by simp))).mono hbr.size)⟩
          · rw [chars_push, digit_front _ _ hd10]
          · rw [HDEC.out, decR_pos hn0]; simp
          · exact Nat.le_trans (dig_len_mono (Nat.div_le_self _ _)) hnl
        case measure =>
          have e := congrArg List.length HDEC.out
          rw [decR_pos hn0, List.length_append, List.length_cons] at e
          have h1 : ∀ b : ByteArray, strLen (.string b) = b.size := fun _ => rfl
          rw [digit_front _ _ hd10]
          simp only [strLen]
          simp [ByteArray.size, chars]
          omega
end Go.Proofs.Ytlbgnndjacagkaa
