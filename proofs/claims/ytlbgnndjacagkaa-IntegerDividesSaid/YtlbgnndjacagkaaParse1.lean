/- Parse: the sign cut off. -/
import Derived.Test.YtlbgnndjacagkaaRows
import Derived.Test.YtlbgnndjacagkaaBase
import Derived.Lib.Strings
import Derived.Lib.Slices
import Derived.Laws.Strings3
namespace Go.Proofs.Ytlbgnndjacagkaa
open Go.RowKit

/-- A string of bytes. -/
abbrev str (bs : List UInt8) : Value := .string ⟨bs.toArray⟩
def isNeg (bs : List UInt8) : Bool := Lib.hasPrefix bs [45]
def strip (bs : List UInt8) : List UInt8 := if isNeg bs then bs.drop 1 else bs

theorem isNeg_nil : isNeg [] = false := rfl
theorem isNeg_cons (b : UInt8) (bs : List UInt8) : isNeg (b :: bs) = (b == 45) := by
  rw [isNeg, ← Lib.hasPrefix_of_take]; simp
theorem strip_neg {bs : List UInt8} (h : isNeg bs = true) : strip bs = bs.drop 1 := by simp [strip, h]
theorem strip_pos {bs : List UInt8} (h : isNeg bs = false) : strip bs = bs := by simp [strip, h]
theorem strip_len (bs : List UInt8) : (strip bs).length ≤ bs.length := by unfold strip; split <;> simp
theorem isNeg_len {bs : List UInt8} (h : isNeg bs = true) : 1 ≤ bs.length := by
  cases bs with
  | nil => cases h
  | cons b bs => simp

set_option maxHeartbeats 1000000 in
theorem hasPrefix_any (w : World) (s p : ByteArray) :
    Calls Try.prog 76 #[.string s, .string p] w fun e w' => e = .returned (.bool (Lib.hasPrefix s.data.toList p.data.toList)) ∧ w = w' := by
  rw [← Lib.hasPrefix_of_take, ← Lib.size_eq, ← Lib.size_eq]
  go_enter Try.func76, Try.ntmps76
  go_wp2
  · rename_i h
    go_ret
    refine ⟨?_, rfl⟩
    show Ending.returned (Value.bool ((s.extract 0 p.size).toList == p.toList)) = _
    rw [Lib.extract_toList, Lib.toList_data]
    simp [h]
  · rename_i h
    go_ret
    refine ⟨?_, rfl⟩
    show Ending.returned (Value.bool false) = _
    simp [h]

set_option maxHeartbeats 1000000 in
theorem cutL_any (w : World) (bs : List UInt8) :
    Calls Try.prog 69 #[str bs, .string ⟨#[45]⟩] w fun e w' => e = .returned (.tuple #[str (strip bs), .bool (isNeg bs)]) ∧ w = w' := by
  cases hn : isNeg bs with
  | false =>
    have hn' : Lib.hasPrefix bs [45] = false := hn
    rw [strip_pos hn]
    go_enter Try.func69, Try.ntmps69
    go_wp2_with (go_at_call 76; refine (hasPrefix_any _ _ _).mono ?_; rintro e w' ⟨he, rfl⟩; rw [hn'] at he; subst he)
    go_ret2
    exact ⟨rfl, rfl⟩
  | true =>
    have hn' : Lib.hasPrefix bs [45] = true := hn
    have hl := isNeg_len hn
    rw [strip_neg hn]
    have e : (⟨(bs.drop 1).toArray⟩ : ByteArray) = (⟨bs.toArray⟩ : ByteArray).extract 1 bs.length := by
      rw [Lib.extract_eq]; simp; exact (List.take_of_length_le (by simp)).symm
    have E := Lib.hid e
    clear e
    go_enter Try.func69, Try.ntmps69
    go_wp2_with (go_at_call 76; refine (hasPrefix_any _ _ _).mono ?_; rintro e w' ⟨he, rfl⟩; rw [hn'] at he; subst he)
    go_ret2
    refine ⟨?_, rfl⟩
    show Ending.returned (Value.tuple #[.string ((⟨bs.toArray⟩ : ByteArray).extract 1 bs.length), .bool true]) = _
    rw [← E.out]

set_option maxHeartbeats 1000000 in
theorem cut_any (w : World) (bs : List UInt8) :
    Calls Try.prog 53 #[str bs, .string ⟨#[45]⟩] w fun e w' => e = .returned (.tuple #[str (strip bs), .bool (isNeg bs)]) ∧ w = w' := by
  go_enter Try.func53, Try.ntmps53
  go_wp2_with (go_at_call 69; refine (cutL_any _ _).mono ?_; rintro e w' ⟨rfl, rfl⟩)
  go_ret2
  exact ⟨rfl, rfl⟩
end Go.Proofs.Ytlbgnndjacagkaa
