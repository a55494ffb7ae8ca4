/- The text of an integer is parsed as the integer: the plain law. -/
import Derived.Test.YtlbgnndjacagkaaRows
import Derived.Test.YtlbgnndjacagkaaParse2
namespace Go.Proofs.Ytlbgnndjacagkaa
open Go.RowKit

theorem fwd_digits (es : List Nat) (h : Ds es) : (bytesOf (chars es)).map (fun c => c.toNat - 48) = es := by
  induction es with
  | nil => rfl
  | cons d es ih =>
    obtain ⟨hd, hes⟩ := Ds.cons.1 h
    have := ih hes
    simp only [chars, bytesOf, List.map_cons] at this ⊢
    rw [this]
    congr 1
    have : (UInt8.ofNat (48 + d)).toNat = 48 + d := by simp; omega
    rw [this]; omega
theorem bytesOf_reverse (xs : List Nat) : bytesOf xs.reverse = (bytesOf xs).reverse := by simp [bytesOf, List.map_reverse]
/-- The decimal characters of a number. -/
def decB (n : Nat) : List UInt8 := bytesOf (chars (decR n)).reverse
theorem decB_good (n : Nat) : ∀ c ∈ decB n, good c := by
  intro c hc
  simp only [decB, bytesOf, chars, List.mem_map, List.mem_reverse] at hc
  obtain ⟨x, ⟨d, hd, rfl⟩, rfl⟩ := hc
  have := ds_decR n d hd
  unfold good
  have e : (UInt8.ofNat (48 + d)).toNat = 48 + d := by simp; omega
  rw [e]; omega
theorem decB_pval (n : Nat) : pval (decB n) = n := by
  rw [dval_digits]
  unfold decB
  rw [bytesOf_reverse, List.map_reverse, List.reverse_reverse, fwd_digits _ (ds_decR n), dval_decR]
theorem decB_len (n : Nat) : (decB n).length = (decR n).length := by simp [decB, chars]
theorem decB_head (n : Nat) (h : 0 < n) : ∃ c bs, decB n = c :: bs ∧ c ≠ 48 := by
  have hne : decR n ≠ [] := by intro e; have := dval_decR n; rw [e] at this; simp at this; omega
  have hl := decR_last hne
  obtain ⟨es, d, he⟩ : ∃ es d, decR n = es ++ [d] := ⟨(decR n).dropLast, (decR n).getLast hne, (List.dropLast_concat_getLast hne).symm⟩
  have hd10 : d < 10 := ds_decR n d (by rw [he]; simp)
  have hd0 : d ≠ 0 := by
    have e2 : (decR n).getLast hne = d := by simp [he]
    rw [e2] at hl
    exact hl
  refine ⟨UInt8.ofNat (48 + d), bytesOf (chars es).reverse, ?_, ?_⟩
  · unfold decB
    rw [he]
    simp [chars, bytesOf]
  · intro e
    have := congrArg UInt8.toNat e
    have e2 : (UInt8.ofNat (48 + d)).toNat = 48 + d := by simp; omega
    rw [e2] at this
    simp at this
    omega

theorem not_synt {ds bs : List UInt8} {c : UInt8} {b : Bool} (h : ds = c :: bs) (hc : c ≠ 48) : ¬ synt b ds := by
  rw [h]
  rintro (e | ⟨e, _⟩)
  · cases e
  · simp at e; exact hc e

theorem parsed_text (z : Int) (h : (decR z.natAbs).length ≤ 600) : parseC (textB z) = 0 ∧ parseZ (textB z) = z := by
  rcases (by omega : z = 0 ∨ 0 < z ∨ z < 0) with rfl | hz | hz
  · decide
  · obtain ⟨n, rfl⟩ : ∃ n : Nat, z = (n : Int) := ⟨z.natAbs, by omega⟩
    have hn : 0 < n := by omega
    have ht : textB (n : Int) = decB n := textB_pos n hn
    rw [ht]
    obtain ⟨c, bs, hcb, hc⟩ := decB_head n hn
    have hg := decB_good n
    have hneg : isNeg (decB n) = false := by
      rw [hcb, isNeg_cons]
      have := (hg c (by rw [hcb]; simp)).1
      simp
      rintro rfl
      simp at this
    have hs := strip_pos hneg
    have hl : (decB n).length ≤ 600 := by rw [decB_len]; exact h
    have := parse_ok (bs := decB n) (by omega) (by rw [hs, hneg]; exact not_synt hcb hc) (by rw [hs]; intro j hj; exact hg _ (List.getElem_mem hj)) (by rw [hs]; omega)
    refine ⟨this.1, ?_⟩
    rw [this.2, hneg, hs, decB_pval]
    rfl
  · obtain ⟨n, rfl⟩ : ∃ n : Nat, z = -(n : Int) := ⟨z.natAbs, by omega⟩
    have hn : 0 < n := by omega
    have ht : textB (-(n : Int)) = 45 :: decB n := by
      rw [textB_neg n hn, List.reverse_append]
      rfl
    rw [ht]
    obtain ⟨c, bs, hcb, hc⟩ := decB_head n hn
    have hg := decB_good n
    have hneg : isNeg (45 :: decB n) = true := by rw [isNeg_cons]; rfl
    have hs : strip (45 :: decB n) = decB n := by rw [strip_neg hneg]; rfl
    have hl : (decB n).length ≤ 600 := by rw [decB_len]; have := h; rwa [Int.natAbs_neg, Int.natAbs_natCast] at this
    have := parse_ok (bs := 45 :: decB n) (by simp only [List.length_cons]; omega) (by rw [hs, hneg]; exact not_synt hcb hc) (by rw [hs]; intro j hj; exact hg _ (List.getElem_mem hj)) (by rw [hs]; omega)
    refine ⟨this.1, ?_⟩
    rw [this.2, hneg, hs, decB_pval]
    rfl
end Go.Proofs.Ytlbgnndjacagkaa
