/- Parse: what it answers; the plain law. -/
import Derived.Test.YtlbgnndjacagkaaRows
import Derived.Test.YtlbgnndjacagkaaParse1
import Derived.Test.YtlbgnndjacagkaaDec
namespace Go.Proofs.Ytlbgnndjacagkaa
open Go.RowKit

/-- The number of decimal characters. -/
def pval (bs : List UInt8) : Nat := bs.foldl (fun a c => 10 * a + (c.toNat - 48)) 0
def good (c : UInt8) : Prop := 48 ≤ c.toNat ∧ c.toNat ≤ 57
instance (c : UInt8) : Decidable (good c) := inferInstanceAs (Decidable (_ ∧ _))
/-- No number's canonical digits. -/
def synt (neg : Bool) (ds : List UInt8) : Prop := ds = [] ∨ (ds.head? = some 48 ∧ (1 < ds.length ∨ neg = true))
instance (neg : Bool) (ds : List UInt8) : Decidable (synt neg ds) := inferInstanceAs (Decidable (_ ∨ _))
/-- The code that Parse returns. -/
def parseC (bs : List UInt8) : Nat :=
  if 601 < bs.length then 5 else if synt (isNeg bs) (strip bs) then 6 else if ¬ ∀ c ∈ strip bs, good c then 6 else if 600 < (strip bs).length then 5 else 0
/-- The integer that Parse returns. -/
def parseZ (bs : List UInt8) : Int := if parseC bs = 0 then (if isNeg bs then -((pval (strip bs) : Nat) : Int) else ((pval (strip bs) : Nat) : Int)) else 0

theorem pval_nil : pval [] = 0 := rfl
theorem pval_snoc (bs : List UInt8) (c : UInt8) : pval (bs ++ [c]) = 10 * pval bs + (c.toNat - 48) := by simp [pval, List.foldl_append]
theorem pval_take (bs : List UInt8) (i : Nat) (h : i < bs.length) : pval (bs.take (i + 1)) = 10 * pval (bs.take i) + (bs[i].toNat - 48) := by
  rw [List.take_succ_eq_append_getElem h, pval_snoc]
theorem pval_lt (bs : List UInt8) (h : ∀ c ∈ bs, good c) : pval bs < 10 ^ bs.length := by
  suffices H : ∀ n, n ≤ bs.length → pval (bs.take n) < 10 ^ n by
    have := H bs.length (Nat.le_refl _); rwa [List.take_length] at this
  intro n
  induction n with
  | zero => intro _; simp [pval_nil]
  | succ n ih =>
    intro hn
    have h1 := ih (by omega)
    have h2 := h bs[n] (List.getElem_mem _)
    rw [pval_take bs n (by omega), Nat.pow_succ]
    have h3 := h2.2
    omega

theorem parse_long {bs : List UInt8} (h : 601 < bs.length) : parseC bs = 5 ∧ parseZ bs = 0 := by
  have e : parseC bs = 5 := by unfold parseC; rw [if_pos h]
  exact ⟨e, by unfold parseZ; rw [e]; rfl⟩
theorem parse_synt {bs : List UInt8} (h : ¬ 601 < bs.length) (hs : synt (isNeg bs) (strip bs)) : parseC bs = 6 ∧ parseZ bs = 0 := by
  have e : parseC bs = 6 := by unfold parseC; rw [if_neg h, if_pos hs]
  exact ⟨e, by unfold parseZ; rw [e]; rfl⟩
theorem parse_bad {bs : List UInt8} (h : ¬ 601 < bs.length) (i : Nat) (hi : i < (strip bs).length) (hg : ¬ good (strip bs)[i]) : parseC bs = 6 ∧ parseZ bs = 0 := by
  have e : parseC bs = 6 := by
    unfold parseC; rw [if_neg h]
    split
    · rfl
    · rw [if_pos (fun hall => hg (hall _ (List.getElem_mem hi)))]
  exact ⟨e, by unfold parseZ; rw [e]; rfl⟩
theorem parse_long2 {bs : List UInt8} (h : ¬ 601 < bs.length) (hs : ¬ synt (isNeg bs) (strip bs)) (hg : ∀ j, (hj : j < (strip bs).length) → good (strip bs)[j]) (hl : 600 < (strip bs).length) : parseC bs = 5 ∧ parseZ bs = 0 := by
  have hall : ∀ c ∈ strip bs, good c := fun c hc => by obtain ⟨j, hj, rfl⟩ := List.getElem_of_mem hc; exact hg j hj
  have e : parseC bs = 5 := by unfold parseC; rw [if_neg h, if_neg hs, if_neg (fun hn => hn hall), if_pos hl]
  exact ⟨e, by unfold parseZ; rw [e]; rfl⟩
theorem parse_ok {bs : List UInt8} (h : ¬ 601 < bs.length) (hs : ¬ synt (isNeg bs) (strip bs)) (hg : ∀ j, (hj : j < (strip bs).length) → good (strip bs)[j]) (hl : ¬ 600 < (strip bs).length) :
    parseC bs = 0 ∧ parseZ bs = (if isNeg bs then -((pval (strip bs) : Nat) : Int) else ((pval (strip bs) : Nat) : Int)) := by
  have hall : ∀ c ∈ strip bs, good c := fun c hc => by obtain ⟨j, hj, rfl⟩ := List.getElem_of_mem hc; exact hg j hj
  have e : parseC bs = 0 := by unfold parseC; rw [if_neg h, if_neg hs, if_neg (fun hn => hn hall), if_neg hl]
  exact ⟨e, by unfold parseZ; rw [if_pos e]⟩

/-! The text of what was parsed. -/
theorem dval_digits (bs : List UInt8) : pval bs = dval ((bs.map fun c => c.toNat - 48).reverse) := by
  suffices H : ∀ n, n ≤ bs.length → pval (bs.take n) = dval (((bs.take n).map fun c => c.toNat - 48).reverse) by
    have := H bs.length (Nat.le_refl _); rwa [List.take_length] at this
  intro n
  induction n with
  | zero => intro _; simp [pval_nil]
  | succ n ih =>
    intro hn
    rw [pval_take bs n (by omega), List.take_succ_eq_append_getElem (by omega), List.map_append, List.reverse_append, ih (by omega)]
    simp
    omega
theorem back_digits (bs : List UInt8) (h : ∀ c ∈ bs, good c) : bytesOf (chars (bs.map fun c => c.toNat - 48)) = bs := by
  induction bs with
  | nil => rfl
  | cons b bs ih =>
    have hb := h b (by simp)
    have := ih (fun c hc => h c (by simp [hc]))
    simp only [List.map_cons, chars, bytesOf] at this ⊢
    rw [this]
    congr 1
    have hb1 := hb.1
    have e : 48 + (b.toNat - 48) = b.toNat := by omega
    rw [e]
    simp
theorem text_parsed {bs : List UInt8} (h : parseC bs = 0) : textB (parseZ bs) = bs := by
  have hz : parseZ bs = (if isNeg bs then -((pval (strip bs) : Nat) : Int) else ((pval (strip bs) : Nat) : Int)) := by unfold parseZ; rw [if_pos h]
  unfold parseC at h
  split at h; · cases h
  rename_i h1
  split at h; · cases h
  rename_i h2
  split at h; · cases h
  rename_i h3
  have hall : ∀ c ∈ strip bs, good c := Classical.not_not.1 h3
  generalize hds : strip bs = ds at *
  have hback := back_digits ds hall
  have hdv := dval_digits ds
  have hne : ds ≠ [] := fun e => h2 (Or.inl e)
  have hD : Ds ((ds.map fun c => c.toNat - 48).reverse) := by
    intro d hd
    rw [List.mem_reverse] at hd
    obtain ⟨c, hc, rfl⟩ := List.mem_map.1 hd
    have := (hall c hc).2
    omega
  by_cases h48 : ds.head? = some 48
  · have hh : ¬ (1 < ds.length ∨ isNeg bs = true) := fun hh => h2 (Or.inr ⟨h48, hh⟩)
    have hn : isNeg bs = false := by cases hb : isNeg bs with
      | false => rfl
      | true => exact absurd (Or.inr hb) hh
    have hl : ds = [48] := by
      cases ds with
      | nil => exact absurd rfl hne
      | cons a tl =>
        cases tl with
        | nil => simp at h48; rw [h48]
        | cons _ _ => exact absurd (Or.inl (by simp)) hh
    rw [strip_pos hn] at hds
    rw [hz, hn, hl, hds, hl]
    decide
  · have hlast : ∀ h : (ds.map fun c => c.toNat - 48).reverse ≠ [], ((ds.map fun c => c.toNat - 48).reverse).getLast h ≠ 0 := by
      intro h
      cases ds with
      | nil => exact absurd rfl hne
      | cons a tl =>
        simp only [List.map_cons, List.reverse_cons, List.getLast_append, List.getLast_singleton, List.isEmpty_cons, List.isEmpty_nil]
        have ha := (hall a (by simp)).1
        intro h0
        apply h48
        have : a.toNat = 48 := by simp at h0; omega
        simp
        exact UInt8.toNat_inj.1 this
    have hdec := decR_of hD hlast
    rw [← hdv] at hdec
    have hpos : 0 < pval ds := by
      rcases Nat.eq_zero_or_pos (pval ds) with e | e
      · rw [e, decR_zero] at hdec
        simp at hdec
        exact absurd hdec hne
      · exact e
    have hch : bytesOf (chars (decR (pval ds))).reverse = ds := by
      rw [← hdec]
      have : (chars (ds.map fun c => c.toNat - 48).reverse).reverse = chars (ds.map fun c => c.toNat - 48) := by simp [chars, List.map_reverse]
      rw [this, hback]
    cases hn : isNeg bs with
    | false =>
      rw [hz, hn]
      rw [strip_pos hn] at hds
      show textB ((pval ds : Nat) : Int) = bs
      rw [textB_pos _ hpos, hch, hds]
    | true =>
      rw [hz, hn]
      have hb : bs = 45 :: ds := by
        rw [strip_neg hn] at hds
        cases bs with
        | nil => cases hn
        | cons b bs =>
          rw [isNeg_cons] at hn
          simp at hn hds
          rw [hn, hds]
      show textB (-((pval ds : Nat) : Int)) = bs
      rw [textB_neg _ hpos, hb, List.reverse_append]
      have : bytesOf ([45].reverse ++ (chars (decR (pval ds))).reverse) = 45 :: bytesOf ((chars (decR (pval ds))).reverse) := by simp [bytesOf]
      rw [this, hch]
end Go.Proofs.Ytlbgnndjacagkaa
