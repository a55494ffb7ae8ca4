/- Decimal texts. Plain arithmetic. -/
import Derived.Test.YtlbgnndjacagkaaMag
namespace Go.Proofs.Ytlbgnndjacagkaa

/-- The number of little-endian decimal digits. -/
def dval : List Nat → Nat
  | [] => 0
  | d :: ds => d + 10 * dval ds
/-- The decimal digits of a number, the least first. -/
def decR (n : Nat) : List Nat := if n = 0 then [] else (n % 10) :: decR (n / 10)
termination_by n
decreasing_by omega

def Ds (ds : List Nat) : Prop := ∀ d ∈ ds, d < 10

@[simp] theorem dval_nil : dval [] = 0 := rfl
@[simp] theorem dval_cons (d : Nat) (ds : List Nat) : dval (d :: ds) = d + 10 * dval ds := rfl
theorem Ds.cons {x : Nat} {xs : List Nat} : Ds (x :: xs) ↔ x < 10 ∧ Ds xs := by simp [Ds]
theorem Ds.append {xs ys : List Nat} : Ds (xs ++ ys) ↔ Ds xs ∧ Ds ys := by
  simp only [Ds, List.mem_append]
  exact ⟨fun h => ⟨fun x hx => h x (.inl hx), fun x hx => h x (.inr hx)⟩, fun h x hx => hx.elim (h.1 x) (h.2 x)⟩
theorem Ds.take {xs : List Nat} (h : Ds xs) (n : Nat) : Ds (xs.take n) := fun x hx => h x (List.mem_of_mem_take hx)
theorem dval_append (xs ys : List Nat) : dval (xs ++ ys) = dval xs + 10 ^ xs.length * dval ys := by
  induction xs with
  | nil => simp
  | cons x xs ih =>
    simp only [List.cons_append, dval_cons, ih, List.length_cons, Nat.pow_succ]
    rw [Nat.mul_add, Nat.add_assoc, ← Nat.mul_assoc, Nat.mul_comm 10 (10 ^ xs.length)]
theorem dval_snoc (xs : List Nat) (y : Nat) : dval (xs ++ [y]) = dval xs + 10 ^ xs.length * y := by rw [dval_append]; simp
theorem decR_zero : decR 0 = [] := by rw [decR]; simp
theorem decR_pos {n : Nat} (h : n ≠ 0) : decR n = (n % 10) :: decR (n / 10) := by rw [decR, if_neg h]
theorem dval_decR (n : Nat) : dval (decR n) = n := by
  induction n using Nat.strongRecOn with
  | _ n ih =>
    by_cases h : n = 0
    · subst h; rw [decR_zero]; rfl
    · rw [decR_pos h, dval_cons, ih _ (by omega)]; omega
theorem ds_decR (n : Nat) : Ds (decR n) := by
  induction n using Nat.strongRecOn with
  | _ n ih =>
    by_cases h : n = 0
    · subst h; rw [decR_zero]; simp [Ds]
    · rw [decR_pos h]; exact Ds.cons.2 ⟨by omega, ih _ (by omega)⟩
theorem decR_last {n : Nat} (h : decR n ≠ []) : (decR n).getLast h ≠ 0 := by
  induction n using Nat.strongRecOn with
  | _ n ih =>
    have h0 : n ≠ 0 := by rintro rfl; exact h decR_zero
    have e := decR_pos h0
    by_cases h1 : n / 10 = 0
    · have : decR n = [n % 10] := by rw [e, h1, decR_zero]
      simp only [this, List.getLast_singleton]; omega
    · have hne : decR (n / 10) ≠ [] := by rw [decR_pos h1]; simp
      have := ih (n / 10) (by omega) hne
      simp only [e, List.getLast_cons hne]
      exact this
/-- Digits without a zero at the end are those of their number. -/
theorem decR_of {ds : List Nat} (h : Ds ds) (hl : ∀ h : ds ≠ [], ds.getLast h ≠ 0) : ds = decR (dval ds) := by
  induction ds with
  | nil => exact decR_zero.symm
  | cons d ds ih =>
    have hd := Ds.cons.1 h
    by_cases h0 : ds = []
    · subst h0
      have := hl (by simp)
      simp at this
      rw [dval_cons, dval_nil, decR_pos (by omega)]
      have : (d + 10 * 0) / 10 = 0 := by omega
      rw [this, decR_zero]
      congr 1; omega
    · have hl' : ∀ h : ds ≠ [], ds.getLast h ≠ 0 := fun hn => by have := hl (by simp); rwa [List.getLast_cons hn] at this
      have e := ih hd.2 hl'
      have hp : dval ds ≠ 0 := by intro hz; rw [hz, decR_zero] at e; exact h0 e
      rw [dval_cons, decR_pos (by omega)]
      have e1 : (d + 10 * dval ds) / 10 = dval ds := by omega
      rw [e1, ← e]
      congr 1; omega
theorem dval_zeros (ds : List Nat) (h : ∀ j, (h : j < ds.length) → ds[j] = 0) : dval ds = 0 := by
  induction ds with
  | nil => rfl
  | cons x xs ih =>
    have h0 := h 0 (by simp)
    have := ih (fun j hj => by have := h (j + 1) (by simpa using hj); simpa using this)
    simp at h0
    simp [h0, this]
theorem dval_take (ds : List Nat) (k : Nat) (h : ∀ j, k ≤ j → (h : j < ds.length) → ds[j] = 0) : dval (ds.take k) = dval ds := by
  have e : dval ds = dval (ds.take k ++ ds.drop k) := by rw [List.take_append_drop]
  rw [e, dval_append, dval_zeros (ds.drop k)]
  · simp
  · intro j hj
    rw [List.getElem_drop]
    exact h _ (by omega) (by simp at hj; omega)
/-- Stripped of zeros behind its first digit a positive number's digits are its own. -/
theorem decR_strip (ds : List Nat) (k : Nat) (h : Ds ds) (hk : k ≤ ds.length) (h1 : 1 ≤ k) (hz : ∀ j, k ≤ j → (h : j < ds.length) → ds[j] = 0) (hl : 1 < k → (h : k - 1 < ds.length) → ds[k - 1] ≠ 0) (hp : 0 < dval ds) :
    ds.take k = decR (dval ds) := by
  rw [← dval_take ds k hz]
  refine decR_of (h.take k) fun hne => ?_
  rw [List.getLast_eq_getElem, List.getElem_take]
  have hlen : (ds.take k).length = k := by rw [List.length_take]; omega
  simp only [hlen]
  by_cases h2 : 1 < k
  · exact hl h2 (by omega)
  · obtain rfl : k = 1 := by omega
    intro h0
    have : dval (ds.take 1) = 0 := dval_zeros _ (fun j hj => by
      rw [List.length_take] at hj
      rw [List.getElem_take]
      obtain rfl : j = 0 := by omega
      exact h0)
    rw [dval_take ds 1 hz] at this
    omega
theorem pow10_bound (m n : Nat) (h : 10 ^ m < 4294967296 ^ n) : m ≤ 11 * n := by
  have h1 : (2 ^ 3) ^ m ≤ 10 ^ m := Nat.pow_le_pow_left (by omega) m
  have h2 : (4294967296 : Nat) ^ n = (2 ^ 32) ^ n := by rw [show (2 : Nat) ^ 32 = 4294967296 from by omega]
  rw [← Nat.pow_mul] at h1 h2
  rw [h2] at h
  have : 2 ^ (3 * m) < 2 ^ (32 * n) := by omega
  have := (Nat.pow_lt_pow_iff_right (show 1 < 2 by omega)).1 this
  omega

/-- The characters of digits. -/
def chars (ds : List Nat) : List Nat := ds.map (48 + ·)
theorem chars_lt {ds : List Nat} (h : Ds ds) : ∀ x ∈ chars ds, x < 256 := by
  intro x hx
  obtain ⟨d, hd, rfl⟩ := List.mem_map.1 hx
  have := h d hd
  omega
@[simp] theorem chars_length (ds : List Nat) : (chars ds).length = ds.length := by simp [chars]
theorem chars_get (ds : List Nat) (i : Nat) (h : i < ds.length) : (chars ds)[i]'(by simpa using h) = 48 + ds[i] := by simp [chars]
theorem chars_take (ds : List Nat) (k : Nat) : (chars ds).take k = chars (ds.take k) := by simp [chars, List.map_take]
theorem chars_snoc (ds : List Nat) (d : Nat) : chars ds ++ [48 + d] = chars (ds ++ [d]) := by simp [chars]

/-- Bytes out of numbers. -/
def bytesOf (xs : List Nat) : List UInt8 := xs.map UInt8.ofNat
/-- The decimal text of an integer. -/
def textB (z : Int) : List UInt8 := if z = 0 then [48] else bytesOf ((if z < 0 then [45] else []) ++ (chars (decR z.natAbs)).reverse)

@[simp] theorem bytesOf_length (xs : List Nat) : (bytesOf xs).length = xs.length := by simp [bytesOf]
theorem bytesOf_get (xs : List Nat) (i : Nat) (h : i < xs.length) (hx : ∀ x ∈ xs, x < 256) : ((bytesOf xs)[i]'(by simpa using h)).toNat = xs[i] := by
  have := hx _ (List.getElem_mem h)
  simp [bytesOf]
  omega
theorem textB_pos (n : Nat) (h : 0 < n) : textB (n : Int) = bytesOf (chars (decR n)).reverse := by
  unfold textB
  rw [if_neg (by omega), if_neg (by omega)]
  simp
theorem textB_neg (n : Nat) (h : 0 < n) : textB (-(n : Int)) = bytesOf (chars (decR n) ++ [45]).reverse := by
  unfold textB
  rw [if_neg (by omega), if_pos (by omega)]
  simp

/-- One round of digits. -/
theorem digit_step (ds0 : List Nat) (ds : List Nat) (r : Nat) (S : Nat) (h : dval ds + 10 ^ ds.length * r = S) : dval (ds ++ [r % 10]) + 10 ^ (ds ++ [r % 10]).length * (r / 10) = S := by
  rw [dval_snoc, List.length_append, List.length_singleton, Nat.pow_succ, ← h, Nat.mul_assoc, Nat.add_assoc, ← Nat.mul_add]
  congr 2; omega
theorem chunk_step (ds es : List Nat) (r q N : Nat) (he : dval es = dval ds + 10 ^ ds.length * r) (hl : es.length = ds.length + 9) (hN : N = q * 1000000000 + r) :
    dval es + 10 ^ es.length * q = dval ds + 10 ^ ds.length * N := by
  rw [he, hl, hN, Nat.pow_add, Nat.add_assoc, Nat.mul_assoc, ← Nat.mul_add]
  congr 2; omega
end Go.Proofs.Ytlbgnndjacagkaa
