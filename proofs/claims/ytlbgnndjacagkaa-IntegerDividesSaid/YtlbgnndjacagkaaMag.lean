/- Magnitudes: little-endian lists of words of 32 bits, and the numbers that they stand for. Plain arithmetic. -/
namespace Go.Proofs.Ytlbgnndjacagkaa

/-- The number of a list of words. -/
def val : List Nat → Nat
  | [] => 0
  | x :: xs => x + 4294967296 * val xs

/-- All words fit 32 bits. -/
def Ws (xs : List Nat) : Prop := ∀ x ∈ xs, x < 4294967296

/-- No zero word at the end. -/
def Can (xs : List Nat) : Prop := Ws xs ∧ ∀ h : xs ≠ [], xs.getLast h ≠ 0

/-- words without the zeros at the end -/
def trimL (xs : List Nat) : List Nat := (xs.reverse.dropWhile (· == 0)).reverse

/-- The canonical words of a number. -/
def dig (n : Nat) : List Nat := if n = 0 then [] else (n % 4294967296) :: dig (n / 4294967296)
termination_by n
decreasing_by omega

theorem Ws.nil : Ws [] := by simp [Ws]
theorem Ws.cons {x : Nat} {xs : List Nat} : Ws (x :: xs) ↔ x < 4294967296 ∧ Ws xs := by simp [Ws]
theorem Ws.append {xs ys : List Nat} : Ws (xs ++ ys) ↔ Ws xs ∧ Ws ys := by
  simp only [Ws, List.mem_append]
  exact ⟨fun h => ⟨fun x hx => h x (.inl hx), fun x hx => h x (.inr hx)⟩, fun h x hx => hx.elim (h.1 x) (h.2 x)⟩
theorem Ws.take {xs : List Nat} (h : Ws xs) (n : Nat) : Ws (xs.take n) := fun x hx => h x (List.mem_of_mem_take hx)
theorem Ws.drop {xs : List Nat} (h : Ws xs) (n : Nat) : Ws (xs.drop n) := fun x hx => h x (List.mem_of_mem_drop hx)
theorem Ws.set {xs : List Nat} (h : Ws xs) (i y : Nat) (hy : y < 4294967296) : Ws (xs.set i y) := fun x hx => by
  rcases List.mem_or_eq_of_mem_set hx with h1 | h1
  · exact h x h1
  · omega
theorem Ws.replicate (n : Nat) : Ws (List.replicate n 0) := fun x hx => by have := (List.mem_replicate.1 hx).2; omega
theorem Ws.get {xs : List Nat} (h : Ws xs) {i : Nat} (hi : i < xs.length) : xs[i] < 4294967296 := h _ (List.getElem_mem hi)

@[simp] theorem val_nil : val [] = 0 := rfl
@[simp] theorem val_cons (x : Nat) (xs : List Nat) : val (x :: xs) = x + 4294967296 * val xs := rfl
theorem val_replicate (n : Nat) : val (List.replicate n 0) = 0 := by
  induction n with
  | zero => rfl
  | succ n ih => simp [List.replicate_succ, ih]

theorem val_append (xs ys : List Nat) : val (xs ++ ys) = val xs + 4294967296 ^ xs.length * val ys := by
  induction xs with
  | nil => simp
  | cons x xs ih =>
    simp only [List.cons_append, val_cons, ih, List.length_cons, Nat.pow_succ]
    rw [Nat.mul_add, Nat.add_assoc, ← Nat.mul_assoc, Nat.mul_comm 4294967296 (4294967296 ^ xs.length)]

theorem pow_pos32 (n : Nat) : 0 < 4294967296 ^ n := Nat.pow_pos (by omega)

theorem val_lt {xs : List Nat} (h : Ws xs) : val xs < 4294967296 ^ xs.length := by
  induction xs with
  | nil => simp
  | cons x xs ih =>
    have h' := Ws.cons.1 h
    have := ih h'.2
    simp only [val_cons, List.length_cons, Nat.pow_succ]
    have : 4294967296 * (val xs + 1) ≤ 4294967296 * 4294967296 ^ xs.length := Nat.mul_le_mul_left _ (by omega)
    rw [Nat.mul_comm (4294967296 ^ xs.length)]
    omega

theorem val_take_drop (xs : List Nat) (k : Nat) : val xs = val (xs.take k) + 4294967296 ^ (xs.take k).length * val (xs.drop k) := by
  rw [← val_append, List.take_append_drop]

theorem val_take_succ (xs : List Nat) (k : Nat) (h : k < xs.length) : val (xs.take (k + 1)) = val (xs.take k) + 4294967296 ^ k * xs[k] := by
  rw [List.take_succ_eq_append_getElem h, val_append]
  simp
  rw [Nat.min_eq_left (by omega)]

theorem val_drop_succ (xs : List Nat) (k : Nat) (h : k < xs.length) : val (xs.drop k) = xs[k] + 4294967296 * val (xs.drop (k + 1)) := by
  rw [List.drop_eq_getElem_cons h, val_cons]

theorem val_snoc (xs : List Nat) (y : Nat) : val (xs ++ [y]) = val xs + 4294967296 ^ xs.length * y := by
  rw [val_append]; simp

/-- A value changed at one place. -/
theorem val_set (xs : List Nat) (i y : Nat) (h : i < xs.length) : val (xs.set i y) + 4294967296 ^ i * xs[i] = val xs + 4294967296 ^ i * y := by
  induction xs generalizing i with
  | nil => simp at h
  | cons x xs ih =>
    cases i with
    | zero => simp; omega
    | succ i =>
      have := ih i (by simpa using h)
      simp only [List.set_cons_succ, val_cons, List.getElem_cons_succ, Nat.pow_succ]
      have e1 : 4294967296 ^ i * 4294967296 * xs[i]'(by simpa using h) = 4294967296 * (4294967296 ^ i * xs[i]'(by simpa using h)) := by
        rw [Nat.mul_comm (4294967296 ^ i), Nat.mul_assoc]
      have e2 : 4294967296 ^ i * 4294967296 * y = 4294967296 * (4294967296 ^ i * y) := by
        rw [Nat.mul_comm (4294967296 ^ i), Nat.mul_assoc]
      rw [e1, e2]
      omega

theorem trimL_take (xs : List Nat) (k : Nat) (hk : k ≤ xs.length) (hz : ∀ j, k ≤ j → (h : j < xs.length) → xs[j] = 0) (hl : 0 < k → (h : k - 1 < xs.length) → xs[k - 1] ≠ 0) : trimL xs = xs.take k := by
  have e : xs = xs.take k ++ List.replicate (xs.length - k) 0 := by
    apply List.ext_getElem
    · simp; omega
    · intro i h1 h2
      by_cases hi : i < k
      · rw [List.getElem_append_left (by simp; omega)]; simp
      · rw [List.getElem_append_right (by simp; omega)]
        simp
        exact hz i (by omega) h1
  have hd : (List.replicate (xs.length - k) 0 ++ (xs.take k).reverse).dropWhile (· == 0) = (xs.take k).reverse := by
    rw [List.dropWhile_append_of_pos (by simp)]
    by_cases h0 : k = 0
    · subst h0; simp
    · have h1 : (xs.take k).reverse = xs[k-1]'(by omega) :: (xs.take (k-1)).reverse := by
        have : xs.take k = xs.take (k - 1) ++ [xs[k-1]'(by omega)] := by
          have := List.take_succ_eq_append_getElem (l := xs) (i := k - 1) (by omega)
          rwa [show k - 1 + 1 = k from by omega] at this
        rw [this]; simp
      rw [h1, List.dropWhile_cons_of_neg (by simpa using hl (by omega) (by omega))]
  unfold trimL
  conv => lhs; rw [e]
  rw [List.reverse_append, List.reverse_replicate, hd, List.reverse_reverse]

/-- What trim leaves, said once. -/
theorem trimL_spec (xs : List Nat) : ∃ k, k ≤ xs.length ∧ trimL xs = xs.take k ∧ (∀ j, k ≤ j → (h : j < xs.length) → xs[j] = 0) ∧ (0 < k → (h : k - 1 < xs.length) → xs[k - 1] ≠ 0) := by
  have main : ∀ n, n ≤ xs.length → (∀ j, n ≤ j → (h : j < xs.length) → xs[j] = 0) →
      ∃ k, k ≤ xs.length ∧ (∀ j, k ≤ j → (h : j < xs.length) → xs[j] = 0) ∧ (0 < k → (h : k - 1 < xs.length) → xs[k - 1] ≠ 0) := by
    intro n
    induction n with
    | zero => exact fun h1 h2 => ⟨0, h1, h2, fun h => absurd h (by omega)⟩
    | succ n ih =>
      intro h1 h2
      by_cases hz : xs[n]'(by omega) = 0
      · refine ih (by omega) (fun j hj hl => ?_)
        by_cases e : j = n
        · subst e; exact hz
        · exact h2 j (by omega) hl
      · exact ⟨n + 1, h1, h2, fun _ _ => by simpa using hz⟩
  obtain ⟨k, h1, h2, h3⟩ := main xs.length (Nat.le_refl _) (fun j h1 h2 => absurd h2 (by omega))
  exact ⟨k, h1, trimL_take xs k h1 h2 h3, h2, h3⟩

theorem trimL_len (xs : List Nat) : (trimL xs).length ≤ xs.length := by
  obtain ⟨k, h1, h2, _⟩ := trimL_spec xs
  rw [h2, List.length_take]; omega

theorem val_zeros (xs : List Nat) (h : ∀ j, (h : j < xs.length) → xs[j] = 0) : val xs = 0 := by
  induction xs with
  | nil => rfl
  | cons x xs ih =>
    have h0 := h 0 (by simp)
    have := ih (fun j hj => by have := h (j + 1) (by simpa using hj); simpa using this)
    simp at h0
    simp [h0, this]

theorem val_trimL (xs : List Nat) : val (trimL xs) = val xs := by
  obtain ⟨k, h1, h2, h3, _⟩ := trimL_spec xs
  rw [h2, val_take_drop xs k, val_zeros (xs.drop k)]
  · simp
  · intro j hj
    rw [List.getElem_drop]
    exact h3 _ (by omega) (by simp at hj; omega)

theorem can_trimL {xs : List Nat} (h : Ws xs) : Can (trimL xs) := by
  obtain ⟨k, h1, h2, _, h4⟩ := trimL_spec xs
  rw [h2]
  refine ⟨h.take k, fun hne => ?_⟩
  have hk : 0 < k := by
    rcases Nat.eq_zero_or_pos k with h0 | h0
    · subst h0; simp at hne
    · exact h0
  rw [List.getLast_eq_getElem]
  have hlen : (xs.take k).length = k := by rw [List.length_take]; omega
  have := h4 hk (by omega)
  rw [List.getElem_take]
  have e : (xs.take k).length - 1 = k - 1 := by omega
  simp only [e]
  exact this

theorem Can.nil : Can [] := ⟨Ws.nil, fun h => absurd rfl h⟩
theorem Can.tail {x : Nat} {xs : List Nat} (h : Can (x :: xs)) : Can xs := by
  refine ⟨(Ws.cons.1 h.1).2, fun hne => ?_⟩
  have := h.2 (by simp)
  rwa [List.getLast_cons hne] at this
theorem Can.pos {xs : List Nat} (h : Can xs) (hne : xs ≠ []) : 0 < val xs := by
  induction xs with
  | nil => exact absurd rfl hne
  | cons x xs ih =>
    by_cases h0 : xs = []
    · subst h0
      have := h.2 (by simp)
      simp at this
      simp; omega
    · have := ih h.tail h0
      simp; omega

theorem Can.eq {xs : List Nat} : ∀ {ys : List Nat}, Can xs → Can ys → val xs = val ys → xs = ys := by
  induction xs with
  | nil =>
    intro ys _ hy he
    rcases ys with _ | ⟨y, ys⟩
    · rfl
    · have := hy.pos (by simp); simp at he this; omega
  | cons x xs ih =>
    intro ys hx hy he
    rcases ys with _ | ⟨y, ys⟩
    · have := hx.pos (by simp); simp at he this; omega
    · have h1 := (Ws.cons.1 hx.1).1
      have h2 := (Ws.cons.1 hy.1).1
      simp only [val_cons] at he
      have e1 : x = y := by omega
      have e2 : val xs = val ys := by omega
      rw [e1, ih hx.tail hy.tail e2]

theorem dig_zero : dig 0 = [] := by rw [dig]; simp
theorem dig_pos {n : Nat} (h : n ≠ 0) : dig n = (n % 4294967296) :: dig (n / 4294967296) := by rw [dig, if_neg h]

theorem val_dig (n : Nat) : val (dig n) = n := by
  induction n using Nat.strongRecOn with
  | _ n ih =>
    by_cases h : n = 0
    · subst h; rw [dig_zero]; rfl
    · rw [dig_pos h, val_cons, ih _ (by omega)]; omega

theorem can_dig (n : Nat) : Can (dig n) := by
  induction n using Nat.strongRecOn with
  | _ n ih =>
    by_cases h : n = 0
    · subst h; rw [dig_zero]; exact Can.nil
    · rw [dig_pos h]
      have := ih (n / 4294967296) (by omega)
      refine ⟨Ws.cons.2 ⟨by omega, this.1⟩, fun _ => ?_⟩
      by_cases h2 : n / 4294967296 = 0
      · simp only [h2, dig_zero, List.getLast_singleton]; omega
      · have hne : dig (n / 4294967296) ≠ [] := by rw [dig_pos h2]; simp
        rw [List.getLast_cons hne]
        exact this.2 hne

theorem Can.dig {xs : List Nat} (h : Can xs) : xs = dig (val xs) := h.eq (can_dig _) (val_dig _).symm
theorem trimL_dig {xs : List Nat} (h : Ws xs) : trimL xs = dig (val xs) := by
  rw [← val_trimL]; exact (can_trimL h).dig
theorem dig_trim (n : Nat) : trimL (dig n) = dig n := by rw [trimL_dig (can_dig n).1, val_dig]

theorem dig_nil_iff (n : Nat) : dig n = [] ↔ n = 0 := by
  constructor
  · intro h; have := val_dig n; rw [h] at this; simpa using this.symm
  · rintro rfl; exact dig_zero
theorem dig_len_pos (n : Nat) : 0 < (dig n).length ↔ 0 < n := by
  rw [List.length_pos_iff]
  have := dig_nil_iff n
  constructor
  · intro h
    rcases Nat.eq_zero_or_pos n with h0 | h0
    · exact absurd (this.2 h0) h
    · exact h0
  · intro h e; have := this.1 e; omega

/-- The length of the canonical words is the least that holds the number. -/
theorem dig_len_le {n k : Nat} (h : n < 4294967296 ^ k) : (dig n).length ≤ k := by
  induction k generalizing n with
  | zero => simp at h; subst h; simp [dig_zero]
  | succ k ih =>
    by_cases h0 : n = 0
    · subst h0; simp [dig_zero]
    · rw [dig_pos h0, List.length_cons]
      have : n / 4294967296 < 4294967296 ^ k := by
        rw [Nat.div_lt_iff_lt_mul (by omega)]
        rwa [Nat.pow_succ] at h
      have := ih this
      omega

theorem can_lower {xs : List Nat} (h : Can xs) (hne : xs ≠ []) : 4294967296 ^ (xs.length - 1) ≤ val xs := by
  induction xs with
  | nil => exact absurd rfl hne
  | cons x xs ih =>
    by_cases h0 : xs = []
    · subst h0
      have := h.pos (by simp)
      simp at this ⊢; omega
    · have h1 := ih h.tail h0
      have hl : 0 < xs.length := List.length_pos_iff.2 h0
      simp only [List.length_cons, Nat.add_sub_cancel, val_cons]
      have e : xs.length = (xs.length - 1) + 1 := by omega
      rw [e, Nat.pow_succ, Nat.mul_comm]
      have := Nat.mul_le_mul_left 4294967296 h1
      omega

theorem val_lt_of_len {xs ys : List Nat} (hx : Ws xs) (hy : Can ys) (h : xs.length < ys.length) : val xs < val ys := by
  have h1 := val_lt hx
  have h2 := can_lower hy (by intro e; subst e; simp at h)
  have : 4294967296 ^ xs.length ≤ 4294967296 ^ (ys.length - 1) := Nat.pow_le_pow_right (by omega) (by omega)
  omega

theorem dig_len_mono {m n : Nat} (h : m ≤ n) : (dig m).length ≤ (dig n).length := by
  refine dig_len_le (Nat.lt_of_le_of_lt h ?_)
  have := val_lt (can_dig n).1
  rwa [val_dig] at this

theorem dig_val_len {xs : List Nat} (h : Ws xs) : (dig (val xs)).length ≤ xs.length := dig_len_le (val_lt h)

/-- One round of a sum: the word and the carry of s. -/
theorem carry_step (zs : List Nat) (k s cy S : Nat) (hl : zs.length = k) (hS : val zs + 4294967296 ^ k * s = S) :
    val (zs ++ [s % 4294967296]) + 4294967296 ^ (k + 1) * (s / 4294967296) = S := by
  rw [val_snoc, hl, Nat.pow_succ, ← hS, Nat.mul_assoc, Nat.add_assoc, ← Nat.mul_add]
  congr 2
  omega

theorem add_step (zs P Q : List Nat) (k cy : Nat) (hl : zs.length = k) (hv : val zs + 4294967296 ^ k * cy = val (P.take k) + val (Q.take k)) (hp : k < P.length) (hq : k < Q.length) :
    val (zs ++ [(cy + P[k] + Q[k]) % 4294967296]) + 4294967296 ^ (k + 1) * ((cy + P[k] + Q[k]) / 4294967296) = val (P.take (k + 1)) + val (Q.take (k + 1)) := by
  refine carry_step zs k _ cy _ hl ?_
  rw [val_take_succ P k hp, val_take_succ Q k hq, Nat.mul_add, Nat.mul_add]
  omega

theorem add_step1 (zs P Q : List Nat) (k cy : Nat) (hl : zs.length = k) (hv : val zs + 4294967296 ^ k * cy = val (P.take k) + val (Q.take k)) (hp : k < P.length) (hq : Q.length ≤ k) :
    val (zs ++ [(cy + P[k]) % 4294967296]) + 4294967296 ^ (k + 1) * ((cy + P[k]) / 4294967296) = val (P.take (k + 1)) + val (Q.take (k + 1)) := by
  refine carry_step zs k _ cy _ hl ?_
  rw [List.take_of_length_le (show Q.length ≤ k from hq)] at hv
  rw [val_take_succ P k hp, List.take_of_length_le (show Q.length ≤ k + 1 by omega), Nat.mul_add]
  omega

theorem take_set_succ (zs : List Nat) (k y : Nat) (h : k < zs.length) : (zs.set k y).take (k + 1) = zs.take k ++ [y] := by
  rw [List.take_succ_eq_append_getElem (by simpa using h)]
  simp [List.take_set_of_le]

theorem val_take_set (zs : List Nat) (k y : Nat) (h : k < zs.length) : val ((zs.set k y).take (k + 1)) = val (zs.take k) + 4294967296 ^ k * y := by
  rw [take_set_succ zs k y h, val_snoc, List.length_take, Nat.min_eq_left (by omega)]

/-- One round of a difference. -/
theorem sub_step (zs P : List Nat) (k d x y b b' QK : Nat) (hz : k < zs.length) (hp : k < P.length) (hx : x = P[k]) (hd : d + y + b = x + 4294967296 * b')
    (hv : val (zs.take k) + QK = val (P.take k) + 4294967296 ^ k * b) :
    val ((zs.set k d).take (k + 1)) + (QK + 4294967296 ^ k * y) = val (P.take (k + 1)) + 4294967296 ^ (k + 1) * b' := by
  rw [val_take_set zs k d hz, val_take_succ P k hp, ← hx, Nat.pow_succ]
  have e : 4294967296 ^ k * (d + y + b) = 4294967296 ^ k * (x + 4294967296 * b') := by rw [hd]
  simp only [Nat.mul_add] at e
  rw [Nat.mul_assoc]
  omega
theorem val_take_more (Q : List Nat) (k : Nat) (h : Q.length ≤ k) : val (Q.take (k + 1)) = val (Q.take k) := by
  rw [List.take_of_length_le (show Q.length ≤ k from h), List.take_of_length_le (show Q.length ≤ k + 1 by omega)]
theorem sub_end (zs P Q : List Nat) (b : Nat) (hz : Ws zs) (hl : zs.length = P.length) (hle : val Q ≤ val P) (hv : val zs + val Q = val P + 4294967296 ^ P.length * b) : val zs = val P - val Q ∧ b = 0 := by
  have h1 := val_lt hz
  rw [hl] at h1
  rcases Nat.eq_zero_or_pos b with h | h
  · subst h; simp at hv; omega
  · have : 4294967296 ^ P.length * 1 ≤ 4294967296 ^ P.length * b := Nat.mul_le_mul_left _ h
    omega

theorem mul_lt_sq' (x y : Nat) (hx : x < 4294967296) (hy : y < 4294967296) : (x : Int) * (y : Int) ≤ 18446744065119617025 := by
  have := Nat.mul_le_mul (show x ≤ 4294967295 by omega) (show y ≤ 4294967295 by omega)
  rw [← Int.natCast_mul]
  omega
theorem mul_lt_sq (x y : Nat) (hx : x < 4294967296) (hy : y < 4294967296) : x * y ≤ 18446744065119617025 := by
  have := Nat.mul_le_mul (show x ≤ 4294967295 by omega) (show y ≤ 4294967295 by omega)
  omega

/-- One round of the inner loop of a product: the word at place p holds s % B behind it, s / B is carried on. -/
theorem mul_step (zs : List Nat) (p s c S : Nat) (hp : p < zs.length) (hv : val zs + 4294967296 ^ p * c = S) (T : Nat) (hs : s = c + T + zs[p]) :
    val (zs.set p (s % 4294967296)) + 4294967296 ^ (p + 1) * (s / 4294967296) = S + 4294967296 ^ p * T := by
  have h1 := val_set zs p (s % 4294967296) hp
  have e1 : 4294967296 ^ (p + 1) * (s / 4294967296) = 4294967296 ^ p * (4294967296 * (s / 4294967296)) := by rw [Nat.pow_succ, Nat.mul_assoc]
  have e2 : 4294967296 ^ p * (s % 4294967296) + 4294967296 ^ p * (4294967296 * (s / 4294967296)) = 4294967296 ^ p * s := by rw [← Nat.mul_add]; congr 1; omega
  have e3 : 4294967296 ^ p * s = 4294967296 ^ p * c + 4294967296 ^ p * T + 4294967296 ^ p * zs[p] := by rw [hs, Nat.mul_add, Nat.mul_add]
  omega

theorem pow_mul_take (i j : Nat) (x : Nat) (ys : List Nat) (hj : j < ys.length) :
    4294967296 ^ i * (x * val (ys.take (j + 1))) = 4294967296 ^ i * (x * val (ys.take j)) + 4294967296 ^ (i + j) * (x * ys[j]) := by
  rw [val_take_succ ys j hj, Nat.mul_add, Nat.mul_add, Nat.pow_add]
  congr 1
  rw [Nat.mul_assoc]
  congr 1
  rw [← Nat.mul_assoc, ← Nat.mul_assoc, Nat.mul_comm x]

theorem set_other (zs : List Nat) (p y t : Nat) (h : p ≠ t) (ht : t < zs.length) : (zs.set p y)[t]'(by simpa using ht) = zs[t] := List.getElem_set_ne h _

/-- The end of a round of the outer loop: the carry goes to a word that was 0. -/
theorem mul_end (zs : List Nat) (p c S : Nat) (hp : p < zs.length) (h0 : zs[p] = 0) (hv : val zs + 4294967296 ^ p * c = S) : val (zs.set p c) = S := by
  have h1 := val_set zs p c hp
  rw [h0] at h1
  omega
theorem mul_take_succ (xs : List Nat) (i b : Nat) (h : i < xs.length) : val (xs.take (i + 1)) * b = val (xs.take i) * b + 4294967296 ^ i * (xs[i] * b) := by
  rw [val_take_succ xs i h, Nat.add_mul, Nat.mul_assoc]

/-- Lists that agree behind place p are ordered by their words at p. -/
theorem val_lt_at (xs ys : List Nat) (hl : xs.length = ys.length) (hx : Ws xs) (p : Nat) (hp : p < xs.length) (hd : xs.drop (p + 1) = ys.drop (p + 1)) (h : xs[p] < ys[p]'(by omega)) : val xs < val ys := by
  have hq : p < ys.length := by omega
  have a1 := val_take_drop xs p
  have a2 := val_take_drop ys p
  rw [val_drop_succ xs p hp, List.length_take, Nat.min_eq_left (by omega)] at a1
  rw [val_drop_succ ys p hq, List.length_take, Nat.min_eq_left (by omega), ← hd] at a2
  have b1 := val_lt (hx.take p)
  rw [List.length_take, Nat.min_eq_left (by omega)] at b1
  have c1 : 4294967296 ^ p * (xs[p] + 1) ≤ 4294967296 ^ p * ys[p] := Nat.mul_le_mul_left _ h
  rw [Nat.mul_add] at a1 a2 c1
  omega

/-- One round of a division by a word. -/
theorem short_step (zs xs : List Nat) (p d r x q r' : Nat) (hz : p < zs.length) (hx : p < xs.length) (hX : x = xs[p]) (hq : q = (r * 4294967296 + x) / d) (hr : r' = (r * 4294967296 + x) % d)
    (hv : val (zs.drop (p + 1)) * d + r = val (xs.drop (p + 1))) : val ((zs.set p q).drop p) * d + r' = val (xs.drop p) := by
  rw [val_drop_succ (zs.set p q) p (by simpa using hz), val_drop_succ xs p hx, ← hv, ← hX, List.getElem_set_self, List.drop_set_of_lt (by omega)]
  have e := Nat.div_add_mod (r * 4294967296 + x) d
  rw [← hq, ← hr] at e
  rw [Nat.add_mul, Nat.mul_add, Nat.mul_assoc, Nat.mul_comm q d]
  omega

/-- The order of two numbers, as Go says it. -/
def cmpN (a b : Nat) : Int := if a < b then -1 else if a = b then 0 else 1
theorem cmpN_lt {a b : Nat} (h : a < b) : cmpN a b = -1 := by simp [cmpN, h]
theorem cmpN_gt {a b : Nat} (h : b < a) : cmpN a b = 1 := by unfold cmpN; rw [if_neg (by omega), if_neg (by omega)]
theorem cmpN_eq {a b : Nat} (h : a = b) : cmpN a b = 0 := by unfold cmpN; rw [if_neg (by omega), if_pos h]
end Go.Proofs.Ytlbgnndjacagkaa
