/- Contracts of the functions that the statements reach, part 30. -/
import Derived.Test.YtdambnieminnfaaGreatRows
import Derived.Test.YtdambnieminnfaaGreatZ13
import Derived.Test.YtdambnieminnfaaGreatZ17
set_option linter.unusedSimpArgs false
set_option linter.unusedVariables false

/- The least index rule ends: no basis comes again. -/
namespace Go.Proofs.YtdambnieminnfaaGreat

/-- A tableau and its basis. -/
structure St where
 T : Nat → Nat → Rat
 b : Nat → Nat
/-- No basic value is below zero. -/
def Feas (m n : Nat) (S : St) : Prop := ∀ i, i < m → 0 ≤ S.T i (n + m)
/-- The row that leaves at the unknown j. -/
def Out (m n : Nat) (S : St) (j r : Nat) : Prop :=
 r < m ∧ 0 < S.T r j ∧ ∀ i, i < m → 0 < S.T i j → S.T r (n + m) / S.T r j ≤ S.T i (n + m) / S.T i j ∧ (S.T r (n + m) / S.T r j = S.T i (n + m) / S.T i j → S.b r ≤ S.b i)
/-- The unknown that enters. -/
def In (m n : Nat) (d : Nat → Rat) (S : St) (j : Nat) : Prop := j < n ∧ rho m d S.T S.b j < 0 ∧ ∀ c, c < j → 0 ≤ rho m d S.T S.b c
/-- One pivot. -/
def St.at (S : St) (r j : Nat) : St := ⟨piv S.T r j, bup S.b r j⟩
def Bl (m n : Nat) (d : Nat → Rat) (S S' : St) : Prop := ∃ j r, In m n d S j ∧ Out m n S j r ∧ S' = S.at r j
/-- At most k pivots follow. -/
def Lim (m n : Nat) (d : Nat → Rat) : Nat → St → Prop
 | 0, S => ∀ S', ¬ Bl m n d S S'
 | k + 1, S => ∀ S', Bl m n d S S' → Lim m n d k S'

section
variable {m n : Nat} {T0 : Nat → Nat → Rat} {d : Nat → Rat} {S S' : St}

theorem div_le_mul {a p x q : Rat} (hq : 0 < q) (h : a / p ≤ x / q) : q * (a / p) ≤ x := by
 have h1 : 0 ≤ q * (x / q - a / p) := Rat.mul_nonneg (Rat.le_of_lt hq) (by grind)
 have h2 : q * (x / q) = x := by grind
 grind
theorem div_nonneg {a p : Rat} (ha : 0 ≤ a) (hp : 0 < p) : 0 ≤ a / p := by
 rw [Rat.div_def]; exact Rat.mul_nonneg ha (Rat.le_of_lt (Rat.inv_pos.mpr hp))
theorem mul_neg_nonneg {a b : Rat} (ha : a ≤ 0) (hb : 0 ≤ b) : a * b ≤ 0 := by
 have := Rat.mul_nonneg (a := -a) (b := b) (by grind) hb
 grind
theorem pos_of_mul {a b : Rat} (ha : 0 ≤ a) (h : 0 < a * b) : 0 < b := by
 by_cases hb : 0 < b
 ·exact hb
 ·have := Rat.mul_nonneg (a := a) (b := -b) ha (by grind)
  exact absurd h (by grind)

theorem Feas.at (hF : Feas m n S) {j r : Nat} (h : Out m n S j r) : Feas m n (S.at r j) := fun i hi => by
 obtain ⟨hr, hp, ho⟩ := h
 show 0 ≤ piv S.T r j i (n + m)
 have hq := div_nonneg (hF r hr) hp
 unfold piv
 by_cases hir : i = r
 ·rw [if_pos hir]; exact hq
 ·rw [if_neg hir]
  by_cases hij : 0 < S.T i j
  ·have := div_le_mul hij (ho i hi hij).1
   grind
  ·have := mul_neg_nonneg (a := S.T i j) (by grind) hq
   have := hF i hi
   grind

theorem Good.at (G : Good m n T0 S.T S.b) {j r : Nat} (hj : j < n) (h : Out m n S j r) : Good m n T0 (S.at r j).T (S.at r j).b :=
 G.pvt h.1 (by omega) (by have := h.2.1; grind)

theorem around (P : Nat → Prop) (k : Nat) (hs : ∀ t, t < k → P t → P (t + 1)) (h0 : P k → P 0) {t1 t2 : Nat} (h1 : t1 ≤ k) (h2 : t2 ≤ k) (h : P t1) : P t2 := by
 have up : ∀ j t, t + j ≤ k → P t → P (t + j) := fun j => by
  induction j with
  | zero => intro t _ h; exact h
  | succ j ih => intro t hk h; exact hs (t + j) (by omega) (ih t (by omega) h)
 have hk : P k := by have := up (k - t1) t1 (by omega) h; rwa [show t1 + (k - t1) = k by omega] at this
 have := up t2 0 (by omega) (h0 hk)
 rwa [Nat.zero_add] at this

theorem most (f : Nat → Nat) : ∀ k, 0 < k → ∃ t, t < k ∧ ∀ u, u < k → f u ≤ f t
 | 0, h => by omega
 | 1, _ => ⟨0, by omega, fun u hu => by rw [show u = 0 by omega]; exact Nat.le_refl _⟩
 | k + 2, _ => by
   obtain ⟨t, ht, h⟩ := most f (k + 1) (by omega)
   by_cases hk : f (k + 1) ≤ f t
   ·exact ⟨t, by omega, fun u hu => if e : u = k + 1 then by rw [e]; exact hk else h u (by omega)⟩
   ·exact ⟨k + 1, by omega, fun u hu => if e : u = k + 1 then by rw [e]; exact Nat.le_refl _ else by have := h u (by omega); omega⟩

theorem climb (f : Nat → Rat) (k : Nat) (h : ∀ t, t < k → f t ≤ f (t + 1)) (he : f k = f 0) : ∀ t, t < k → f (t + 1) = f t := by
 have up : ∀ j t, t + j ≤ k → f t ≤ f (t + j) := fun j => by
  induction j with
  | zero => intro t _; exact Rat.le_refl
  | succ j ih => intro t hk; exact Rat.le_trans (ih t (by omega)) (h (t + j) (by omega))
 intro t ht
 have h1 := up t 0 (by omega)
 have h2 := h t ht
 have h3 := up (k - (t + 1)) (t + 1) (by omega)
 rw [show t + 1 + (k - (t + 1)) = k by omega] at h3
 rw [Nat.zero_add] at h1
 grind

theorem bland_cycle (k : Nat) (hk : 0 < k) (s : Nat → St) (hG0 : Good m n T0 (s 0).T (s 0).b) (hF0 : Feas m n (s 0)) (hs : ∀ t, t < k → Bl m n d (s t) (s (t + 1))) (hb : ∀ i, i < m → (s k).b i = (s 0).b i) : False := by
 have hx : ∀ t, ∃ j, ∃ r, t < k → In m n d (s t) j ∧ Out m n (s t) j r ∧ s (t + 1) = (s t).at r j := fun t => by
  by_cases ht : t < k
  ·obtain ⟨j, r, h⟩ := hs t ht; exact ⟨j, r, fun _ => h⟩
  ·exact ⟨0, 0, fun h => absurd h ht⟩
 obtain ⟨J, hJ⟩ := Classical.axiomOfChoice hx
 obtain ⟨R, hR⟩ := Classical.axiomOfChoice hJ
 have hGF : ∀ t, t ≤ k → Good m n T0 (s t).T (s t).b ∧ Feas m n (s t) := fun t => by
  induction t with
  | zero => exact fun _ => ⟨hG0, hF0⟩
  | succ t ih =>
    intro ht
    obtain ⟨g, f⟩ := ih (by omega)
    obtain ⟨h1, h2, h3⟩ := hR t (by omega)
    rw [h3]
    exact ⟨g.at h1.1 h2, f.at h2⟩
 have hTk : ∀ i, i < m → (s k).T i (n + m) = (s 0).T i (n + m) := fun i hi => (hGF k (Nat.le_refl _)).1.uniq hG0 hb hi (Nat.le_refl _)
 have hstep : ∀ t, t < k → rho m d (s (t + 1)).T (s (t + 1)).b (n + m) = rho m d (s t).T (s t).b (n + m) - rho m d (s t).T (s t).b (J t) * ((s t).T (R t) (n + m) / (s t).T (R t) (J t)) := fun t ht => by
  obtain ⟨h1, h2, h3⟩ := hR t ht
  rw [h3]
  exact rho_piv d h2.1 (by have := h2.2.1; grind) (n + m)
 have hq : ∀ t, t < k → 0 ≤ (s t).T (R t) (n + m) / (s t).T (R t) (J t) := fun t ht => by
  obtain ⟨h1, h2, h3⟩ := hR t ht
  exact div_nonneg ((hGF t (by omega)).2 _ h2.1) h2.2.1
 have hconst := climb (fun t => rho m d (s t).T (s t).b (n + m)) k (fun t ht => by
  have h1 := mul_neg_nonneg (Rat.le_of_lt (hR t ht).1.2.1) (hq t ht)
  have h2 := hstep t ht
  grind) (by
   unfold rho
   rw [sm_congr (fun i hi => by rw [hb i hi, hTk i hi])])
 have hZ : ∀ t, t < k → (s t).T (R t) (n + m) = 0 := fun t ht => by
  have h1 := hstep t ht
  have h2 := hconst t ht
  have h3 := (hR t ht).1.2.1
  have h4 := (hR t ht).2.1.2.1
  have h5 : rho m d (s t).T (s t).b (J t) * ((s t).T (R t) (n + m) / (s t).T (R t) (J t)) = 0 := by grind
  have h6 : (s t).T (R t) (n + m) / (s t).T (R t) (J t) = 0 := by
   rcases Rat.mul_eq_zero.1 h5 with h | h
   ·exact absurd h3 (by grind)
   ·exact h
  grind
 have hT1 : ∀ t, t < k → ∀ i, i < m → (s (t + 1)).T i (n + m) = (s t).T i (n + m) := fun t ht i hi => by
  have h1 := hZ t ht
  rw [(hR t ht).2.2]
  show piv _ _ _ _ _ = _
  unfold piv
  by_cases hir : i = R t
  ·rw [if_pos hir, h1, hir, h1]; grind
  ·rw [if_neg hir, h1]; grind
 have hB1 : ∀ t, t < k → ∀ i, (s (t + 1)).b i = if i = R t then J t else (s t).b i := fun t ht i => by rw [(hR t ht).2.2]; rfl
 -- the greatest unknown that enters
 obtain ⟨t1, ht1, hmax⟩ := most J k hk
 have hnb : ∀ i, i < m → (s t1).b i ≠ J t1 := fun i hi he => by
  have h1 := (hGF t1 (by omega)).1.rho_basic (d := d) hi
  rw [he] at h1
  have := (hR t1 ht1).1.2.1
  grind
 -- it leaves
 obtain ⟨t2, ht2, hlv⟩ : ∃ t, t < k ∧ (s t).b (R t) = J t1 := by
  refine Classical.byContradiction fun hno => ?_
  have := around (fun t => ∃ i, i < m ∧ (s t).b i = J t1) k (fun t ht ⟨i, hi, he⟩ => ⟨i, hi, by
   rw [hB1 t ht i]
   by_cases hir : i = R t
   ·exact absurd ⟨t, ht, by rw [← hir]; exact he⟩ hno
   ·rw [if_neg hir]; exact he⟩) (fun ⟨i, hi, he⟩ => ⟨i, hi, by rw [← hb i hi]; exact he⟩) (t1 := t1 + 1) (t2 := t1) (by omega) (by omega) ⟨R t1, (hR t1 ht1).2.1.1, by rw [hB1 t1 ht1, if_pos rfl]⟩
  obtain ⟨i, hi, he⟩ := this
  exact hnb i hi he
 have G1 := (hGF t1 (by omega)).1
 have G2 := (hGF t2 (by omega)).1
 obtain ⟨hin, hou, -⟩ := hR t2 ht2
 have hs1 : J t2 ≠ J t1 := fun he => by
  have h1 := G2.rho_basic (d := d) hou.1
  rw [hlv, ← he] at h1
  have := hin.2.1
  grind
 have hs2 : J t2 < J t1 := by have := hmax t2 ht2; omega
 have hc1 := (hR t1 ht1).1.2.2 (J t2) hs2
 have hrel := Good.rho2 (d := d) G1 G2 (c := J t2) (by have := hin.1; omega)
 obtain ⟨i, hi, hpos⟩ := sm_pos (m := m) (f := fun i => rho m d (s t1).T (s t1).b ((s t2).b i) * (s t2).T i (J t2)) (by have := hin.2.1; grind)
 have hnb2 : ∀ i', i' < m → (s t1).b i' ≠ (s t2).b i := fun i' hi' he => by
  have h1 := G1.rho_basic (d := d) hi'
  rw [he] at h1
  rw [h1] at hpos
  grind
 obtain ⟨t3, ht3, hen⟩ : ∃ t, t < k ∧ J t = (s t2).b i := by
  refine Classical.byContradiction fun hno => ?_
  have := around (fun t => ∀ i', i' < m → (s t).b i' ≠ (s t2).b i) k (fun t ht h i' hi' => by
   rw [hB1 t ht i']
   by_cases hir : i' = R t
   ·rw [if_pos hir]; exact fun he => hno ⟨t, ht, he⟩
   ·rw [if_neg hir]; exact h i' hi') (fun h i' hi' => by rw [← hb i' hi']; exact h i' hi') (t1 := t1) (t2 := t2) (by omega) (by omega) hnb2
  exact this i hi rfl
 have hle : (s t2).b i ≤ J t1 := by rw [← hen]; exact hmax t3 ht3
 have hne : (s t2).b i ≠ J t1 := fun he => by
  have hir := G2.inj hi hou.1 (he.trans hlv.symm)
  have h1 := (hR t1 ht1).1.2.1
  rw [he, hir] at hpos
  have h3 := mul_neg_nonneg (Rat.le_of_lt h1) (Rat.le_of_lt hou.2.1)
  grind
 have hc2 := (hR t1 ht1).1.2.2 ((s t2).b i) (by omega)
 have hTp := pos_of_mul hc2 hpos
 have hv0 := around (fun t => ∀ i', i' < m → (s t).b i' = (s t2).b i → (s t).T i' (n + m) = 0) k (fun t ht h i' hi' he => by
  rw [hB1 t ht i'] at he
  rw [hT1 t ht i' hi']
  by_cases hir : i' = R t
  ·rw [hir]; exact hZ t ht
  ·rw [if_neg hir] at he; exact h i' hi' he) (fun h i' hi' he => by rw [← hTk i' hi']; exact h i' hi' (by rw [hb i' hi']; exact he)) (t1 := t1) (t2 := t2) (by omega) (by omega) (fun i' hi' he => absurd he (hnb2 i' hi'))
 have hz2 := hv0 i hi rfl
 have := (hou.2.2 i hi hTp).2 (by rw [hz2, hZ t2 ht2]; grind)
 rw [hlv] at this
 omega

theorem pig : ∀ (N : Nat) (f : Nat → Nat), (∀ i, i ≤ N → f i < N) → ∃ i j, i < j ∧ j ≤ N ∧ f i = f j
 | 0, f, h => absurd (h 0 (by omega)) (by omega)
 | N + 1, f, h => by
   by_cases hv : ∃ i, i ≤ N ∧ f i = f (N + 1)
   ·obtain ⟨i, hi, he⟩ := hv; exact ⟨i, N + 1, by omega, by omega, he⟩
   ·have hv' : ∀ i, i ≤ N → f i ≠ f (N + 1) := fun i hi he => hv ⟨i, hi, he⟩
    obtain ⟨i, j, hij, hj, he⟩ := pig N (fun i => if f i = N then f (N + 1) else f i) (fun i hi => by
     have h1 := hv' i hi
     have h2 := h i (by omega)
     have h3 := h (N + 1) (by omega)
     split <;> omega)
    refine ⟨i, j, hij, by omega, ?_⟩
    have h1 := hv' i (by omega)
    have h2 := hv' j (by omega)
    split at he <;> split at he <;> omega

/-- A basis as a number. -/
def enc (B : Nat) (b : Nat → Nat) : Nat → Nat
 | 0 => 0
 | m + 1 => enc B b m * B + b m
theorem enc_lt (B : Nat) (b : Nat → Nat) : ∀ m, (∀ i, i < m → b i < B) → enc B b m < B ^ m
 | 0, _ => by simp [enc]
 | m + 1, h => by
   unfold enc
   have h1 := enc_lt B b m (fun i hi => h i (by omega))
   have h2 := h m (by omega)
   have h3 : (enc B b m + 1) * B ≤ B ^ m * B := Nat.mul_le_mul_right B h1
   rw [Nat.pow_succ]
   rw [Nat.add_mul] at h3
   omega
theorem enc_inj (B : Nat) (b b' : Nat → Nat) : ∀ m, (∀ i, i < m → b i < B) → (∀ i, i < m → b' i < B) → enc B b m = enc B b' m → ∀ i, i < m → b i = b' i
 | 0, _, _, _, i, hi => by omega
 | m + 1, h, h', he, i, hi => by
   unfold enc at he
   have h2 := h m (by omega)
   have h3 := h' m (by omega)
   have e1 : b m = b' m := by
    have := congrArg (· % B) he
    rwa [Nat.mul_comm, Nat.mul_add_mod, Nat.mul_comm, Nat.mul_add_mod, Nat.mod_eq_of_lt h2, Nat.mod_eq_of_lt h3] at this
   have e2 : enc B b m = enc B b' m := by
    rw [e1] at he
    exact Nat.eq_of_mul_eq_mul_right (show 0 < B by omega) (by omega)
   by_cases hm : i = m
   ·rw [hm]; exact e1
   ·exact enc_inj B b b' m (fun i hi => h i (by omega)) (fun i hi => h' i (by omega)) e2 i (by omega)

theorem chain_of : ∀ (N : Nat) (S : St), ¬ Lim m n d N S → ∃ s : Nat → St, s 0 = S ∧ ∀ t, t ≤ N → Bl m n d (s t) (s (t + 1))
 | 0, S, h => by
   unfold Lim at h
   obtain ⟨S', hS⟩ := Classical.not_forall.1 h
   refine ⟨fun t => if t = 0 then S else S', rfl, fun t ht => ?_⟩
   obtain rfl : t = 0 := by omega
   exact Classical.not_not.1 hS
 | N + 1, S, h => by
   unfold Lim at h
   obtain ⟨S', hS⟩ := Classical.not_forall.1 h
   obtain ⟨hb, hl⟩ := Classical.not_imp.1 hS
   obtain ⟨s, h0, hs⟩ := chain_of N S' hl
   refine ⟨fun t => match t with | 0 => S | t + 1 => s t, rfl, fun t ht => ?_⟩
   match t with
   | 0 => show Bl m n d S (s 0); rw [h0]; exact hb
   | t + 1 => exact hs t (by omega)

/-- The rule ends. -/
theorem bland (G : Good m n T0 S.T S.b) (hF : Feas m n S) : Lim m n d ((n + m) ^ m) S := by
 refine Classical.byContradiction fun h => ?_
 obtain ⟨s, h0, hs⟩ := chain_of _ S h
 have hGF : ∀ t, t ≤ (n + m) ^ m → Good m n T0 (s t).T (s t).b ∧ Feas m n (s t) := fun t => by
  induction t with
  | zero => intro _; rw [h0]; exact ⟨G, hF⟩
  | succ t ih =>
    intro ht
    obtain ⟨g, f⟩ := ih (by omega)
    obtain ⟨j, r, h1, h2, h3⟩ := hs t (by omega)
    rw [h3]
    exact ⟨g.at h1.1 h2, f.at h2⟩
 obtain ⟨i, j, hij, hj, he⟩ := pig ((n + m) ^ m) (fun t => enc (n + m) (s t).b m) (fun t ht => enc_lt _ _ m (hGF t ht).1.lt)
 have hb := enc_inj (n + m) _ _ m (hGF i (by omega)).1.lt (hGF j hj).1.lt he
 refine bland_cycle (m := m) (n := n) (T0 := T0) (d := d) (j - i) (by omega) (fun t => s (i + t)) (hGF i (by omega)).1 (hGF i (by omega)).2 (fun t ht => hs (i + t) (by omega)) (fun a ha => ?_)
 rw [show i + (j - i) = j by omega]
 exact (hb a ha).symm
end
end Go.Proofs.YtdambnieminnfaaGreat

/- The tableau in memory. -/
namespace Go.Proofs.YtdambnieminnfaaGreat
open Go.RowKit

/-- The blocks of a tableau: itself, signs, rows, cost, basis, and each row's. -/
structure Lay where
 p : Nat
 gs : Nat
 gr : Nat
 gc : Nat
 gb : Nat
 G : Nat → Nat
def Lay.X (l : Lay) (m : Nat) : Nat → Prop := fun b => b = l.p ∨ b = l.gs ∨ b = l.gr ∨ b = l.gc ∨ b = l.gb ∨ ∃ i, i < m ∧ b = l.G i
/-- No two are one. -/
structure Lay.Dis (l : Lay) (m : Nat) : Prop where
 d1 : l.p ≠ l.gs ∧ l.p ≠ l.gr ∧ l.p ≠ l.gc ∧ l.p ≠ l.gb
 d2 : l.gs ≠ l.gr ∧ l.gs ≠ l.gc ∧ l.gs ≠ l.gb
 d3 : l.gr ≠ l.gc ∧ l.gr ≠ l.gb ∧ l.gc ≠ l.gb
 d4 : ∀ i, i < m → l.G i ≠ l.p ∧ l.G i ≠ l.gs ∧ l.G i ≠ l.gr ∧ l.G i ≠ l.gc ∧ l.G i ≠ l.gb
 d5 : ∀ i, i < m → ∀ k, k < m → i ≠ k → l.G i ≠ l.G k
/-- The parts of a tableau that a pivot does not write: itself, signs, rows' heads. -/
structure Fix (w : World) (l : Lay) (m n : Nat) (sg : Nat → Int) : Prop where
 box : ∃ cs cr cb, Loc w l.p 127 #[.int .i64 n, .slice (some ⟨l.gs, 0, none⟩) m cs, .slice (some ⟨l.gr, 0, none⟩) m cr, .slice (some ⟨l.gc, 0, none⟩) (n + m + 1) (n + m + 1), .slice (some ⟨l.gb, 0, none⟩) m cb] ∧ m ≤ cs ∧ m ≤ cr ∧ m ≤ cb
 sgn : ∃ ss : Array Value, Loc w l.gs 3 ss ∧ ∀ i, i < m → ss[i]? = some (.int .i64 (sg i))
 row : ∃ rr : Array Value, Loc w l.gr 55 rr ∧ ∀ i, i < m → rr[i]? = some (.slice (some ⟨l.G i, 0, none⟩) (n + m + 1) (n + m + 1))
/-- A row of the tableau, the cost or another. -/
def Rw (w : World) (X : Nat → Prop) (g N : Nat) (f : Nat → Rat) : Prop := ∃ rs, Line w g rs ∧ rs.length = N ∧ ValV w X rs f
/-- The cost: fractions that need not be canonical. -/
def Rc (w : World) (X : Nat → Prop) (g N : Nat) (f : Nat → Rat) : Prop := ∃ rs, Line w g rs ∧ rs.length = N ∧ ValL 100000 w X rs f
/-- The basis. -/
def Bas (w : World) (g m : Nat) (b : Nat → Nat) : Prop := ∃ bb : Array Value, Loc w g 3 bb ∧ ∀ i, i < m → bb[i]? = some (.int .i64 (b i))
/-- The tableau. -/
structure Tab (w : World) (l : Lay) (m n : Nat) (S : St) (k : Nat → Rat) (sg : Nat → Int) : Prop where
 fix : Fix w l m n sg
 rows : ∀ i, i < m → Rw w (l.X m) (l.G i) (n + m + 1) (S.T i)
 cost : Rc w (l.X m) l.gc (n + m + 1) k
 bas : Bas w l.gb m S.b
 dis : l.Dis m

section
variable {w w' : World} {l : Lay} {m n : Nat} {sg : Nat → Int} {X Y : Nat → Prop} {g N : Nat} {f f' : Nat → Rat} {b : Nat → Nat}
theorem Fix.keep (h : Fix w l m n sg) (hk : Keep X w w') (h1 : ¬ X l.p) (h2 : ¬ X l.gs) (h3 : ¬ X l.gr) : Fix w' l m n sg := by
 obtain ⟨⟨cs, cr, cb, a, hc⟩, ⟨ss, b, hs⟩, ⟨rr, c, hr⟩⟩ := h
 exact ⟨⟨cs, cr, cb, a.keep hk h1, hc⟩, ⟨ss, b.keep hk h2, hs⟩, ⟨rr, c.keep hk h3, hr⟩⟩
theorem Rw.keep (h : Rw w X g N f) (hk : Keep X w w') (hY : Keep Y w w') (h1 : ¬ Y g) : Rw w' X g N f := by
 obtain ⟨rs, a, b, c⟩ := h
 exact ⟨rs, Loc.keep a hY h1, b, c.keep hk⟩
theorem Rw.congr (h : Rw w X g N f) (hf : ∀ i, i < N → f' i = f i) : Rw w X g N f' := by
 obtain ⟨rs, a, b, c⟩ := h
 exact ⟨rs, a, b, c.congr (by rw [b]; exact hf)⟩
theorem Rw.lt (h : Rw w X g N f) : g < w.heap.size := let ⟨_, a, _⟩ := h; a.lt
theorem Rc.keep (h : Rc w X g N f) (hk : Keep X w w') (hY : Keep Y w w') (h1 : ¬ Y g) : Rc w' X g N f := by
 obtain ⟨rs, a, b, c⟩ := h
 exact ⟨rs, Loc.keep a hY h1, b, c.keep hk⟩
theorem Rc.congr (h : Rc w X g N f) (hf : ∀ i, i < N → f' i = f i) : Rc w X g N f' := by
 obtain ⟨rs, a, b, c⟩ := h
 exact ⟨rs, a, b, fun i r hr => by rw [hf i (by rw [← b]; exact (List.getElem?_eq_some_iff.1 hr).1)]; exact c i r hr⟩
theorem Rc.lt (h : Rc w X g N f) : g < w.heap.size := let ⟨_, a, _⟩ := h; a.lt
theorem Rc.at (h : Rc w X g N f) {c : Nat} (hc : c < N) : ∃ (b : Bool) (A : Option Addr) (p d : Nat) (b' : Bool) (A' : Option Addr) (p' d' : Nat), w.cell? ⟨g, c * 4, none⟩ = some (.bool b) ∧ w.cell? ⟨g, c * 4 + 1, none⟩ = some (.slice A p d) ∧ w.cell? ⟨g, c * 4 + 2, none⟩ = some (.bool b') ∧ w.cell? ⟨g, c * 4 + 3, none⟩ = some (.slice A' p' d') ∧
 RatL 100000 w X (.agg #[.bool b, .slice A p d, .bool b', .slice A' p' d']) (f c) ∧ ∀ i, w.frozen? ⟨g, i, none⟩ = false := by
 obtain ⟨rs, a, hn, hv⟩ := h
 have hr := List.getElem?_eq_getElem (l := rs) (i := c) (by omega)
 obtain ⟨c0, c1, c2, c3⟩ := a.cells hr
 exact ⟨_, _, _, _, _, _, _, _, c0, c1, c2, c3, hv c _ hr, a.frz⟩
theorem Bas.keep (h : Bas w g m b) (hk : Keep X w w') (h1 : ¬ X g) : Bas w' g m b := by
 obtain ⟨bb, a, c⟩ := h
 exact ⟨bb, a.keep hk h1, c⟩
/-- The cells of a row at one column. -/
theorem Rw.at (h : Rw w X g N f) {c : Nat} (hc : c < N) : ∃ (b : Bool) (A : Option Addr) (p d : Nat) (b' : Bool) (A' : Option Addr) (p' d' : Nat), w.cell? ⟨g, c * 4, none⟩ = some (.bool b) ∧ w.cell? ⟨g, c * 4 + 1, none⟩ = some (.slice A p d) ∧ w.cell? ⟨g, c * 4 + 2, none⟩ = some (.bool b') ∧ w.cell? ⟨g, c * 4 + 3, none⟩ = some (.slice A' p' d') ∧
 RatV w X (.agg #[.bool b, .slice A p d, .bool b', .slice A' p' d']) (f c) ∧ ∀ i, w.frozen? ⟨g, i, none⟩ = false := by
 obtain ⟨rs, a, hn, hv⟩ := h
 have hr := List.getElem?_eq_getElem (l := rs) (i := c) (by omega)
 obtain ⟨c0, c1, c2, c3⟩ := a.cells hr
 exact ⟨_, _, _, _, _, _, _, _, c0, c1, c2, c3, hv c _ hr, a.frz⟩
/-- A row with one column stored. -/
theorem Rw.put (hw : Rw w' X g N f) {c : Nat} (hc : c < N) (r : R4) (hr : RatV ((((w'.setCell ⟨g, c * 4, none⟩ (.bool r.b)).setCell ⟨g, c * 4 + 1, none⟩ (.slice r.A r.m r.c)).setCell ⟨g, c * 4 + 2, none⟩ (.bool r.b')).setCell ⟨g, c * 4 + 3, none⟩ (.slice r.A' r.m' r.c')) X r.v (f' c))
 (hf : ∀ i, i ≠ c → f' i = f i) (hX : X g) : Rw ((((w'.setCell ⟨g, c * 4, none⟩ (.bool r.b)).setCell ⟨g, c * 4 + 1, none⟩ (.slice r.A r.m r.c)).setCell ⟨g, c * 4 + 2, none⟩ (.bool r.b')).setCell ⟨g, c * 4 + 3, none⟩ (.slice r.A' r.m' r.c')) X g N f' := by
 obtain ⟨rs, a, hn, hv⟩ := hw
 refine ⟨rs.set c r, a.put (by omega) r, by simpa using hn, ValV.set (f := f) (hv.keep ?_) hr hf⟩
 exact ((((Keep.refl X w').set (.inl hX) _).set (.inl hX) _).set (.inl hX) _).set (.inl hX) _
end

/- Lists of one-cell elements that grow by append. -/

/-- A list of one-cell elements that lies in a block of its own, at or above base. -/
def Own1 (w : World) (base : Nat) (e : TypeId) (v : Value) (us : List Value) : Prop := w.ownsRow base e 1 v us.length us

section
variable {w w' : World} {base : Nat} {v : Value} {us : List Value} {X : Nat → Prop} {e : TypeId}
theorem Own1.nil (w : World) (base : Nat) (e : TypeId) : Own1 w base e (.slice none 0 0) [] := World.ownsRow_nil _ _ _ _
theorem Own1.lt (h : Own1 w base e v us) {g : Nat} (hg : v.ownBlock = some g) : g < w.heap.size ∧ base ≤ g := by
 rcases h.2 with ⟨h', _⟩ | ⟨g', cap', cur, h', hb, hg', _, _, hsz, htake⟩
 ·rw [h'] at hg; cases hg
 ·rw [h'] at hg; injection hg with hg; subst hg
  exact ⟨(Array.getElem?_eq_some_iff.1 hg').1, hb⟩
theorem Own1.below (h : Own1 w base e v us) (hb : Below w.heap.size w w') : Own1 w' base e v us := by
 refine ⟨h.1, ?_⟩
 rcases h.2 with ⟨h', hn⟩ | ⟨g', cap', cur, h', h3, hg', h1, h2, hsz, htake⟩
 ·exact .inl ⟨h', hn⟩
 ·exact .inr ⟨g', cap', cur, h', h3, by rw [hb.block g' (Array.getElem?_eq_some_iff.1 hg').1]; exact hg', h1, h2, hsz, htake⟩
theorem Own1.keep (h : Own1 w base e v us) (hb : Keep X w w') (hX : ∀ g, v.ownBlock = some g → ¬ X g) : Own1 w' base e v us := by
 refine ⟨h.1, ?_⟩
 rcases h.2 with ⟨h', hn⟩ | ⟨g', cap', cur, h', h3, hg', h1, h2, hsz, htake⟩
 ·exact .inl ⟨h', hn⟩
 ·exact .inr ⟨g', cap', cur, h', h3, by rw [hb.block g' (Array.getElem?_eq_some_iff.1 hg').1 (hX g' (by rw [h']; rfl))]; exact hg', h1, h2, hsz, htake⟩
theorem Own1.stay (h : Own1 w base e v us) (hb : ∀ g, v.ownBlock = some g → Stay g w w') : Own1 w' base e v us := by
 refine ⟨h.1, ?_⟩
 rcases h.2 with ⟨h', hn⟩ | ⟨g', cap', cur, h', h3, hg', h1, h2, hsz, htake⟩
 ·exact .inl ⟨h', hn⟩
 ·exact .inr ⟨g', cap', cur, h', h3, by rw [(hb g' (by rw [h']; rfl) (Array.getElem?_eq_some_iff.1 hg').1).1]; exact hg', h1, h2, hsz, htake⟩
/-- The shape of such a list that is not empty. -/
theorem Own1.op (h : Own1 w base e v us) : (v = .slice none 0 0 ∧ us = []) ∨ ∃ (g cap : Nat) (cur : Array Value), v = .slice (some ⟨g, 0, none⟩) us.length cap ∧ base ≤ g ∧ us.length ≤ cap ∧ Loc w g e cur ∧ ∀ (i : Nat) (u : Value), us[i]? = some u → cur[i]? = some u := by
 have hl := h.1
 rcases h.2 with ⟨h', hn⟩ | ⟨g', cap', cur, h', h3, hg', h1, h2, hsz, htake⟩
 ·exact .inl ⟨h', List.length_eq_zero_iff.1 hn⟩
 ·refine .inr ⟨g', cap', cur, h', h3, h1, hg', fun i u hu => ?_⟩
  have hi := (List.getElem?_eq_some_iff.1 hu).1
  rw [← htake, List.getElem?_take] at hu
  split at hu
  ·simpa using hu
  ·cases hu
end

theorem ValL.up {k j : Nat} {w : World} {X : Nat → Prop} {rs : List R4} {f : Nat → Rat} (h : ValL k w X rs f) (hj : k ≤ j) : ValL j w X rs f := fun i r hr => (h i r hr).mono hj
/-- The first d values are canonical. -/
def ValP (d : Nat) (w : World) (X : Nat → Prop) (rs : List R4) (f : Nat → Rat) : Prop := ∀ i r, i < d → rs[i]? = some r → RatV w X r.v (f i)
theorem ValP.keep {d : Nat} {w w' : World} {X : Nat → Prop} {rs : List R4} {f : Nat → Rat} (h : ValP d w X rs f) (hk : Keep X w w') : ValP d w' X rs f := fun i r hi hr => (h i r hi hr).keep hk
theorem ValP.zero (w : World) (X : Nat → Prop) (rs : List R4) (f : Nat → Rat) : ValP 0 w X rs f := fun i r hi _ => absurd hi (Nat.not_lt_zero i)
theorem ValP.set {d : Nat} {w : World} {X : Nat → Prop} {rs : List R4} {f : Nat → Rat} (h : ValP d w X rs f) {r : R4} (hr : RatV w X r.v (f d)) : ValP (d + 1) w X (rs.set d r) f := fun j q hj hq => by
 by_cases hjd : j = d
 ·subst hjd
  rw [List.getElem?_set] at hq
  split at hq
  ·split at hq
   ·injection hq with hq; subst hq; exact hr
   ·simp at hq
  ·exact absurd rfl ‹_›
 ·rw [List.getElem?_set_ne (fun e => hjd e.symm)] at hq
  exact h j q (by omega) hq
theorem ValP.all {d : Nat} {w : World} {X : Nat → Prop} {rs : List R4} {f : Nat → Rat} (h : ValP d w X rs f) (hd : rs.length = d) : ValV w X rs f := fun i r hr => h i r (by rw [← hd]; exact (List.getElem?_eq_some_iff.1 hr).1) hr

/-- One element appended. -/
theorem wp_push1 {o : Oper} {a : Act} {K : Act → World → Prop} {Q : Exit → Act → World → Prop} {t e : TypeId} {z : Value} {bytes : Nat} (w : World) (s x : Operand) (ho : o.op = .call { callee := .builtin .append, args := #[s, x], argTypes := #[t, t] })
 (ht : Tryz.prog.underlying t = some (.slice e)) (hE : (Tryz.prog.info? e).map (fun i => (i.zero, i.size, i.bytes)) = some (some z, 1, bytes)) (hzs : z.cells.size = 1) (hb : bytes ≤ 64)
 (base : Nat) (v : Value) (us : List Value) (hs : a.eval s = v) (hown : Own1 w base e v us) (H : Nat) (u : Value) (hx : a.eval x = .slice (some ⟨H, 0, none⟩) 1 1) (hH : w.heap[H]? = some (.cells #[u] e (0, 0))) (hu : u.oneCell' = true)
 (hn : us.length ≤ 1000) (hbase : base ≤ w.heap.size)
 (h : ∀ g cap w', Own1 w' base e (.slice (some ⟨g, 0, none⟩) (us.length + 1) cap) (us ++ [u]) → w.grownBy w' v.ownBlock → (v.ownBlock = some g ∨ g = w.heap.size) → g < w'.heap.size → K (a.put o.dst (.slice (some ⟨g, 0, none⟩) (us.length + 1) cap)) w') :
 Oper.wp Tryz.prog o a w K Q := by
 obtain ⟨i, hi, hz0, hz1, hz2⟩ := info_parts hE
 refine wp_append_lies w s x t ho base e i z 1 bytes ht hi hz0 hz1 hz2 hzs (by omega) v us.length us hs hown ⟨H, 0, none⟩ 1 1 [u] hx (by simp) (fun j u' hu' => World.news_of_block hH j u' (by simpa using hu')) (by simpa using hu) (by omega) (by unfold maxLen; omega) (by have := Nat.mul_le_mul (show us.length + 1 ≤ 1001 by omega) hb; omega) hbase _ rfl ?_
 intro g cap w' h1 h2 h3 h4
 refine h g cap w' ?_ h2 h3 h4
 unfold Own1
 rw [List.length_append]
 exact h1
theorem step_push1 {ops : Array Oper} {o : Oper} {a : Act} {K : Act → World → Prop} {Q : Exit → Act → World → Prop} {E : Prop} {t e : TypeId} {z : Value} {bytes : Nat} (w : World) (hgd : o.guard = none) (s x : Operand) (ho : o.op = .call { callee := .builtin .append, args := #[s, x], argTypes := #[t, t] })
 (ht : Tryz.prog.underlying t = some (.slice e)) (hE : (Tryz.prog.info? e).map (fun i => (i.zero, i.size, i.bytes)) = some (some z, 1, bytes)) (hzs : z.cells.size = 1) (hb : bytes ≤ 64)
 (base : Nat) (v : Value) (us : List Value) (hs : a.eval s = v) (hown : Own1 w base e v us) (H : Nat) (u : Value) (hx : a.eval x = .slice (some ⟨H, 0, none⟩) 1 1) (hH : w.heap[H]? = some (.cells #[u] e (0, 0))) (hu : u.oneCell' = true)
 (hn : us.length ≤ 1000) (hbase : base ≤ w.heap.size)
 (h : ∀ g cap w', Own1 w' base e (.slice (some ⟨g, 0, none⟩) (us.length + 1) cap) (us ++ [u]) → w.grownBy w' v.ownBlock → (v.ownBlock = some g ∨ g = w.heap.size) → g < w'.heap.size → K (a.put o.dst (.slice (some ⟨g, 0, none⟩) (us.length + 1) cap)) w') :
 if Region.wanted o (yielded ops a.tmps) = true then Oper.wp Tryz.prog o a w K Q else E := by
 have hw : Region.wanted o (yielded ops a.tmps) = true := by simp [Region.wanted, hgd]
 rw [if_pos hw]
 exact wp_push1 w s x ho ht hE hzs hb base v us hs hown H u hx hH hu hn hbase h

theorem info_int1 : (Tryz.prog.info? 3).map (fun i => (i.zero, i.size, i.bytes)) = some (some (.int .i64 0), 1, 8) := by kernel_rfl
theorem info_list1 : (Tryz.prog.info? 55).map (fun i => (i.zero, i.size, i.bytes)) = some (some (.slice none 0 0), 1, 24) := by kernel_rfl
end Go.Proofs.YtdambnieminnfaaGreat

/- What the tableau tells: points, Farkas vectors, optima, rays. -/
namespace Go.Proofs.YtdambnieminnfaaGreat

/-- The cost of the first phase: the sum of the artificial unknowns. -/
def d1 (m n : Nat) : Nat → Rat := fun c => if n ≤ c ∧ c < n + m then 1 else 0
/-- The cost of the second phase. -/
def d2 (n : Nat) (k : Nat → Rat) : Nat → Rat := fun c => if c < n then k c else 0
/-- The basic solution. -/
def pt (m n : Nat) (S : St) : Nat → Rat := fun j => sm m (fun i => if S.b i = j then S.T i (n + m) else 0)
/-- The dual vector of the tableau. -/
def du (m n : Nat) (d : Nat → Rat) (S : St) : Nat → Rat := fun l => d (n + l) - rho m d S.T S.b (n + l)
/-- Basic artificial unknowns are 0. -/
def Zer (m n : Nat) (S : St) : Prop := ∀ i, i < m → n ≤ S.b i → S.T i (n + m) = 0
/-- So are the first k rows' coefficients where an artificial unknown is basic. -/
def Non (m n k : Nat) (S : St) : Prop := ∀ i, i < k → i < m → n ≤ S.b i → ∀ j, j < n → S.T i j = 0

section
variable {m n k : Nat} {T0 : Nat → Nat → Rat} {d : Nat → Rat} {S : St}

theorem Good.dual (G : Good m n T0 S.T S.b) {c : Nat} (hc : c ≤ n + m) : rho m d S.T S.b c = d c - sm m (fun l => du m n d S l * T0 l c) := by
 have e : ∀ l, du m n d S l = sm m (fun i => d (S.b i) * S.T i (n + l)) := fun l => by unfold du rho; grind
 have e2 : sm m (fun l => du m n d S l * T0 l c) = sm m (fun i => d (S.b i) * S.T i c) := by
  rw [sm_congr (g := fun l => sm m (fun i => d (S.b i) * (S.T i (n + l) * T0 l c))) (fun l _ => by
   rw [e l, Rat.mul_comm, ← sm_mul]
   exact sm_congr (fun i _ => by grind)), sm_swap]
  exact sm_congr (fun i hi => by rw [sm_mul, ← G.fw i hi c hc])
 rw [e2]; rfl

/-- A sum over the columns below n that are basic. -/
theorem pick (b : Nat → Nat) (x v : Nat → Rat) (n m : Nat) : sm n (fun j => v j * sm m (fun i => if b i = j then x i else 0)) = sm m (fun i => if b i < n then v (b i) * x i else 0) := by
 rw [sm_congr (g := fun j => sm m (fun i => v j * (if b i = j then x i else 0))) (fun j _ => by rw [sm_mul]), sm_swap]
 refine sm_congr (fun i _ => ?_)
 by_cases h : b i < n
 ·rw [if_pos h, sm_one _ (b i) h (fun j _ hne => by rw [if_neg (fun e => hne e.symm)]; grind), if_pos rfl]
 ·rw [if_neg h]
  exact sm_zero (fun j hj => by rw [if_neg (by omega)]; grind)

theorem pt_nonneg (hF : Feas m n S) (j : Nat) : 0 ≤ pt m n S j := sm_nonneg (fun i hi => by
 by_cases h : S.b i = j
 ·rw [if_pos h]; exact hF i hi
 ·rw [if_neg h]; exact Rat.le_refl)

theorem pt_solves (G : Good m n T0 S.T S.b) (hZ : Zer m n S) {l : Nat} (hl : l < m) : sm n (fun j => T0 l j * pt m n S j) = T0 l (n + m) := by
 unfold pt
 rw [pick, G.bw l hl (n + m) (Nat.le_refl _)]
 refine sm_congr (fun i hi => ?_)
 by_cases h : S.b i < n
 ·rw [if_pos h]
 ·rw [if_neg h, hZ i hi (by omega)]; grind

/-! The first phase. -/
theorem d1_right : d1 m n (n + m) = 0 := by unfold d1; rw [if_neg (by omega)]
theorem d1_nonneg (c : Nat) : 0 ≤ d1 m n c := by unfold d1; split <;> decide
theorem p1_le (hF : Feas m n S) : rho m (d1 m n) S.T S.b (n + m) ≤ 0 := by
 have : 0 ≤ sm m (fun i => d1 m n (S.b i) * S.T i (n + m)) := sm_nonneg (fun i hi => Rat.mul_nonneg (d1_nonneg _) (hF i hi))
 unfold rho
 rw [d1_right]; grind
theorem p1_zero (G : Good m n T0 S.T S.b) (hF : Feas m n S) (h : rho m (d1 m n) S.T S.b (n + m) = 0) : Zer m n S := fun i hi hb => by
 unfold rho at h
 rw [d1_right] at h
 have h2 := sm_zero_all (m := m) (f := fun i => d1 m n (S.b i) * S.T i (n + m)) (fun i hi => Rat.mul_nonneg (d1_nonneg _) (hF i hi)) (by grind) i hi
 have h3 : d1 m n (S.b i) = 1 := by unfold d1; rw [if_pos ⟨hb, G.lt i hi⟩]
 rw [h3] at h2
 grind
/-- The first phase is bounded. -/
theorem p1_bound {j : Nat} (hj : In m n (d1 m n) S j) : ∃ i, i < m ∧ 0 < S.T i j := by
 have h0 : d1 m n j = 0 := by unfold d1; rw [if_neg (by have := hj.1; omega)]
 have h1 := hj.2.1
 unfold rho at h1
 rw [h0] at h1
 obtain ⟨i, hi, hp⟩ := sm_pos (m := m) (f := fun i => d1 m n (S.b i) * S.T i j) (by grind)
 exact ⟨i, hi, pos_of_mul (d1_nonneg _) hp⟩

/-! Between the phases. -/
theorem Zer.at (hZ : Zer m n S) {r j : Nat} (hr : r < m) (h0 : S.T r (n + m) = 0) : Zer m n (S.at r j) ∧ ∀ i, (S.at r j).T i (n + m) = if i = r then 0 else S.T i (n + m) := by
 have e : ∀ i, (S.at r j).T i (n + m) = if i = r then 0 else S.T i (n + m) := fun i => by
  show piv S.T r j i (n + m) = _
  unfold piv
  rw [h0]
  by_cases h : i = r
  ·rw [if_pos h, if_pos h]; grind
  ·rw [if_neg h, if_neg h]; grind
 refine ⟨fun i hi hb => ?_, e⟩
 rw [e]
 by_cases h : i = r
 ·rw [if_pos h]
 ·rw [if_neg h]
  refine hZ i hi ?_
  have : (S.at r j).b i = S.b i := by show bup S.b r j i = _; unfold bup; rw [if_neg h]
  rw [this] at hb; exact hb
theorem Non.at (hN : Non m n k S) {r j : Nat} (hj : j < n) : Non m n k (S.at r j) := fun i hk hi hb c hc => by
 have hir : i ≠ r := fun h => by
  have : (S.at r j).b i = j := by show bup S.b r j i = _; unfold bup; rw [if_pos h]
  omega
 have hb' : (S.at r j).b i = S.b i := by show bup S.b r j i = _; unfold bup; rw [if_neg hir]
 rw [hb'] at hb
 show piv S.T r j i c = 0
 unfold piv
 rw [if_neg hir, hN i hk hi hb c hc, hN i hk hi hb j hj]; grind
theorem Non.succ (hN : Non m n k S) (h : n ≤ S.b k → ∀ j, j < n → S.T k j = 0) : Non m n (k + 1) S := fun i hk hi hb c hc => by
 by_cases he : i = k
 ·subst he; exact h hb c hc
 ·exact hN i (by omega) hi hb c hc
/-- The second phase keeps both. -/
theorem Zer.bl (hZ : Zer m n S) {r j : Nat} (hN : Non m n m S) (hj : j < n) : Zer m n (S.at r j) := fun i hi hb => by
 have hir : i ≠ r := fun h => by
  have : (S.at r j).b i = j := by show bup S.b r j i = _; unfold bup; rw [if_pos h]
  omega
 have hb' : (S.at r j).b i = S.b i := by show bup S.b r j i = _; unfold bup; rw [if_neg hir]
 rw [hb'] at hb
 show piv S.T r j i (n + m) = 0
 unfold piv
 rw [if_neg hir, hZ i hi hb, hN i hi hi hb j hj]; grind

/-! The ray. -/
end
end Go.Proofs.YtdambnieminnfaaGreat

