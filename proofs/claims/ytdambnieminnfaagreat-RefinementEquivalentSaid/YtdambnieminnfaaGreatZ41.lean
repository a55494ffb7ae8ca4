/- Contracts of the functions that the statements reach, part 41. -/
import Derived.Test.YtdambnieminnfaaGreatRows
import Derived.Test.YtdambnieminnfaaGreatZ18
import Derived.Test.YtdambnieminnfaaGreatZ40
set_option linter.unusedSimpArgs false
set_option linter.unusedVariables false

/- Mutual refinement, plainly: two channels refine each other exactly if in each direction their columns' sums agree. -/
namespace Go.Proofs.YtdambnieminnfaaGreat

/-- A column's sum. -/
def cs (m : Nat) (C : Nat → Nat → Rat) (y : Nat) : Rat := sm m (fun x => C x y)
def en2 (m : Nat) (C : Nat → Nat → Rat) (y : Nat) : Rat := sm m (fun x => C x y * C x y / cs m C y)
def vz (m : Nat) (C D : Nat → Nat → Rat) (y z : Nat) : Rat := sm m (fun x => (C x y - cs m C y * (D x z / cs m D z)) * (C x y - cs m C y * (D x z / cs m D z)) / cs m C y)
theorem sq_nonneg (a : Rat) : 0 ≤ a * a := by
 by_cases h : 0 ≤ a
 ·exact Rat.mul_nonneg h h
 ·have : 0 ≤ (-a) * (-a) := Rat.mul_nonneg (by grind) (by grind)
  grind
theorem div_nonneg' {a b : Rat} (ha : 0 ≤ a) (hb : 0 ≤ b) : 0 ≤ a / b := by
 rw [Rat.div_def]
 refine Rat.mul_nonneg ha ?_
 by_cases h : b = 0
 ·subst h; rw [Rat.inv_zero]; exact Rat.le_refl
 ·have := Rat.inv_pos.2 (show (0 : Rat) < b by grind)
  grind
section
variable {m n k : Nat} {C D W V : Nat → Nat → Rat} {p q : Rat}
theorem cs_nonneg {y : Nat} (h : ∀ x, x < m → 0 ≤ C x y) : 0 ≤ cs m C y := sm_nonneg h
theorem cs_zero {y : Nat} (h : ∀ x, x < m → 0 ≤ C x y) (h0 : cs m C y = 0) : ∀ x, x < m → C x y = 0 := sm_zero_all h h0
theorem vz_nonneg {y z : Nat} (h : ∀ x, x < m → 0 ≤ C x y) : 0 ≤ vz m C D y z := sm_nonneg (fun x _ => div_nonneg' (sq_nonneg _) (cs_nonneg h))
theorem vz_eq {y z : Nat} (h : ∀ x, x < m → 0 ≤ C x y) : vz m C D y z = en2 m C y - 2 * sm m (fun x => C x y * (D x z / cs m D z)) + cs m C y * sm m (fun x => (D x z / cs m D z) * (D x z / cs m D z)) := by
 unfold vz en2
 rw [← sm_mul, ← sm_mul, ← sm_sub, ← sm_add]
 refine sm_congr (fun x hx => ?_)
 by_cases h0 : cs m C y = 0
 ·rw [h0, cs_zero h h0 x hx]; grind
 ·obtain ⟨s, hs⟩ : ∃ s, cs m C y = s := ⟨_, rfl⟩
  obtain ⟨u, hu⟩ : ∃ s, D x z / cs m D z = s := ⟨_, rfl⟩
  rw [hs] at h0
  rw [hs, hu]
  grind
theorem mix_eq {z : Nat} (hC : Chan m n C p) (hD : Chan m k D q) (hW : Wit m n k C p D q W) (hz : z < k) : q * sm n (fun y => W y z * vz m C D y z) = q * sm n (fun y => W y z * en2 m C y) - p * en2 m D z := by
 obtain ⟨u, hu⟩ : ∃ u : Nat → Rat, (fun x => D x z / cs m D z) = u := ⟨_, rfl⟩
 have hux : ∀ x, D x z / cs m D z = u x := fun x => by rw [← hu]
 have e1 : sm n (fun y => W y z * vz m C D y z) = sm n (fun y => W y z * en2 m C y) - 2 * sm n (fun y => sm m (fun x => u x * (C x y * W y z))) + sm n (fun y => sm m (fun x => C x y * W y z)) * sm m (fun x => u x * u x) := by
  rw [← sm_mul, ← sm_sub, ← sm_mul_right, ← sm_add]
  refine sm_congr (fun y hy => ?_)
  rw [vz_eq (fun x hx => hC.non x hx y hy)]
  have a1 : sm m (fun x => u x * (C x y * W y z)) = sm m (fun x => C x y * (D x z / cs m D z)) * W y z := by
   rw [← sm_mul_right]
   exact sm_congr (fun x _ => by rw [hux]; grind)
  have a2 : sm m (fun x => C x y * W y z) = cs m C y * W y z := by unfold cs; rw [← sm_mul_right]
  have a3 : sm m (fun x => (D x z / cs m D z) * (D x z / cs m D z)) = sm m (fun x => u x * u x) := sm_congr (fun x _ => by rw [hux])
  rw [a1, a2, a3]
  grind
 have e2 : q * sm n (fun y => sm m (fun x => u x * (C x y * W y z))) = p * sm m (fun x => u x * D x z) := by
  rw [sm_swap, ← sm_mul, ← sm_mul]
  refine sm_congr (fun x hx => ?_)
  have := hW.eq x hx z hz
  rw [sm_mul]
  grind
 have e3 : q * sm n (fun y => sm m (fun x => C x y * W y z)) = p * cs m D z := by
  rw [sm_swap, ← sm_mul]
  unfold cs
  rw [← sm_mul]
  exact sm_congr (fun x hx => hW.eq x hx z hz)
 have e4 : 2 * sm m (fun x => u x * D x z) - cs m D z * sm m (fun x => u x * u x) = en2 m D z := by
  unfold en2
  rw [← sm_mul, ← sm_mul, ← sm_sub]
  refine sm_congr (fun x hx => ?_)
  by_cases h0 : cs m D z = 0
  ·have := cs_zero (fun x hx => hD.non x hx z hz) h0 x hx
   rw [← hux, h0, this]; grind
  ·rw [← hux]
   obtain ⟨s, hs⟩ : ∃ s, cs m D z = s := ⟨_, rfl⟩
   rw [hs] at h0 ⊢
   grind
 rw [e1]
 obtain ⟨X, hX⟩ : ∃ X, sm n (fun y => sm m (fun x => u x * (C x y * W y z))) = X := ⟨_, rfl⟩
 obtain ⟨Y, hY⟩ : ∃ X, sm n (fun y => sm m (fun x => C x y * W y z)) = X := ⟨_, rfl⟩
 obtain ⟨Z, hZ⟩ : ∃ X, sm m (fun x => u x * u x) = X := ⟨_, rfl⟩
 obtain ⟨Q, hQ⟩ : ∃ X, sm m (fun x => u x * D x z) = X := ⟨_, rfl⟩
 rw [hX, hY, hZ]
 rw [hX, hQ] at e2
 rw [hY] at e3
 rw [hQ, hZ] at e4
 have e5 : q * (Y * Z) = p * (cs m D z * Z) := by rw [← Rat.mul_assoc, e3, Rat.mul_assoc]
 rw [← e4]
 grind
/-- The sum of the columns' squares. -/
def pot (m n : Nat) (C : Nat → Nat → Rat) : Rat := sm n (en2 m C)
theorem pot_eq (hC : Chan m n C p) (hD : Chan m k D q) (hW : Wit m n k C p D q W) : q * sm k (fun z => sm n (fun y => W y z * vz m C D y z)) = q * pot m n C - p * pot m k D := by
 rw [← sm_mul, sm_congr (g := fun z => q * sm n (fun y => W y z * en2 m C y) - p * en2 m D z) (fun z hz => mix_eq hC hD hW hz), sm_sub, sm_mul, sm_mul, sm_swap (fun z y => W y z * en2 m C y)]
 unfold pot
 rw [sm_congr (g := fun y => en2 m C y) (fun y hy => by rw [sm_mul_right, hW.one y hy]; grind)]
theorem pot_nonneg (hC : Chan m n C p) (hW : Wit m n k C p D q W) : 0 ≤ sm k (fun z => sm n (fun y => W y z * vz m C D y z)) :=
 sm_nonneg (fun z hz => sm_nonneg (fun y hy => Rat.mul_nonneg (hW.non y hy z hz) (vz_nonneg (fun x hx => hC.non x hx y hy))))
/-- Where the channels refine each other, mass moves only between parallel columns. -/
theorem par_of_mutual (hC : Chan m n C p) (hD : Chan m k D q) (hW : Wit m n k C p D q W) (hV : Wit m k n D q C p V) {y z : Nat} (hy : y < n) (hz : z < k) (h0 : W y z ≠ 0) (hs : cs m C y ≠ 0) :
 cs m D z ≠ 0 ∧ ∀ x, x < m → C x y * cs m D z = D x z * cs m C y := by
 have p1 := pot_eq hC hD hW
 have p2 := pot_eq hD hC hV
 have n1 := pot_nonneg hC hW
 have n2 := pot_nonneg hD hV
 have hq := hD.pos
 have hp := hC.pos
 have m1 := Rat.mul_nonneg (by grind : 0 ≤ q) n1
 have m2 := Rat.mul_nonneg (by grind : 0 ≤ p) n2
 have z1 : sm k (fun z => sm n (fun y => W y z * vz m C D y z)) = 0 := by
  have : q * sm k (fun z => sm n (fun y => W y z * vz m C D y z)) = 0 := by grind
  have hq0 : q ≠ 0 := by grind
  grind
 have z2 := sm_zero_all (fun z hz => sm_nonneg (fun y hy => Rat.mul_nonneg (hW.non y hy z hz) (vz_nonneg (fun x hx => hC.non x hx y hy)))) z1 z hz
 have z3 := sm_zero_all (fun y hy => Rat.mul_nonneg (hW.non y hy z hz) (vz_nonneg (D := D) (z := z) (fun x hx => hC.non x hx y hy))) z2 y hy
 have z4 : vz m C D y z = 0 := by grind
 have hs0 : 0 ≤ cs m C y := cs_nonneg (fun x hx => hC.non x hx y hy)
 have z5 : ∀ x, x < m → C x y = cs m C y * (D x z / cs m D z) := fun x hx => by
  have := sm_zero_all (fun x _ => div_nonneg' (sq_nonneg (C x y - cs m C y * (D x z / cs m D z))) hs0) z4 x hx
  obtain ⟨a, ha⟩ : ∃ a, C x y - cs m C y * (D x z / cs m D z) = a := ⟨_, rfl⟩
  rw [ha] at this
  have h2 : a * a = 0 := by grind
  have h3 : a = 0 := by grind
  grind
 have ht : cs m D z ≠ 0 := fun ht => by
  refine hs ?_
  unfold cs
  exact sm_zero (fun x hx => by rw [z5 x hx, ht]; grind)
 refine ⟨ht, fun x hx => ?_⟩
 rw [z5 x hx]
 grind
/-- Two columns are parallel. -/
def Par (m : Nat) (u v : Nat → Rat) : Prop := ∀ i, i < m → ∀ j, j < m → u i * v j = u j * v i
theorem Par.symm {u v : Nat → Rat} (h : Par m u v) : Par m v u := fun i hi j hj => by have := h i hi j hj; grind
theorem Par.trans {u v w : Nat → Rat} (h : Par m u v) (h' : Par m v w) (hv : ∃ i, i < m ∧ v i ≠ 0) : Par m u w := fun i hi j hj => by
 obtain ⟨l, hl, hne⟩ := hv
 have a := h i hi l hl
 have b := h j hj l hl
 have c := h' l hl i hi
 have d := h' l hl j hj
 -- u i = (u l / v l) v i, w j = (w l / v l) v j
 have e : v l * (v l * (u i * w j)) = v l * (v l * (u j * w i)) := by
  have e1 : v l * u i * (v l * w j) = u l * v i * (v j * w l) := by grind
  have e2 : v l * u j * (v l * w i) = u l * v j * (v i * w l) := by grind
  grind
 grind
theorem par_cs {y z : Nat} (h : ∀ x, x < m → C x y * cs m D z = D x z * cs m C y) (hs : cs m C y ≠ 0) (ht : cs m D z ≠ 0) : Par m (fun x => C x y) (fun x => D x z) := fun i hi j hj => by
 have a := h i hi
 have b := h j hj
 dsimp only
 grind
theorem cs_of_par {y z : Nat} (h : Par m (fun x => C x y) (fun x => D x z)) : ∀ x, x < m → C x y * cs m D z = D x z * cs m C y := fun x hx => by
 unfold cs
 rw [← sm_mul, ← sm_mul]
 exact sm_congr (fun j hj => by have := h x hx j hj; dsimp only at this; grind)
theorem cs_ne {y : Nat} (hs : cs m C y ≠ 0) : ∃ i, i < m ∧ C i y ≠ 0 := by
 by_cases h : ∃ i, i < m ∧ C i y ≠ 0
 ·exact h
 ·refine absurd ?_ hs
  unfold cs
  refine sm_zero (fun i hi => ?_)
  by_cases h0 : C i y = 0
  ·exact h0
  ·exact absurd ⟨i, hi, h0⟩ h
open Classical in
/-- The sum of the columns in a direction. -/
noncomputable def dirS (m n : Nat) (C : Nat → Nat → Rat) (v : Nat → Rat) (x : Nat) : Rat := sm n (fun y => if cs m C y ≠ 0 ∧ Par m (fun x => C x y) v then C x y else 0)
open Classical in
theorem dir_eq (hC : Chan m n C p) (hD : Chan m k D q) (hW : Wit m n k C p D q W) (hV : Wit m k n D q C p V) {v : Nat → Rat} (hv : ∃ i, i < m ∧ v i ≠ 0) {x : Nat} (hx : x < m) : q * dirS m n C v x = p * dirS m k D v x := by
 unfold dirS
 have e1 : p * sm k (fun z => if cs m D z ≠ 0 ∧ Par m (fun x => D x z) v then D x z else 0) = q * sm n (fun y => sm k (fun z => if cs m D z ≠ 0 ∧ Par m (fun x => D x z) v then C x y * W y z else 0)) := by
  rw [sm_swap, ← sm_mul, ← sm_mul]
  refine sm_congr (fun z hz => ?_)
  have := hW.eq x hx z hz
  by_cases hc : cs m D z ≠ 0 ∧ Par m (fun x => D x z) v
  ·rw [if_pos hc, sm_congr (g := fun y => C x y * W y z) (fun y _ => by rw [if_pos hc])]
   exact this.symm
  ·rw [if_neg hc, sm_zero (f := fun y => if cs m D z ≠ 0 ∧ Par m (fun x => D x z) v then C x y * W y z else 0) (fun y _ => by rw [if_neg hc])]
   grind
 rw [e1]
 congr 1
 refine sm_congr (fun y hy => ?_)
 by_cases hs : cs m C y = 0
 ·have hz := cs_zero (fun x hx => hC.non x hx y hy) hs x hx
  rw [if_neg (fun h => h.1 hs), sm_zero (fun z _ => by rw [hz]; split <;> grind)]
 ·by_cases hc : Par m (fun x => C x y) v
  ·rw [if_pos ⟨hs, hc⟩, sm_congr (g := fun z => C x y * W y z) (fun z hz => ?_), sm_mul, hW.one y hy]
   ·grind
   ·by_cases hw : W y z = 0
    ·rw [hw]; split <;> grind
    ·obtain ⟨ht, hpar⟩ := par_of_mutual hC hD hW hV hy hz hw hs
     rw [if_pos ⟨ht, (par_cs hpar hs ht).symm.trans hc (cs_ne hs)⟩]
  ·rw [if_neg (fun h => hc h.2), sm_zero (fun z hz => ?_)]
   by_cases hw : W y z = 0
   ·rw [hw]; split <;> grind
   ·obtain ⟨ht, hpar⟩ := par_of_mutual hC hD hW hV hy hz hw hs
    rw [if_neg (fun h => hc ((par_cs hpar hs ht).trans h.2 (cs_ne ht)))]
open Classical in
/-- Where the sums agree in each direction, the second refines the first. -/
theorem wit_of_dir (hC : Chan m n C p) (hD : Chan m k D q) (h : ∀ v : Nat → Rat, (∃ i, i < m ∧ v i ≠ 0) → ∀ x, x < m → q * dirS m n C v x = p * dirS m k D v x) : ∃ W, Wit m n k C p D q W := by
 have hp := hC.pos
 have hq := hD.pos
 obtain ⟨T, hT⟩ : ∃ T : (Nat → Rat) → Rat, (fun v => sm m (dirS m k D v)) = T := ⟨_, rfl⟩
 have hTv : ∀ v, T v = sm k (fun z => if cs m D z ≠ 0 ∧ Par m (fun x => D x z) v then cs m D z else 0) := fun v => by
  rw [← hT]
  dsimp only
  unfold dirS
  rw [sm_swap]
  refine sm_congr (fun z _ => ?_)
  by_cases hc : cs m D z ≠ 0 ∧ Par m (fun x => D x z) v
  ·rw [if_pos hc, sm_congr (g := fun x => D x z) (fun x _ => by rw [if_pos hc])]; rfl
  ·rw [if_neg hc, sm_zero (fun x _ => by rw [if_neg hc])]
 have hTs : ∀ v, (∃ i, i < m ∧ v i ≠ 0) → p * T v = q * sm n (fun y => if cs m C y ≠ 0 ∧ Par m (fun x => C x y) v then cs m C y else 0) := fun v hv => by
  rw [← hT]
  dsimp only
  rw [← sm_mul, sm_congr (g := fun x => q * dirS m n C v x) (fun x hx => (h v hv x hx).symm), sm_mul]
  unfold dirS
  rw [sm_swap]
  congr 1
  refine sm_congr (fun y _ => ?_)
  by_cases hc : cs m C y ≠ 0 ∧ Par m (fun x => C x y) v
  ·rw [if_pos hc, sm_congr (g := fun x => C x y) (fun x _ => by rw [if_pos hc])]; rfl
  ·rw [if_neg hc, sm_zero (fun x _ => by rw [if_neg hc])]
 have hTpos : ∀ y, y < n → cs m C y ≠ 0 → T (fun x => C x y) ≠ 0 := fun y hy hs h0 => by
  have e := hTs (fun x => C x y) (cs_ne hs)
  rw [h0] at e
  have e2 : sm n (fun y' => if cs m C y' ≠ 0 ∧ Par m (fun x => C x y') (fun x => C x y) then cs m C y' else 0) = 0 := by
   have hq0 : q ≠ 0 := by grind
   grind
  have := sm_zero_all (fun y' hy' => by
   split
   ·exact cs_nonneg (fun x hx => hC.non x hx y' hy')
   ·exact Rat.le_refl) e2 y hy
  (try dsimp only at this)
  rw [if_pos ⟨hs, fun i _ j _ => by (try dsimp only); grind⟩] at this
  exact hs this
 refine ⟨fun y z => if cs m C y = 0 then (if z = 0 then 1 else 0) else if cs m D z ≠ 0 ∧ Par m (fun x => D x z) (fun x => C x y) then cs m D z / T (fun x => C x y) else 0, fun y hy z hz => ?_, fun y hy => ?_, fun x hx z hz => ?_⟩
 ·(try dsimp only)
  split
  ·split <;> grind
  ·split
   ·refine div_nonneg' (cs_nonneg (fun x hx => hD.non x hx z hz)) ?_
    rw [hTv]
    exact sm_nonneg (fun z hz => by
     split
     ·exact cs_nonneg (fun x hx => hD.non x hx z hz)
     ·exact Rat.le_refl)
   ·exact Rat.le_refl
 ·(try dsimp only)
  by_cases hs : cs m C y = 0
  ·rw [sm_congr (g := fun z => if z = 0 then 1 else 0) (fun z _ => by rw [if_pos hs]), sm_one _ 0 hD.n1 (fun i _ hi => by rw [if_neg hi]), if_pos rfl]
  ·have hne := hTpos y hy hs
   rw [sm_congr (g := fun z => (if cs m D z ≠ 0 ∧ Par m (fun x => D x z) (fun x => C x y) then cs m D z else 0) * (T (fun x => C x y))⁻¹) (fun z _ => by
    rw [if_neg hs]
    split
    ·rw [Rat.div_def]
    ·grind), sm_mul_right, ← hTv]
   exact Rat.mul_inv_cancel _ hne
 ·by_cases ht : cs m D z = 0
  ·have hd := cs_zero (fun x hx => hD.non x hx z hz) ht x hx
   rw [hd, sm_zero (fun y hy => ?_)]
   ·grind
   ·by_cases hs : cs m C y = 0
    ·rw [cs_zero (fun x hx => hC.non x hx y hy) hs x hx]; grind
    ·rw [if_neg hs, if_neg (fun h => h.1 ht)]; grind
  ·obtain ⟨v, hv⟩ : ∃ v : Nat → Rat, (fun x => D x z) = v := ⟨_, rfl⟩
   have hvn : ∃ i, i < m ∧ v i ≠ 0 := by rw [← hv]; exact cs_ne ht
   have hTT : ∀ y, y < n → cs m C y ≠ 0 → Par m v (fun x => C x y) → T (fun x => C x y) = T v := fun y hy hs hp2 => by
    rw [hTv, hTv]
    refine sm_congr (fun z' _ => ?_)
    by_cases hc : cs m D z' ≠ 0 ∧ Par m (fun x => D x z') v
    ·rw [if_pos hc, if_pos ⟨hc.1, hc.2.trans hp2 hvn⟩]
    ·rw [if_neg hc, if_neg (fun h => hc ⟨h.1, h.2.trans hp2.symm (cs_ne hs)⟩)]
   have hTv0 : T v ≠ 0 := fun h0 => by
    rw [hTv] at h0
    have := sm_zero_all (fun z' hz' => by
     split
     ·exact cs_nonneg (fun x hx => hD.non x hx z' hz')
     ·exact Rat.le_refl) h0 z hz
    (try dsimp only at this)
    rw [if_pos ⟨ht, by rw [hv]; exact fun i _ j _ => by grind⟩] at this
    exact ht this
   have e1 : sm n (fun y => C x y * (if cs m C y = 0 then (if z = 0 then 1 else 0) else if cs m D z ≠ 0 ∧ Par m (fun x => D x z) (fun x => C x y) then cs m D z / T (fun x => C x y) else 0)) = dirS m n C v x * (cs m D z / T v) := by
    unfold dirS
    rw [← sm_mul_right]
    refine sm_congr (fun y hy => ?_)
    by_cases hs : cs m C y = 0
    ·rw [cs_zero (fun x hx => hC.non x hx y hy) hs x hx, if_neg (fun h : cs m C y ≠ 0 ∧ Par m (fun x => C x y) v => h.1 hs)]; grind
    ·rw [if_neg hs, hv]
     by_cases hc : Par m v (fun x => C x y)
     ·rw [if_pos ⟨ht, hc⟩, if_pos ⟨hs, hc.symm⟩, hTT y hy hs hc]
     ·rw [if_neg (fun h : cs m D z ≠ 0 ∧ Par m v (fun x => C x y) => hc h.2), if_neg (fun h : cs m C y ≠ 0 ∧ Par m (fun x => C x y) v => hc h.2.symm)]; grind
   have e2 : dirS m k D v x * cs m D z = T v * D x z := by
    rw [hTv]
    unfold dirS
    rw [← sm_mul_right, ← sm_mul_right]
    refine sm_congr (fun z' hz' => ?_)
    by_cases hc : cs m D z' ≠ 0 ∧ Par m (fun x => D x z') v
    ·rw [if_pos hc, if_pos hc]
     have := cs_of_par (C := D) (D := D) (y := z') (z := z) (by rw [hv]; exact hc.2) x hx
     grind
    ·rw [if_neg hc, if_neg hc]; grind
   have e3 := h v hvn x hx
   rw [e1]
   obtain ⟨S, hS⟩ : ∃ S, dirS m n C v x = S := ⟨_, rfl⟩
   obtain ⟨S', hS'⟩ : ∃ S, dirS m k D v x = S := ⟨_, rfl⟩
   rw [hS] at e3 ⊢
   rw [hS'] at e2 e3
   have e4 : q * (S * (cs m D z / T v)) = p * (S' * cs m D z) / T v := by
    rw [Rat.div_def, Rat.div_def]
    grind
   rw [e4, e2]
   grind
end

/- A channel observed through another one, plainly. -/

section
variable {L1 L2 : List (List Int)}
end

/- The reduced form of a channel, plainly. -/

def lv (l : List Int) : Nat → Rat := fun x => ((l.getD x 0 : Int) : Rat)
def sumL : List (List Int) → Nat → Rat
 | [], _ => 0
 | l :: o, x => lv l x + sumL o x
theorem sumL_app (a b : List (List Int)) (x : Nat) : sumL (a ++ b) x = sumL a x + sumL b x := by
 induction a with
 | nil => simp only [List.nil_append, sumL]; grind
 | cons l a ih => simp only [List.cons_append, sumL]; rw [ih]; grind
theorem sumL_set : ∀ (out : List (List Int)) (k : Nat) (l l' : List Int) (x : Nat), out[k]? = some l → sumL (out.set k l') x = sumL out x - lv l x + lv l' x
 | [], _, _, _, _, h => by simp at h
 | a :: out, 0, l, l', x, h => by
   simp at h
   subst h
   simp only [List.set_cons_zero, sumL]; grind
 | a :: out, k + 1, l, l', x, h => by
   simp at h
   simp only [List.set_cons_succ, sumL]
   rw [sumL_set out k l l' x h]; grind
theorem sumL_perm {a b : List (List Int)} (h : a.Perm b) (x : Nat) : sumL a x = sumL b x := by
 induction h with
 | nil => rfl
 | cons l _ ih => simp only [sumL]; rw [ih]
 | swap l l' o => simp only [sumL]; grind
 | trans _ _ ih1 ih2 => rw [ih1, ih2]
theorem sumL_map (g : Rat) (f : List Int → List Int) (x : Nat) : ∀ (out : List (List Int)), (∀ l ∈ out, lv l x = g * lv (f l) x) → sumL out x = g * sumL (out.map f) x
 | [], _ => by simp only [List.map_nil, sumL]; grind
 | l :: o, h => by
   simp only [List.map_cons, sumL]
   rw [sumL_map g f x o (fun l hl => h l (List.mem_cons_of_mem _ hl)), h l List.mem_cons_self]; grind
structure GI (m : Nat) (C : Nat → Nat → Rat) (n : Nat) (out : List (List Int)) : Prop where
 len : ∀ l ∈ out, l.length = m
 nn : ∀ l ∈ out, ∀ z ∈ l, 0 ≤ z
 nz : ∀ l ∈ out, ∃ x, x < m ∧ lv l x ≠ 0
 pw : out.Pairwise (fun a b => ¬ Par m (lv a) (lv b))
 sum : ∀ l ∈ out, ∀ x, x < m → lv l x = dirS m n C (lv l) x
 cov : ∀ y, y < n → cs m C y ≠ 0 → ∃ l ∈ out, Par m (fun x => C x y) (lv l)
 tot : ∀ x, x < m → sumL out x = sm n (fun y => C x y)
section
variable {m n : Nat} {C : Nat → Nat → Rat} {out : List (List Int)} {c l : List Int} {v v' : Nat → Rat}
theorem lv_nonneg (h : ∀ z ∈ l, 0 ≤ z) (x : Nat) : 0 ≤ lv l x := by
 unfold lv
 rw [List.getD_eq_getElem?_getD]
 by_cases hx : x < l.length
 ·rw [List.getElem?_eq_getElem hx]
  exact Rat.intCast_nonneg.2 (h _ (List.getElem_mem hx))
 ·rw [List.getElem?_eq_none (by omega)]
  exact Rat.le_refl
open Classical in
theorem dirS_congr (h : Par m v v') (h1 : ∃ i, i < m ∧ v i ≠ 0) (h2 : ∃ i, i < m ∧ v' i ≠ 0) (x : Nat) : dirS m n C v x = dirS m n C v' x := by
 unfold dirS
 refine sm_congr (fun y _ => ?_)
 by_cases hc : cs m C y ≠ 0 ∧ Par m (fun x => C x y) v
 ·rw [if_pos hc, if_pos ⟨hc.1, hc.2.trans h h1⟩]
 ·rw [if_neg hc, if_neg (fun e : cs m C y ≠ 0 ∧ Par m (fun x => C x y) v' => hc ⟨e.1, e.2.trans h.symm h2⟩)]
open Classical in
theorem dirS_succ (v : Nat → Rat) (x : Nat) : dirS m (n + 1) C v x = dirS m n C v x + (if cs m C n ≠ 0 ∧ Par m (fun x => C x n) v then C x n else 0) := rfl
open Classical in
theorem dirS_zero (h : ∀ y, y < n → cs m C y ≠ 0 → ¬ Par m (fun x => C x y) v) (x : Nat) : dirS m n C v x = 0 := by
 unfold dirS
 exact sm_zero (fun y hy => by rw [if_neg (fun e : cs m C y ≠ 0 ∧ Par m (fun x => C x y) v => h y hy e.1 e.2)])
open Classical in
theorem dirS_le (hC : ∀ x, x < m → ∀ y, y < n → 0 ≤ C x y) {x : Nat} (hx : x < m) : dirS m n C v x ≤ sm n (fun y => C x y) := by
 unfold dirS
 refine sm_mono (fun y hy => ?_)
 split
 ·exact Rat.le_refl
 ·exact hC x hx y hy
theorem GI.start : GI m C 0 [] := ⟨fun l h => by simp at h, fun l h => by simp at h, fun l h => by simp at h, List.Pairwise.nil, fun l h => by simp at h, fun y h => absurd h (by omega), fun x _ => rfl⟩
theorem GI.le (h : GI m C n out) (hC : ∀ x, x < m → ∀ y, y < n → 0 ≤ C x y) (hl : l ∈ out) {x : Nat} (hx : x < m) : lv l x ≤ sm n (fun y => C x y) := by
 rw [h.sum l hl x hx]
 exact dirS_le hC hx
open Classical in
theorem GI.skip (h : GI m C n out) (h0 : ∀ x, x < m → C x n = 0) : GI m C (n + 1) out := by
 have hs : cs m C n = 0 := sm_zero h0
 refine ⟨h.len, h.nn, h.nz, h.pw, fun l hl x hx => ?_, fun y hy hne => ?_, fun x hx => ?_⟩
 ·rw [dirS_succ, if_neg (fun e : cs m C n ≠ 0 ∧ Par m (fun x => C x n) (lv l) => e.1 hs), h.sum l hl x hx]
  rw [← h.sum l hl x hx]; grind
 ·by_cases e : y = n
  ·subst e; exact absurd hs hne
  ·exact h.cov y (by omega) hne
 ·rw [sm_succ, h.tot x hx, h0 x hx]; grind
theorem nz_of_col (hc : ∀ x, x < m → lv c x = C x n) (hne : cs m C n ≠ 0) : ∃ x, x < m ∧ lv c x ≠ 0 := by
 obtain ⟨i, hi, h⟩ := cs_ne hne
 exact ⟨i, hi, by rw [hc i hi]; exact h⟩
theorem par_col (hc : ∀ x, x < m → lv c x = C x n) : Par m (fun x => C x n) (lv c) := fun i hi j hj => by
 rw [hc i hi, hc j hj]
 dsimp only
 grind
open Classical in
theorem GI.push (h : GI m C n out) (hlen : c.length = m) (hnn : ∀ z ∈ c, 0 ≤ z) (hc : ∀ x, x < m → lv c x = C x n) (hne : cs m C n ≠ 0) (hno : ∀ l ∈ out, ¬ Par m (lv l) (lv c)) : GI m C (n + 1) (out ++ [c]) := by
 have hcz := nz_of_col hc hne
 have hpc := par_col hc
 refine ⟨fun l hl => ?_, fun l hl => ?_, fun l hl => ?_, ?_, fun l hl x hx => ?_, fun y hy hy0 => ?_, fun x hx => ?_⟩
 ·rcases List.mem_append.1 hl with hl | hl
  ·exact h.len l hl
  ·rw [List.mem_singleton.1 hl]; exact hlen
 ·rcases List.mem_append.1 hl with hl | hl
  ·exact h.nn l hl
  ·rw [List.mem_singleton.1 hl]; exact hnn
 ·rcases List.mem_append.1 hl with hl | hl
  ·exact h.nz l hl
  ·rw [List.mem_singleton.1 hl]; exact hcz
 ·refine List.pairwise_append.2 ⟨h.pw, List.pairwise_singleton _ _, fun a ha b hb => ?_⟩
  rw [List.mem_singleton.1 hb]
  exact hno a ha
 ·rcases List.mem_append.1 hl with hl | hl
  ·rw [dirS_succ, if_neg (fun e : cs m C n ≠ 0 ∧ Par m (fun x => C x n) (lv l) => hno l hl (e.2.symm.trans hpc (cs_ne hne))), ← h.sum l hl x hx]; grind
  ·rw [List.mem_singleton.1 hl, dirS_succ, if_pos ⟨hne, hpc⟩, dirS_zero (fun y hy hy0 hp => ?_), hc x hx]
   ·grind
   ·obtain ⟨l', hl', hp'⟩ := h.cov y hy hy0
    exact hno l' hl' (hp'.symm.trans hp (cs_ne hy0))
 ·by_cases e : y = n
  ·subst e
   exact ⟨c, List.mem_append_right _ List.mem_cons_self, hpc⟩
  ·obtain ⟨l', hl', hp'⟩ := h.cov y (by omega) hy0
   exact ⟨l', List.mem_append_left _ hl', hp'⟩
 ·rw [sumL_app, h.tot x hx, sm_succ]
  simp only [sumL]
  rw [hc x hx]; grind
theorem par_sum {l l' : List Int} (hp : Par m (lv l) (lv c)) (hs : ∀ x, x < m → lv l' x = lv l x + lv c x) : Par m (lv l') (lv l) := fun i hi j hj => by
 have := hp i hi j hj
 rw [hs i hi, hs j hj]
 grind
theorem pw_set {R : List Int → List Int → Prop} {k : Nat} {l l' : List Int} (h : out.Pairwise R) (hk : out[k]? = some l) (h1 : ∀ a, R l a → R l' a) (h2 : ∀ a, R a l → R a l') : (out.set k l').Pairwise R := by
 rw [List.pairwise_iff_getElem] at h ⊢
 intro i j hi hj hij
 simp only [List.length_set] at hi hj
 have hkl := (List.getElem?_eq_some_iff.1 hk)
 rw [List.getElem_set, List.getElem_set]
 by_cases e1 : k = i
 ·subst e1
  rw [if_pos rfl, if_neg (by omega)]
  exact h1 _ (by rw [← hkl.2]; exact h k j hi hj hij)
 ·by_cases e2 : k = j
  ·subst e2
   rw [if_neg e1, if_pos rfl]
   exact h2 _ (by rw [← hkl.2]; exact h i k hi hj hij)
  ·rw [if_neg e1, if_neg e2]
   exact h i j hi hj hij
open Classical in
theorem GI.add (h : GI m C n out) {k : Nat} {l' : List Int} (hk : out[k]? = some l) (hlen : l'.length = m) (hnn : ∀ z ∈ l', 0 ≤ z) (hcn : ∀ z ∈ c, 0 ≤ z) (hc : ∀ x, x < m → lv c x = C x n) (hne : cs m C n ≠ 0) (hp : Par m (lv l) (lv c)) (hs : ∀ x, x < m → lv l' x = lv l x + lv c x) : GI m C (n + 1) (out.set k l') := by
 have hl : l ∈ out := List.mem_of_getElem? hk
 have hcz := nz_of_col hc hne
 have hpc := par_col hc
 have hlz := h.nz l hl
 have hll : Par m (lv l') (lv l) := par_sum hp hs
 have hlz' : ∃ x, x < m ∧ lv l' x ≠ 0 := by
  obtain ⟨i, hi, h0⟩ := hlz
  refine ⟨i, hi, ?_⟩
  rw [hs i hi]
  have a := lv_nonneg (h.nn l hl) i
  have b := lv_nonneg hcn i
  grind
 have hmem : ∀ a, a ∈ out.set k l' → a ∈ out ∨ a = l' := fun a ha => List.mem_or_eq_of_mem_set ha
 refine ⟨fun a ha => ?_, fun a ha => ?_, fun a ha => ?_, ?_, fun a ha x hx => ?_, fun y hy hy0 => ?_, fun x hx => ?_⟩
 ·rcases hmem a ha with ha | rfl
  ·exact h.len a ha
  ·exact hlen
 ·rcases hmem a ha with ha | rfl
  ·exact h.nn a ha
  ·exact hnn
 ·rcases hmem a ha with ha | rfl
  ·exact h.nz a ha
  ·exact hlz'
 ·exact pw_set h.pw hk (fun a hr hq => hr (hll.symm.trans hq hlz')) (fun a hr hq => hr (hq.trans hll hlz'))
 ·have key : dirS m (n + 1) C (lv l') x = lv l' x := by
   rw [dirS_congr hll hlz' hlz, dirS_succ, if_pos ⟨hne, hpc.trans hp.symm hcz⟩, ← h.sum l hl x hx, hs x hx, hc x hx]
  by_cases hal : a = l'
  ·subst hal; exact key.symm
  ·-- another list: the new column has not its direction
   obtain ⟨i, hi, hai⟩ := List.getElem_of_mem ha
   simp only [List.length_set] at hi
   rw [List.getElem_set] at hai
   by_cases e : k = i
   ·rw [if_pos e] at hai; exact absurd hai.symm hal
   ·rw [if_neg e] at hai
    have hamem : a ∈ out := by rw [← hai]; exact List.getElem_mem _
    have hkl := List.getElem?_eq_some_iff.1 hk
    have hnp : ¬ Par m (lv l) (lv a) := by
     have hpw := List.pairwise_iff_getElem.1 h.pw
     rcases Nat.lt_or_gt_of_ne e with hlt | hlt
     ·have := hpw k i hkl.1 hi hlt
      rw [hkl.2, hai] at this
      exact this
     ·have := hpw i k hi hkl.1 hlt
      rw [hkl.2, hai] at this
      exact fun hq => this hq.symm
    rw [dirS_succ, if_neg (fun q : cs m C n ≠ 0 ∧ Par m (fun x => C x n) (lv a) => hnp ((hp.trans hpc.symm hcz).trans q.2 (cs_ne hne))), ← h.sum a hamem x hx]; grind
 ·have hkl := List.getElem?_eq_some_iff.1 hk
  have hself : l' ∈ out.set k l' := List.mem_iff_getElem.2 ⟨k, by simpa using hkl.1, by simp⟩
  by_cases e : y = n
  ·subst e
   exact ⟨l', hself, (hpc.trans hp.symm hcz).trans hll.symm hlz⟩
  ·obtain ⟨a, ha, hpa⟩ := h.cov y (by omega) hy0
   obtain ⟨i, hi, hai⟩ := List.getElem_of_mem ha
   by_cases e2 : k = i
   ·subst e2
    refine ⟨l', hself, ?_⟩
    rw [hkl.2] at hai
    subst hai
    exact hpa.trans hll.symm hlz
   ·exact ⟨a, List.mem_iff_getElem.2 ⟨i, by simpa using hi, by rw [List.getElem_set, if_neg e2]; exact hai⟩, hpa⟩
 ·rw [sumL_set out k l l' x hk, h.tot x hx, hs x hx, sm_succ, hc x hx]; grind
end
/-- The greatest common divisor. -/
def gI (a b : Int) : Int := (Int.gcd a b : Int)
def gL (g : Int) (l : List Int) : Int := l.foldl (fun g n => gI n g) g
def gLL (g : Int) (out : List (List Int)) : Int := out.foldl gL g
theorem gL_dvd : ∀ (l : List Int) (g : Int), gL g l ∣ g ∧ ∀ z ∈ l, gL g l ∣ z
 | [], g => ⟨Int.dvd_refl _, fun z h => by simp at h⟩
 | n :: l, g => by
   obtain ⟨a, b⟩ := gL_dvd l (gI n g)
   have e : gL g (n :: l) = gL (gI n g) l := rfl
   rw [e]
   refine ⟨Int.dvd_trans a (Int.gcd_dvd_right ..), fun z hz => ?_⟩
   rcases List.mem_cons.1 hz with rfl | hz
   ·exact Int.dvd_trans a (Int.gcd_dvd_left ..)
   ·exact b z hz
theorem gLL_dvd : ∀ (out : List (List Int)) (g : Int), gLL g out ∣ g ∧ ∀ l ∈ out, ∀ z ∈ l, gLL g out ∣ z
 | [], g => ⟨Int.dvd_refl _, fun z h => by simp at h⟩
 | l :: out, g => by
   obtain ⟨a, b⟩ := gLL_dvd out (gL g l)
   obtain ⟨c, d⟩ := gL_dvd l g
   have e : gLL g (l :: out) = gLL (gL g l) out := rfl
   rw [e]
   refine ⟨Int.dvd_trans a c, fun l' hl z hz => ?_⟩
   rcases List.mem_cons.1 hl with rfl | hl
   ·exact Int.dvd_trans a (d z hz)
   ·exact b l' hl z hz
theorem gL_nonneg : ∀ (l : List Int) (g : Int), 0 ≤ g → 0 ≤ gL g l
 | [], g, h => h
 | n :: l, g, h => gL_nonneg l (gI n g) (by unfold gI; omega)
theorem gLL_nonneg : ∀ (out : List (List Int)) (g : Int), 0 ≤ g → 0 ≤ gLL g out
 | [], g, h => h
 | l :: out, g, h => gLL_nonneg out (gL g l) (gL_nonneg l g h)
theorem gI_scale {c q a b : Int} (hq : 0 ≤ q) (h1 : c ∣ q * a) (h2 : c ∣ q * b) : c ∣ q * gI a b := by
 have h := Int.dvd_coe_gcd h1 h2
 rw [Int.gcd_mul_left] at h
 unfold gI
 have e : ((q.natAbs * a.gcd b : Nat) : Int) = q * ((a.gcd b : Nat) : Int) := by rw [Int.natCast_mul]; congr 1; omega
 rw [← e]
 exact h
theorem gL_scale {c q : Int} (hq : 0 ≤ q) : ∀ (l : List Int) (g : Int), c ∣ q * g → (∀ z ∈ l, c ∣ q * z) → c ∣ q * gL g l
 | [], g, h, _ => h
 | n :: l, g, h, hl => gL_scale hq l (gI n g) (gI_scale hq (hl n List.mem_cons_self) h) (fun z hz => hl z (List.mem_cons_of_mem _ hz))
theorem gLL_scale {c q : Int} (hq : 0 ≤ q) : ∀ (out : List (List Int)) (g : Int), c ∣ q * g → (∀ l ∈ out, ∀ z ∈ l, c ∣ q * z) → c ∣ q * gLL g out
 | [], g, h, _ => h
 | l :: out, g, h, hl => gLL_scale hq out (gL g l) (gL_scale hq l g h (hl l List.mem_cons_self)) (fun l' hl' z hz => hl l' (List.mem_cons_of_mem _ hl') z hz)
end Go.Proofs.YtdambnieminnfaaGreat

