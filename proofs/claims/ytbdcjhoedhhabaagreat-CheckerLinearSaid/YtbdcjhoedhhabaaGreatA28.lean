/- Contracts of the functions that the statements reach, part 28. -/
import Derived.Test.YtbdcjhoedhhabaaGreatRows
import Derived.Test.YtbdcjhoedhhabaaGreatA21
import Derived.Test.YtbdcjhoedhhabaaGreatA26
import Derived.Test.YtbdcjhoedhhabaaGreatA27
set_option linter.unusedSimpArgs false
set_option linter.unusedVariables false

/- The simplex tableau of layer 8, plain: sums, pivots, what every pivot keeps. -/
namespace Go.Proofs.YtbdcjhoedhhabaaGreat

/-- The sum of the first m values. -/
def sm : Nat → (Nat → Rat) → Rat
 | 0, _ => 0
 | m + 1, f => sm m f + f m
section
variable {m n k : Nat} {f g : Nat → Rat}
theorem sm_succ (m : Nat) (f : Nat → Rat) : sm (m + 1) f = sm m f + f m := rfl
theorem sm_congr : ∀ {m : Nat}, (∀ i, i < m → f i = g i) → sm m f = sm m g
 | 0, _ => rfl
 | m + 1, h => by unfold sm; rw [sm_congr (m := m) (fun i hi => h i (by omega)), h m (by omega)]
theorem sm_add (f g : Nat → Rat) : ∀ m, sm m (fun i => f i + g i) = sm m f + sm m g
 | 0 => by simp [sm, Rat.add_zero]
 | m + 1 => by unfold sm; rw [sm_add f g m]; grind
theorem sm_mul (c : Rat) (f : Nat → Rat) : ∀ m, sm m (fun i => c * f i) = c * sm m f
 | 0 => by simp [sm, Rat.mul_zero]
 | m + 1 => by unfold sm; rw [sm_mul c f m]; grind
theorem sm_sub (f g : Nat → Rat) : ∀ m, sm m (fun i => f i - g i) = sm m f - sm m g
 | 0 => by simp only [sm]; grind
 | m + 1 => by unfold sm; rw [sm_sub f g m]; grind
theorem sm_neg (f : Nat → Rat) : ∀ m, sm m (fun i => -f i) = -sm m f
 | 0 => by simp only [sm]; grind
 | m + 1 => by unfold sm; rw [sm_neg f m]; grind
theorem sm_zero : ∀ {m : Nat}, (∀ i, i < m → f i = 0) → sm m f = 0
 | 0, _ => rfl
 | m + 1, h => by unfold sm; rw [sm_zero (m := m) (fun i hi => h i (by omega)), h m (by omega)]; grind
theorem sm_upd (f : Nat → Rat) (v : Rat) (r : Nat) : ∀ m, r < m → sm m (fun i => if i = r then v else f i) = sm m f - f r + v
 | 0, h => by omega
 | m + 1, h => by
   unfold sm
   by_cases hm : r = m
   ·subst hm
    rw [sm_congr (g := f) (fun i hi => by simp only [if_neg (show ¬ i = r by omega)])]
    simp only [if_true]; grind
   ·rw [sm_upd f v r m (by omega)]
    simp only [if_neg (show ¬ m = r by omega)]; grind
theorem sm_one (f : Nat → Rat) (r : Nat) (h : r < m) (h0 : ∀ i, i < m → i ≠ r → f i = 0) : sm m f = f r := by
 have e : sm m f = sm m (fun i => if i = r then f r else 0) := sm_congr (fun i hi => by
  by_cases hr : i = r
  ·rw [if_pos hr, hr]
  ·rw [if_neg hr, h0 i hi hr])
 rw [e, sm_upd (fun _ => 0) (f r) r m h, sm_zero (fun i _ => rfl)]; grind
theorem sm_swap (F : Nat → Nat → Rat) (k : Nat) : ∀ m, sm m (fun i => sm k (fun l => F i l)) = sm k (fun l => sm m (fun i => F i l))
 | 0 => by
   simp only [sm]; exact (sm_zero (fun i _ => rfl)).symm
 | m + 1 => by
   rw [sm_succ, sm_swap F k m, ← sm_add]
   exact sm_congr (fun l _ => rfl)
theorem sm_nonneg : ∀ {m : Nat}, (∀ i, i < m → 0 ≤ f i) → 0 ≤ sm m f
 | 0, _ => Rat.le_refl
 | m + 1, h => by
   unfold sm
   have h1 := sm_nonneg (m := m) (fun i hi => h i (by omega))
   have h2 := h m (by omega)
   grind
end

/-- What a pivot makes of the rows. -/
def piv (T : Nat → Nat → Rat) (r j : Nat) : Nat → Nat → Rat := fun k c => if k = r then T r c / T r j else T k c - T k j * (T r c / T r j)
/-- What it makes of the basis. -/
def bup (b : Nat → Nat) (r j : Nat) : Nat → Nat := fun i => if i = r then j else b i
/-- The reduced costs. -/
def rho (m : Nat) (d : Nat → Rat) (T : Nat → Nat → Rat) (b : Nat → Nat) : Nat → Rat := fun c => d c - sm m (fun i => d (b i) * T i c)

/-- A tableau of the start T0: m rows, n unknowns, m artificial ones, the right-hand side in column n + m. -/
structure Good (m n : Nat) (T0 T : Nat → Nat → Rat) (b : Nat → Nat) : Prop where
 id : ∀ i, i < m → ∀ k, k < m → T k (b i) = if k = i then 1 else 0
 lt : ∀ i, i < m → b i < n + m
 fw : ∀ i, i < m → ∀ c, c ≤ n + m → T i c = sm m (fun l => T i (n + l) * T0 l c)
 bw : ∀ l, l < m → ∀ c, c ≤ n + m → T0 l c = sm m (fun i => T0 l (b i) * T i c)

section
variable {m n : Nat} {T0 T T1 T2 : Nat → Nat → Rat} {b b1 b2 : Nat → Nat} {d : Nat → Rat} {r j c : Nat}

theorem rho_piv (d : Nat → Rat) (hr : r < m) (hp : T r j ≠ 0) (c : Nat) : rho m d (piv T r j) (bup b r j) c = rho m d T b c - rho m d T b j * (T r c / T r j) := by
 have e : ∀ i, i < m → d (bup b r j i) * piv T r j i c = if i = r then d j * (T r c / T r j) else d (b i) * T i c - (T r c / T r j) * (d (b i) * T i j) := fun i _ => by
  unfold bup piv
  by_cases h : i = r
  ·subst h; simp only [if_true]
  ·simp only [if_neg h]; grind
 unfold rho
 rw [sm_congr e, sm_upd _ _ r m hr, sm_sub, sm_mul]
 have h1 : T r j * (T r c / T r j) = T r c := by grind
 have h2 : d (b r) * T r c - T r c / T r j * (d (b r) * T r j) = 0 := by grind
 rw [h2]; grind

theorem Good.pvt (G : Good m n T0 T b) (hr : r < m) (hj : j < n + m) (hp : T r j ≠ 0) : Good m n T0 (piv T r j) (bup b r j) := by
 refine ⟨fun i hi k hk => ?_, fun i hi => ?_, fun i hi c hc => ?_, fun l hl c hc => ?_⟩
 ·unfold bup piv
  by_cases hir : i = r
  ·subst hir
   simp only [if_true]
   by_cases hki : k = i
   ·simp only [if_pos hki]; grind
   ·simp only [if_neg hki]; grind
  ·simp only [if_neg hir]
   have e := G.id i hi r hr
   rw [if_neg (fun e => hir e.symm)] at e
   have e2 := G.id i hi k hk
   by_cases hkr : k = r
   ·subst hkr
    rw [if_pos rfl, if_neg (fun e => hir e.symm), e]; grind
   ·rw [if_neg hkr, e, e2]; grind
 ·unfold bup
  by_cases h : i = r
  ·rw [if_pos h]; exact hj
  ·rw [if_neg h]; exact G.lt i hi
 ·have e1 := G.fw r hr c hc
  have e2 := G.fw i hi c hc
  unfold piv
  by_cases h : i = r
  ·subst h
   simp only [if_true]
   rw [sm_congr (g := fun l => (1 / T i j) * (T i (n + l) * T0 l c)) (fun l _ => by grind), sm_mul, ← e1]; grind
  ·simp only [if_neg h]
   rw [sm_congr (g := fun l => T i (n + l) * T0 l c - (T i j / T r j) * (T r (n + l) * T0 l c)) (fun l _ => by grind), sm_sub, sm_mul, ← e1, ← e2]; grind
 ·have e := G.bw l hl
  have z : ∀ c, c ≤ n + m → rho m (T0 l) T b c = 0 := fun c hc => by
   unfold rho; rw [← e c hc]; grind
  have h := rho_piv (b := b) (T0 l) hr hp c
  rw [z c hc, z j (by omega)] at h
  unfold rho at h
  grind

/-- The start is a tableau of itself. -/
theorem Good.start (h : ∀ i, i < m → ∀ k, k < m → T0 k (n + i) = if k = i then 1 else 0) : Good m n T0 T0 (fun i => n + i) := by
 refine ⟨h, fun i hi => by omega, fun i hi c hc => ?_, fun l hl c hc => ?_⟩
 ·rw [sm_one _ i hi (fun l hl hne => by rw [h l hl i hi, if_neg (fun e => hne e.symm)]; grind), h i hi i hi, if_pos rfl]; grind
 ·rw [sm_one _ l hl (fun i hi hne => by rw [h i hi l hl, if_neg (fun e => hne e.symm)]; grind), h l hl l hl, if_pos rfl]; grind

/-- A row of one tableau out of the rows of another. -/
theorem Good.exp (G1 : Good m n T0 T1 b1) (G2 : Good m n T0 T2 b2) {i : Nat} (hi : i < m) (hc : c ≤ n + m) : T1 i c = sm m (fun k => T1 i (b2 k) * T2 k c) := by
 rw [G1.fw i hi c hc, sm_congr (g := fun l => sm m (fun k => T1 i (n + l) * (T0 l (b2 k) * T2 k c))) (fun l hl => by rw [G2.bw l hl c hc, sm_mul]), sm_swap]
 refine sm_congr (fun k hk => ?_)
 rw [G1.fw i hi (b2 k) (Nat.le_of_lt (G2.lt k hk)), sm_congr (g := fun l => T2 k c * (T1 i (n + l) * T0 l (b2 k))) (fun l _ => by grind), sm_mul]; grind

/-- A tableau is told by its basis. -/
theorem Good.uniq (G1 : Good m n T0 T1 b1) (G2 : Good m n T0 T2 b2) (hb : ∀ i, i < m → b1 i = b2 i) {i : Nat} (hi : i < m) (hc : c ≤ n + m) : T1 i c = T2 i c := by
 rw [G1.exp G2 hi hc, sm_one _ i hi (fun k hk hne => by rw [← hb k hk, G1.id k hk i hi, if_neg (fun e => hne e.symm)]; grind), ← hb i hi, G1.id i hi i hi, if_pos rfl]; grind

end
end Go.Proofs.YtbdcjhoedhhabaaGreat

/- Lists of fractions in memory: blocks known whole, lists that are read. -/
namespace Go.Proofs.YtbdcjhoedhhabaaGreat
open Go.RowKit

/-- The parts of a fraction's struct. -/
structure R4 where
 b : Bool
 A : Option Addr
 m : Nat
 c : Nat
 b' : Bool
 A' : Option Addr
 m' : Nat
 c' : Nat
def R4.cs (r : R4) : List Value := [.bool r.b, .slice r.A r.m r.c, .bool r.b', .slice r.A' r.m' r.c']
def R4.v (r : R4) : Value := .agg #[.bool r.b, .slice r.A r.m r.c, .bool r.b', .slice r.A' r.m' r.c']
/-- The cells of a list of fractions. -/
def flat : List R4 → List Value
 | [] => []
 | r :: l => .bool r.b :: .slice r.A r.m r.c :: .bool r.b' :: .slice r.A' r.m' r.c' :: flat l

theorem flat_len : ∀ l : List R4, (flat l).length = l.length * 4
 | [] => rfl
 | r :: l => by simp only [flat, List.length_cons, flat_len l]; omega
theorem flat_app : ∀ l k : List R4, flat (l ++ k) = flat l ++ flat k
 | [], k => rfl
 | r :: l, k => by simp only [flat, List.cons_append, flat_app l k]
theorem flat_one (r : R4) : flat [r] = r.cs := rfl
theorem flat_get : ∀ (l : List R4) (i : Nat) (r : R4), l[i]? = some r → (flat l)[i * 4]? = some (.bool r.b) ∧ (flat l)[i * 4 + 1]? = some (.slice r.A r.m r.c) ∧ (flat l)[i * 4 + 2]? = some (.bool r.b') ∧ (flat l)[i * 4 + 3]? = some (.slice r.A' r.m' r.c')
 | [], i, r, h => by simp at h
 | q :: l, 0, r, h => by simp at h; subst h; exact ⟨rfl, rfl, rfl, rfl⟩
 | q :: l, i + 1, r, h => by
   have h' : l[i]? = some r := by simpa using h
   have := flat_get l i r h'
   rw [show (i + 1) * 4 = i * 4 + 4 by omega]
   simpa [flat] using this
theorem flat_set : ∀ (l : List R4) (i : Nat) (r : R4), i < l.length → ((((flat l).set (i * 4) (.bool r.b)).set (i * 4 + 1) (.slice r.A r.m r.c)).set (i * 4 + 2) (.bool r.b')).set (i * 4 + 3) (.slice r.A' r.m' r.c') = flat (l.set i r)
 | [], i, r, h => by simp at h
 | q :: l, 0, r, h => by simp [flat]
 | q :: l, i + 1, r, h => by
   have := flat_set l i r (by simpa using h)
   rw [show (i + 1) * 4 = i * 4 + 4 by omega]
   simp [flat, this]

/-- Block g is just the fractions rs. -/
def Line (w : World) (g : Nat) (rs : List R4) : Prop := Loc w g 213 (flat rs).toArray
/-- The values of canonical fractions. -/
def ValV (w : World) (X : Nat → Prop) (rs : List R4) (f : Nat → Rat) : Prop := ∀ i r, rs[i]? = some r → RatV w X r.v (f i)
/-- The values of fractions of at most k words. -/
def ValL (k : Nat) (w : World) (X : Nat → Prop) (rs : List R4) (f : Nat → Rat) : Prop := ∀ i r, rs[i]? = some r → RatL k w X r.v (f i)

section
variable {w w' : World} {g k : Nat} {rs : List R4} {X Y : Nat → Prop} {f f' : Nat → Rat}
theorem Line.lt (h : Line w g rs) : g < w.heap.size := Loc.lt h
theorem Line.cells (h : Line w g rs) {i : Nat} {r : R4} (hr : rs[i]? = some r) : w.cell? ⟨g, i * 4, none⟩ = some (.bool r.b) ∧ w.cell? ⟨g, i * 4 + 1, none⟩ = some (.slice r.A r.m r.c) ∧ w.cell? ⟨g, i * 4 + 2, none⟩ = some (.bool r.b') ∧ w.cell? ⟨g, i * 4 + 3, none⟩ = some (.slice r.A' r.m' r.c') := by
 obtain ⟨h0, h1, h2, h3⟩ := flat_get rs i r hr
 simp only [Loc.cell h, List.getElem?_toArray]
 exact ⟨h0, h1, h2, h3⟩
theorem Line.frz (h : Line w g rs) : ∀ i, w.frozen? ⟨g, i, none⟩ = false := Loc.frz h
theorem Line.put (h : Line w g rs) {i : Nat} (hi : i < rs.length) (r : R4) : Line ((((w.setCell ⟨g, i * 4, none⟩ (.bool r.b)).setCell ⟨g, i * 4 + 1, none⟩ (.slice r.A r.m r.c)).setCell ⟨g, i * 4 + 2, none⟩ (.bool r.b')).setCell ⟨g, i * 4 + 3, none⟩ (.slice r.A' r.m' r.c')) g (rs.set i r) := by
 have := (((Loc.set h (i * 4) (.bool r.b)).set (i * 4 + 1) (.slice r.A r.m r.c)).set (i * 4 + 2) (.bool r.b')).set (i * 4 + 3) (.slice r.A' r.m' r.c')
 rw [List.setIfInBounds_toArray, List.setIfInBounds_toArray, List.setIfInBounds_toArray, List.setIfInBounds_toArray, flat_set rs i r hi] at this
 exact this
theorem ValV.keep (h : ValV w X rs f) (hk : Keep X w w') : ValV w' X rs f := fun i r hr => (h i r hr).keep hk
theorem ValV.weak (h : ValV w X rs f) (hY : ∀ b, b < w.heap.size → Y b → X b) : ValV w Y rs f := fun i r hr => (h i r hr).weak hY
theorem ValL.keep (h : ValL k w X rs f) (hk : Keep X w w') : ValL k w' X rs f := fun i r hr => (h i r hr).keep hk
theorem ValL.weak (h : ValL k w X rs f) (hY : ∀ b, b < w.heap.size → Y b → X b) : ValL k w Y rs f := fun i r hr => (h i r hr).weak hY
theorem ValV.len (h : ValV w X rs f) (hs : ∀ i, i < rs.length → Rsz k (f i)) : ValL k w X rs f := fun i r hr => (h i r hr).len (hs i (List.getElem?_eq_some_iff.1 hr).1)
theorem ValV.set (h : ValV w X rs f) {i : Nat} {r : R4} (hr : RatV w X r.v (f' i)) (hf : ∀ j, j ≠ i → f' j = f j) : ValV w X (rs.set i r) f' := fun j q hq => by
 by_cases hj : j = i
 ·subst hj
  rw [List.getElem?_set] at hq
  split at hq
  ·split at hq
   ·injection hq with hq; subst hq; exact hr
   ·simp at hq
  ·exact absurd rfl ‹_›
 ·rw [List.getElem?_set_ne (fun e => hj e.symm)] at hq
  rw [hf j hj]
  exact h j q hq
theorem ValV.congr (h : ValV w X rs f) (hf : ∀ i, i < rs.length → f' i = f i) : ValV w X rs f' := fun i r hr => by rw [hf i (List.getElem?_eq_some_iff.1 hr).1]; exact h i r hr
theorem ValV.push (h : ValV w X rs f) {r : R4} (hr : RatV w X r.v (f rs.length)) : ValV w X (rs ++ [r]) f := fun i q hq => by
 by_cases hi : i < rs.length
 ·rw [List.getElem?_append_left hi] at hq; exact h i q hq
 ·have := (List.getElem?_eq_some_iff.1 hq).1
  simp at this
  obtain rfl : i = rs.length := by omega
  simp at hq
  subst hq; exact hr
theorem ValL.push (h : ValL k w X rs f) {r : R4} (hr : RatL k w X r.v (f rs.length)) : ValL k w X (rs ++ [r]) f := fun i q hq => by
 by_cases hi : i < rs.length
 ·rw [List.getElem?_append_left hi] at hq; exact h i q hq
 ·have := (List.getElem?_eq_some_iff.1 hq).1
  simp at this
  obtain rfl : i = rs.length := by omega
  simp at hq
  subst hq; exact hr
end

theorem ValL.congr {k : Nat} {w : World} {X : Nat → Prop} {rs : List R4} {f f' : Nat → Rat} (h : ValL k w X rs f) (hf : ∀ i, i < rs.length → f' i = f i) : ValL k w X rs f' := fun i r hr => by rw [hf i (List.getElem?_eq_some_iff.1 hr).1]; exact h i r hr
theorem ValL.set {k : Nat} {w : World} {X : Nat → Prop} {rs : List R4} {f f' : Nat → Rat} (h : ValL k w X rs f) {i : Nat} {r : R4} (hr : RatL k w X r.v (f' i)) (hf : ∀ j, j ≠ i → j < rs.length → f' j = f j) : ValL k w X (rs.set i r) f' := fun j q hq => by
 by_cases hj : j = i
 ·subst hj
  rw [List.getElem?_set] at hq
  split at hq
  ·split at hq
   ·injection hq with hq; subst hq; exact hr
   ·simp at hq
  ·exact absurd rfl ‹_›
 ·rw [List.getElem?_set_ne (fun e => hj e.symm)] at hq
  rw [hf j hj (List.getElem?_eq_some_iff.1 hq).1]
  exact h j q hq
/-- A list of fractions that is read: n of them, at most k words in each part, of the values f. -/
def Nums (k : Nat) (w : World) (X : Nat → Prop) (v : Value) (n : Nat) (f : Nat → Rat) : Prop :=
 ∃ (rs : List R4) (A : Option Addr) (cap : Nat), rs.length = n ∧ v = .slice A n cap ∧ n ≤ cap ∧ cap ≤ maxLen ∧
   (n ≠ 0 → ∃ a : Addr, A = some a ∧ a.block < w.heap.size ∧ ¬ X a.block ∧ ∀ i r, rs[i]? = some r →
    w.cell? (a.add (i * 4)) = some (.bool r.b) ∧ w.cell? ((a.add (i * 4)).add 1) = some (.slice r.A r.m r.c) ∧ w.cell? ((a.add (i * 4)).add 2) = some (.bool r.b') ∧ w.cell? ((a.add (i * 4)).add 3) = some (.slice r.A' r.m' r.c')) ∧ ValL k w X rs f
/-- A list of lists that is read. -/
def Mat (k : Nat) (w : World) (X : Nat → Prop) (v : Value) (m : Nat) (N : Nat → Nat) (F : Nat → Nat → Rat) : Prop :=
 ∃ (us : List Value) (A : Option Addr) (cap : Nat), us.length = m ∧ v = .slice A m cap ∧ m ≤ cap ∧ cap ≤ maxLen ∧
   (m ≠ 0 → ∃ a : Addr, A = some a ∧ a.block < w.heap.size ∧ ¬ X a.block ∧ ∀ i u, us[i]? = some u → w.cell? (a.add i) = some u) ∧ ∀ i u, us[i]? = some u → Nums k w X u (N i) (F i)

section
variable {w w' : World} {g k j n m : Nat} {X Y : Nat → Prop} {v : Value} {f f' : Nat → Rat} {N : Nat → Nat} {F : Nat → Nat → Rat}
theorem add_block (a : Addr) (i : Nat) : (a.add i).block = a.block := by unfold Addr.add; split <;> rfl
theorem cell_keep {a : Addr} {u : Value} (h : w.cell? a = some u) (hb : a.block < w.heap.size) (hX : ¬ X a.block) (hk : Keep X w w') : w'.cell? a = some u := by
 have := hk.block a.block hb hX
 unfold World.cell? at h ⊢
 rw [this]; exact h
theorem Nums.keep (h : Nums k w X v n f) (hk : Keep X w w') : Nums k w' X v n f := by
 obtain ⟨rs, A, cap, h1, h2, h3, h4, h5, h6⟩ := h
 refine ⟨rs, A, cap, h1, h2, h3, h4, fun hn => ?_, h6.keep hk⟩
 obtain ⟨a, ea, hb, hX, hc⟩ := h5 hn
 refine ⟨a, ea, Nat.lt_of_lt_of_le hb hk.size, hX, fun i r hr => ?_⟩
 obtain ⟨c0, c1, c2, c3⟩ := hc i r hr
 have key : ∀ (p : Addr) (u : Value), p.block = a.block → w.cell? p = some u → w'.cell? p = some u := fun p u hp hu => cell_keep hu (by rw [hp]; exact hb) (by rw [hp]; exact hX) hk
 refine ⟨key _ _ ?_ c0, key _ _ ?_ c1, key _ _ ?_ c2, key _ _ ?_ c3⟩ <;> simp only [add_block]
theorem Nums.weak (h : Nums k w X v n f) (hY : ∀ b, b < w.heap.size → Y b → X b) : Nums k w Y v n f := by
 obtain ⟨rs, A, cap, h1, h2, h3, h4, h5, h6⟩ := h
 refine ⟨rs, A, cap, h1, h2, h3, h4, fun hn => ?_, h6.weak hY⟩
 obtain ⟨a, ea, hb, hX, hc⟩ := h5 hn
 exact ⟨a, ea, hb, fun hy => hX (hY _ hb hy), hc⟩
theorem Nums.mono (h : Nums k w X v n f) (hj : k ≤ j) : Nums j w X v n f := by
 obtain ⟨rs, A, cap, h1, h2, h3, h4, h5, h6⟩ := h
 exact ⟨rs, A, cap, h1, h2, h3, h4, h5, fun i r hr => (h6 i r hr).mono hj⟩
theorem Nums.congr (h : Nums k w X v n f) (hf : ∀ i, i < n → f' i = f i) : Nums k w X v n f' := by
 obtain ⟨rs, A, cap, h1, h2, h3, h4, h5, h6⟩ := h
 exact ⟨rs, A, cap, h1, h2, h3, h4, h5, fun i r hr => by rw [hf i (by rw [← h1]; exact (List.getElem?_eq_some_iff.1 hr).1)]; exact h6 i r hr⟩
theorem Nums.rsz (h : Nums k w X v n f) (hk : 1 ≤ k) : ∀ i, i < n → Rsz k (f i) := fun i hi => by
 obtain ⟨rs, A, cap, h1, h2, h3, h4, h5, h6⟩ := h
 exact (h6 i _ (List.getElem?_eq_getElem (by omega))).rsz hk
theorem Nums.nil (k : Nat) (w : World) (X : Nat → Prop) (f : Nat → Rat) : Nums k w X (.slice none 0 0) 0 f := ⟨[], none, 0, rfl, rfl, Nat.le_refl _, Nat.zero_le _, fun h => absurd rfl h, fun i r h => by simp at h⟩
/-- The shape of a list that is read. -/
theorem Nums.op (h : Nums k w X v n f) : ∃ (A : Option Addr) (cap : Nat), v = .slice A n cap ∧ Nums k w X (.slice A n cap) n f ∧ n ≤ cap ∧ cap ≤ maxLen := by
 have h0 := h
 obtain ⟨rs, A, cap, h1, rfl, h3, h4, -⟩ := h
 exact ⟨A, cap, rfl, h0, h3, h4⟩
/-- An element of a list that is read. -/
theorem Nums.at {A : Option Addr} {cap : Nat} (h : Nums k w X (.slice A n cap) n f) {i : Nat} (hi : i < n) : ∃ (a : Addr) (b : Bool) (B : Option Addr) (p c : Nat) (b' : Bool) (B' : Option Addr) (p' c' : Nat), A = some a ∧ a.block < w.heap.size ∧ ¬ X a.block ∧
 w.cell? (a.add (i * 4)) = some (.bool b) ∧ w.cell? ((a.add (i * 4)).add 1) = some (.slice B p c) ∧ w.cell? ((a.add (i * 4)).add 2) = some (.bool b') ∧ w.cell? ((a.add (i * 4)).add 3) = some (.slice B' p' c') ∧
 RatL k w X (.agg #[.bool b, .slice B p c, .bool b', .slice B' p' c']) (f i) := by
 obtain ⟨rs, A1, cap1, h1, h2, h3, h4, h5, h6⟩ := h
 injection h2 with e1 e2 e3
 subst e1
 obtain ⟨a, ea, hb, hX, hc⟩ := h5 (by omega)
 have hr := List.getElem?_eq_getElem (l := rs) (i := i) (by omega)
 obtain ⟨c0, c1, c2, c3⟩ := hc i _ hr
 exact ⟨a, _, _, _, _, _, _, _, _, ea, hb, hX, c0, c1, c2, c3, h6 i _ hr⟩
theorem Mat.keep (h : Mat k w X v m N F) (hk : Keep X w w') : Mat k w' X v m N F := by
 obtain ⟨us, A, cap, h1, h2, h3, h4, h5, h6⟩ := h
 refine ⟨us, A, cap, h1, h2, h3, h4, fun hn => ?_, fun i u hu => (h6 i u hu).keep hk⟩
 obtain ⟨a, ea, hb, hX, hc⟩ := h5 hn
 exact ⟨a, ea, Nat.lt_of_lt_of_le hb hk.size, hX, fun i u hu => cell_keep (hc i u hu) (by rw [add_block]; exact hb) (by rw [add_block]; exact hX) hk⟩
theorem Mat.weak (h : Mat k w X v m N F) (hY : ∀ b, b < w.heap.size → Y b → X b) : Mat k w Y v m N F := by
 obtain ⟨us, A, cap, h1, h2, h3, h4, h5, h6⟩ := h
 refine ⟨us, A, cap, h1, h2, h3, h4, fun hn => ?_, fun i u hu => (h6 i u hu).weak hY⟩
 obtain ⟨a, ea, hb, hX, hc⟩ := h5 hn
 exact ⟨a, ea, hb, fun hy => hX (hY _ hb hy), hc⟩
theorem Mat.op (h : Mat k w X v m N F) : ∃ (A : Option Addr) (cap : Nat), v = .slice A m cap ∧ Mat k w X (.slice A m cap) m N F ∧ m ≤ cap ∧ cap ≤ maxLen := by
 have h0 := h
 obtain ⟨us, A, cap, h1, rfl, h3, h4, -⟩ := h
 exact ⟨A, cap, rfl, h0, h3, h4⟩
theorem Mat.at {A : Option Addr} {cap : Nat} (h : Mat k w X (.slice A m cap) m N F) {i : Nat} (hi : i < m) : ∃ (a : Addr) (B : Option Addr) (c : Nat), A = some a ∧ a.block < w.heap.size ∧ ¬ X a.block ∧ w.cell? (a.add i) = some (.slice B (N i) c) ∧ Nums k w X (.slice B (N i) c) (N i) (F i) ∧ N i ≤ c ∧ c ≤ maxLen := by
 obtain ⟨us, A1, cap1, h1, h2, h3, h4, h5, h6⟩ := h
 injection h2 with e1 e2 e3
 subst e1
 obtain ⟨a, ea, hb, hX, hc⟩ := h5 (by omega)
 have hr := List.getElem?_eq_getElem (l := us) (i := i) (by omega)
 obtain ⟨B, c, e, hn, hl, hm⟩ := (h6 i _ hr).op
 have := hc i _ hr
 rw [e] at this
 exact ⟨a, B, c, ea, hb, hX, this, hn, hl, hm⟩

theorem Line.nums {w : World} {g k n : Nat} {rs : List R4} {X Y : Nat → Prop} {f : Nat → Rat} (h : Line w g rs) (hv : ValL k w X rs f) (hn : rs.length = n) (hY : ∀ b, b < w.heap.size → Y b → X b) (hg : ¬ Y g) (hm : n ≤ maxLen) : Nums k w Y (.slice (some ⟨g, 0, none⟩) n n) n f := by
 refine ⟨rs, _, _, hn, rfl, Nat.le_refl _, hm, fun _ => ⟨_, rfl, h.lt, hg, fun i r hr => ?_⟩, hv.weak hY⟩
 obtain ⟨c0, c1, c2, c3⟩ := h.cells hr
 have e : ∀ i, (⟨g, 0, none⟩ : Addr).add i = ⟨g, i, none⟩ := fun i => by simp [Addr.add]; intro h; omega
 have e2 : ∀ i j, (⟨g, i, none⟩ : Addr).add j = ⟨g, i + j, none⟩ := fun i j => by simp [Addr.add]
 rw [e, e2, e2, e2]
 exact ⟨c0, c1, c2, c3⟩
end
/-- Nothing outside the blocks X has turned: the way is found by itself. -/
theorem kp {X : Nat → Prop} {w w' : World} (k : Keep X w w' := by
 repeat (first
  | (with_reducible exact Keep.refl _ _) | (with_reducible assumption) | (with_reducible refine Keep.drew ?_) | (with_reducible refine Keep.alloc ?_ _) | (with_reducible refine Keep.drewN ?_)
  | (with_reducible refine Keep.set ?_ ?_ _; rotate_left; (first | (left; rfl) | (right; simp only [zs]; omega) | (right; omega) | (left; simp only [Old, World.size_alloc, size_set, size_drew, size_drewN]; omega) | (left; assumption)))
  | (with_reducible refine Keep.on ?_ (by assumption)))
 fail_if_success exfalso) : Keep X w w' := k
theorem Keep.far {X : Nat → Prop} {w w' : World} (h : Keep X w w') {g : Nat} (hg : ¬ X g) : Stay g w w' := fun hl => ⟨h.block g hl hg, Nat.lt_of_lt_of_le hl h.size⟩
end Go.Proofs.YtbdcjhoedhhabaaGreat

/- Sign, Neg, Floor of rational. -/
namespace Go.Proofs.YtbdcjhoedhhabaaGreat
open Go.RowKit
attribute [local go_sem ↓] Go.wp_at_zero Go.wp_at_succ

theorem divInt_sign2 (n d : Int) : (Rat.divInt n d).num.sign = n.sign * d.sign := by
 rcases sign_cases d with ⟨h, e⟩ | ⟨h, e⟩ | ⟨h, e⟩
 ·rw [e, ← Rat.neg_divInt_neg, divInt_sign _ _ (by omega), Int.sign_neg]; omega
 ·rw [e, h, Rat.divInt_zero, Int.mul_zero]; rfl
 ·rw [e, divInt_sign _ _ (by omega), Int.mul_one]

set_option maxHeartbeats 2000000 in
theorem sign_rat (w : World) (X : Nat → Prop) (k : Nat) (v : Value) (q : Rat) (h : RatL k w X v q) :
 Calls Tryz.prog 346 #[v] w fun e w' => e = .returned (.int .i64 q.num.sign) ∧ Below w.heap.size w w' := by
 obtain ⟨n1, A, m, c, n2, B, m', d, rfl, -, xs, ys, i1, i2, l1, l2, HE⟩ := h.op
 have hq : q.num.sign = (sv n1 xs).sign * (sv n2 ys).sign := by rw [← divInt_sign2, ← HE.out]; rfl
 obtain ⟨s1, hs1⟩ : ∃ s, (sv n1 xs).sign = s := ⟨_, rfl⟩
 obtain ⟨s2, hs2⟩ : ∃ s, (sv n2 ys).sign = s := ⟨_, rfl⟩
 rw [hs1, hs2] at hq
 have hP : -1 ≤ s1 * s2 ∧ s1 * s2 ≤ 1 := by
  rw [← hq]; rcases sign_cases q.num with ⟨_, h⟩ | ⟨_, h⟩ | ⟨_, h⟩ <;> omega
 have hw : IntKind.i64.wrap (s1 * s2) = s1 * s2 := by rw [IntKind.wrap_i64]; omega
 have HS1 := Lib.hid hs1
 have HS2 := Lib.hid hs2
 have HQ := Lib.hid hq
 clear hs1 hs2 hq h hP
 rw [HQ.out]
 go_enter Tryz.func346, Tryz.ntmps346
 go_wp2_with fail
 have L1 := made1 w #[.bool n1, .slice A m c, .bool n2, .slice B m' d] 213
 go_region_held3 (fun W => (W.cell? ⟨w.heap.size, 0, none⟩ = some (.bool n1) ∧ W.cell? ⟨w.heap.size, 1, none⟩ = some (.slice A m c)) ∧ W.cell? ⟨w.heap.size, 2, none⟩ = some (.bool n2) ∧ W.cell? ⟨w.heap.size, 3, none⟩ = some (.slice B m' d))
  (exact ⟨⟨Loc.c 0 L1, Loc.c 1 L1⟩, Loc.c 2 L1, Loc.c 3 L1⟩)
  (first
   | (go_at_call_of 422 (Value.agg #[Value.bool n1, Value.slice A m c]); refine (sign_any _ (fun _ => False) _ n1 xs i1.to).mono ?_; rintro e u1 ⟨he, hb1⟩; rw [HS1.out] at he; subst he; have y1 := hb1.size; (try simp only [zs] at y1))
   | (go_at_call_of 422 (Value.agg #[Value.bool n2, Value.slice B m' d]); refine (sign_any _ (fun _ => False) _ n2 ys i2.to).mono ?_; rintro e u2 ⟨he, hb2⟩; rw [HS2.out] at he; subst he; have y2 := hb2.size; (try simp only [zs] at y2)))
 all_goals
  go_wp2_with fail
  go_ret
  exact ⟨rfl, bel⟩

end Go.Proofs.YtbdcjhoedhhabaaGreat

