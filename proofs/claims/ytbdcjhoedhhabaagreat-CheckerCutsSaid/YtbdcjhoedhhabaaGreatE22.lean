/- Contracts of the functions that the statements reach, part 22. -/
import Derived.Test.YtbdcjhoedhhabaaGreatRows
import Derived.Test.YtbdcjhoedhhabaaGreatE21
set_option linter.unusedSimpArgs false
set_option linter.unusedVariables false

/- Fractions of at most k words in each part; Clean, Of, Sign, Neg, Floor. -/
namespace Go.Proofs.YtbdcjhoedhhabaaGreat
open Go.RowKit
attribute [local go_sem ↓] Go.wp_at_zero Go.wp_at_succ

/-- v is a fraction as it lies, with the value q and at most k words in each part. -/
def RatL (k : Nat) (w : World) (X : Nat → Prop) (v : Value) (q : Rat) : Prop := ∃ n1 xs n2 ys, RatR w X v n1 xs n2 ys ∧ xs.length ≤ k ∧ ys.length ≤ k ∧ rv n1 xs n2 ys = q
/-- A fraction's canonical form has at most k words in each part. -/
def Rsz (k : Nat) (q : Rat) : Prop := (dig q.num.natAbs).length ≤ k ∧ (dig (q.den : Int).natAbs).length ≤ k

section
variable {X Y : Nat → Prop} {w w' : World} {v : Value} {q : Rat} {k j : Nat}
theorem RatV.len (h : RatV w X v q) (hk : Rsz k q) : RatL k w X v q := ⟨_, _, _, _, h, hk.1, hk.2, rv_canon q⟩
theorem RatL.mono (h : RatL k w X v q) (hj : k ≤ j) : RatL j w X v q := let ⟨a, b, c, d, r, h1, h2, e⟩ := h; ⟨a, b, c, d, r, Nat.le_trans h1 hj, Nat.le_trans h2 hj, e⟩
theorem Rsz.mono (h : Rsz k q) (hj : k ≤ j) : Rsz j q := ⟨Nat.le_trans h.1 hj, Nat.le_trans h.2 hj⟩
theorem RatL.keep (h : RatL k w X v q) (hk : Keep X w w') : RatL k w' X v q := let ⟨a, b, c, d, r, h1⟩ := h; ⟨a, b, c, d, r.keep hk, h1⟩
theorem RatL.weak (h : RatL k w X v q) (hY : ∀ b, b < w.heap.size → Y b → X b) : RatL k w Y v q := let ⟨a, b, c, d, r, h1⟩ := h; ⟨a, b, c, d, r.weak hY, h1⟩
theorem RatL.below (h : RatL k w X v q) (hk : Below w.heap.size w w') : RatL k w' X v q := h.keep (.of_below hk)
theorem RatL.op (h : RatL k w X v q) : ∃ (n1 : Bool) (A : Option Addr) (m c : Nat) (n2 : Bool) (B : Option Addr) (m' d : Nat), v = .agg #[.bool n1, .slice A m c, .bool n2, .slice B m' d] ∧
 RatL k w X (.agg #[.bool n1, .slice A m c, .bool n2, .slice B m' d]) q ∧ ∃ xs ys, IntR w X (.agg #[.bool n1, .slice A m c]) n1 xs ∧ IntR w X (.agg #[.bool n2, .slice B m' d]) n2 ys ∧ xs.length ≤ k ∧ ys.length ≤ k ∧ Hid (rv n1 xs n2 ys = q) := by
 have h0 := h
 obtain ⟨n1, xs, n2, ys, ⟨A, c, B, d, rfl, i1, i2⟩, l1, l2, e⟩ := h
 exact ⟨n1, A, _, c, n2, B, _, d, rfl, h0, xs, ys, i1, i2, l1, l2, e⟩
theorem RatL.to (h : RatL k w X v q)
 (k' : Keep X w w' := by
  repeat (first
   | (with_reducible exact Keep.refl _ _) | (with_reducible refine Keep.drew ?_) | (with_reducible refine Keep.alloc ?_ _) | (with_reducible refine Keep.drewN ?_)
   | (with_reducible refine Keep.set ?_ ?_ _; rotate_left; (first | (right; simp only [zs]; omega) | (right; omega) | (left; simp only [Old, World.size_alloc, size_set, size_drew, size_drewN]; omega) | (left; dsimp only; omega)))
   | (with_reducible refine Keep.on ?_ (by assumption)))
  fail_if_success exfalso) : RatL k w' (fun _ => False) v q := (h.keep k').weak (fun _ _ h => h.elim)
end

theorem divInt_num_le (n d : Int) : (Rat.divInt n d).num.natAbs ≤ n.natAbs := by
 rw [Rat.num_divInt]
 refine Nat.le_trans (Int.natAbs_ediv_le_natAbs _ _) ?_
 rw [Int.natAbs_mul]
 rcases sign_cases d with ⟨_, h⟩ | ⟨_, h⟩ | ⟨_, h⟩ <;> rw [h] <;> simp
theorem divInt_den_le (n d : Int) : (Rat.divInt n d).den ≤ if d = 0 then 1 else d.natAbs := by
 rw [Rat.den_divInt]
 split
 ·exact Nat.le_refl _
 ·exact Nat.div_le_self _ _
theorem dig_one_len : (dig 1).length ≤ 1 := dig_len_le (by decide)
theorem divInt_Rsz {n d : Int} {k : Nat} (hk : 1 ≤ k) (hn : (dig n.natAbs).length ≤ k) (hd : (dig d.natAbs).length ≤ k) : Rsz k (Rat.divInt n d) := by
 refine ⟨Nat.le_trans (dig_len_mono (divInt_num_le n d)) hn, ?_⟩
 rw [Int.natAbs_natCast]
 refine Nat.le_trans (dig_len_mono (divInt_den_le n d)) ?_
 split
 ·exact Nat.le_trans dig_one_len hk
 ·exact hd
theorem len_mulI {a b : Int} {j k : Nat} (ha : (dig a.natAbs).length ≤ j) (hb : (dig b.natAbs).length ≤ k) : (dig (a * b).natAbs).length ≤ j + k := by
 have h := len_mul (ws_dig a.natAbs) (ws_dig b.natAbs)
 rw [val_dig, val_dig, ← Int.natAbs_mul] at h
 omega
theorem Rsz.one {q : Rat} {k : Nat} (h : Rsz k q) : 1 ≤ k := by
 have h1 := h.2
 have := dig_len_pos (q.den : Int).natAbs
 have h2 : 0 < (q.den : Int).natAbs := by have := q.den_nz; omega
 omega
theorem Rsz.mul {x y : Rat} {j k : Nat} (hx : Rsz j x) (hy : Rsz k y) : Rsz (j + k) (x * y) := by
 rw [← rat_mul]; exact divInt_Rsz (by have := hx.one; omega) (len_mulI hx.1 hy.1) (len_mulI hx.2 hy.2)
theorem len_addI {a b : Int} {k : Nat} (ha : (dig a.natAbs).length ≤ k) (hb : (dig b.natAbs).length ≤ k) : (dig (a + b).natAbs).length ≤ k + 1 := by
 have h := sub_len a (-b) k ha (by rw [Int.natAbs_neg]; exact hb)
 rwa [Int.sub_neg] at h
theorem Rsz.add {x y : Rat} {j k : Nat} (hx : Rsz j x) (hy : Rsz k y) : Rsz (j + k + 1) (x + y) := by
 rw [← rat_add]
 exact divInt_Rsz (by omega) (len_addI (len_mulI hx.1 hy.2) (by have := len_mulI hy.1 hx.2; omega)) (by have := len_mulI hx.2 hy.2; omega)
theorem Rsz.neg {x : Rat} {k : Nat} (hx : Rsz k x) : Rsz k (-x) := ⟨by rw [Rat.neg_num, Int.natAbs_neg]; exact hx.1, by rw [Rat.neg_den]; exact hx.2⟩
theorem Rsz.div {x y : Rat} {j k : Nat} (hx : Rsz j x) (hy : Rsz k y) : Rsz (j + k) (x / y) := by
 rw [← rat_div]; exact divInt_Rsz (by have := hx.one; omega) (len_mulI hx.1 hy.2) (len_mulI hx.2 hy.1)

end Go.Proofs.YtbdcjhoedhhabaaGreat

/- The simplex tableau of layer 8, plain: sums, pivots, what every pivot keeps. -/
namespace Go.Proofs.YtbdcjhoedhhabaaGreat

/-- The sum of the first m values. -/
def sm : Nat → (Nat → Rat) → Rat
 | 0, _ => 0
 | m + 1, f => sm m f + f m
section
variable {m n k : Nat} {f g : Nat → Rat}
theorem sm_succ (m : Nat) (f : Nat → Rat) : sm (m + 1) f = sm m f + f m := rfl
theorem sm_congr : ∀ {m : Nat}, (∀ i, i < m → f i = g i) → sm m f = sm m g
 | 0, _ => rfl
 | m + 1, h => by unfold sm; rw [sm_congr (m := m) (fun i hi => h i (by omega)), h m (by omega)]
theorem sm_add (f g : Nat → Rat) : ∀ m, sm m (fun i => f i + g i) = sm m f + sm m g
 | 0 => by simp [sm, Rat.add_zero]
 | m + 1 => by unfold sm; rw [sm_add f g m]; grind
theorem sm_mul (c : Rat) (f : Nat → Rat) : ∀ m, sm m (fun i => c * f i) = c * sm m f
 | 0 => by simp [sm, Rat.mul_zero]
 | m + 1 => by unfold sm; rw [sm_mul c f m]; grind
theorem sm_sub (f g : Nat → Rat) : ∀ m, sm m (fun i => f i - g i) = sm m f - sm m g
 | 0 => by simp only [sm]; grind
 | m + 1 => by unfold sm; rw [sm_sub f g m]; grind
theorem sm_neg (f : Nat → Rat) : ∀ m, sm m (fun i => -f i) = -sm m f
 | 0 => by simp only [sm]; grind
 | m + 1 => by unfold sm; rw [sm_neg f m]; grind
theorem sm_zero : ∀ {m : Nat}, (∀ i, i < m → f i = 0) → sm m f = 0
 | 0, _ => rfl
 | m + 1, h => by unfold sm; rw [sm_zero (m := m) (fun i hi => h i (by omega)), h m (by omega)]; grind
theorem sm_upd (f : Nat → Rat) (v : Rat) (r : Nat) : ∀ m, r < m → sm m (fun i => if i = r then v else f i) = sm m f - f r + v
 | 0, h => by omega
 | m + 1, h => by
   unfold sm
   by_cases hm : r = m
   ·subst hm
    rw [sm_congr (g := f) (fun i hi => by simp only [if_neg (show ¬ i = r by omega)])]
    simp only [if_true]; grind
   ·rw [sm_upd f v r m (by omega)]
    simp only [if_neg (show ¬ m = r by omega)]; grind
theorem sm_one (f : Nat → Rat) (r : Nat) (h : r < m) (h0 : ∀ i, i < m → i ≠ r → f i = 0) : sm m f = f r := by
 have e : sm m f = sm m (fun i => if i = r then f r else 0) := sm_congr (fun i hi => by
  by_cases hr : i = r
  ·rw [if_pos hr, hr]
  ·rw [if_neg hr, h0 i hi hr])
 rw [e, sm_upd (fun _ => 0) (f r) r m h, sm_zero (fun i _ => rfl)]; grind
theorem sm_swap (F : Nat → Nat → Rat) (k : Nat) : ∀ m, sm m (fun i => sm k (fun l => F i l)) = sm k (fun l => sm m (fun i => F i l))
 | 0 => by
   simp only [sm]; exact (sm_zero (fun i _ => rfl)).symm
 | m + 1 => by
   rw [sm_succ, sm_swap F k m, ← sm_add]
   exact sm_congr (fun l _ => rfl)
theorem sm_nonneg : ∀ {m : Nat}, (∀ i, i < m → 0 ≤ f i) → 0 ≤ sm m f
 | 0, _ => Rat.le_refl
 | m + 1, h => by
   unfold sm
   have h1 := sm_nonneg (m := m) (fun i hi => h i (by omega))
   have h2 := h m (by omega)
   grind
end

/-- The reduced costs. -/
def rho (m : Nat) (d : Nat → Rat) (T : Nat → Nat → Rat) (b : Nat → Nat) : Nat → Rat := fun c => d c - sm m (fun i => d (b i) * T i c)

/-- A tableau of the start T0: m rows, n unknowns, m artificial ones, the right-hand side in column n + m. -/
structure Good (m n : Nat) (T0 T : Nat → Nat → Rat) (b : Nat → Nat) : Prop where
 id : ∀ i, i < m → ∀ k, k < m → T k (b i) = if k = i then 1 else 0
 lt : ∀ i, i < m → b i < n + m
 fw : ∀ i, i < m → ∀ c, c ≤ n + m → T i c = sm m (fun l => T i (n + l) * T0 l c)
 bw : ∀ l, l < m → ∀ c, c ≤ n + m → T0 l c = sm m (fun i => T0 l (b i) * T i c)

section
variable {m n : Nat} {T0 T T1 T2 : Nat → Nat → Rat} {b b1 b2 : Nat → Nat} {d : Nat → Rat} {r j c : Nat}

/-- The start is a tableau of itself. -/
theorem Good.start (h : ∀ i, i < m → ∀ k, k < m → T0 k (n + i) = if k = i then 1 else 0) : Good m n T0 T0 (fun i => n + i) := by
 refine ⟨h, fun i hi => by omega, fun i hi c hc => ?_, fun l hl c hc => ?_⟩
 ·rw [sm_one _ i hi (fun l hl hne => by rw [h l hl i hi, if_neg (fun e => hne e.symm)]; grind), h i hi i hi, if_pos rfl]; grind
 ·rw [sm_one _ l hl (fun i hi hne => by rw [h i hi l hl, if_neg (fun e => hne e.symm)]; grind), h l hl l hl, if_pos rfl]; grind

/-- A row of one tableau out of the rows of another. -/
theorem Good.exp (G1 : Good m n T0 T1 b1) (G2 : Good m n T0 T2 b2) {i : Nat} (hi : i < m) (hc : c ≤ n + m) : T1 i c = sm m (fun k => T1 i (b2 k) * T2 k c) := by
 rw [G1.fw i hi c hc, sm_congr (g := fun l => sm m (fun k => T1 i (n + l) * (T0 l (b2 k) * T2 k c))) (fun l hl => by rw [G2.bw l hl c hc, sm_mul]), sm_swap]
 refine sm_congr (fun k hk => ?_)
 rw [G1.fw i hi (b2 k) (Nat.le_of_lt (G2.lt k hk)), sm_congr (g := fun l => T2 k c * (T1 i (n + l) * T0 l (b2 k))) (fun l _ => by grind), sm_mul]; grind

theorem Good.inj (G : Good m n T0 T b) {i k : Nat} (hi : i < m) (hk : k < m) (h : b i = b k) : i = k := by
 have e1 := G.id i hi k hk
 have e2 := G.id k hk k hk
 rw [h, e2, if_pos rfl] at e1
 by_cases hik : k = i
 ·exact hik.symm
 ·rw [if_neg hik] at e1; exact absurd e1 (by grind)

/-- A tableau is told by its basis. -/
theorem Good.uniq (G1 : Good m n T0 T1 b1) (G2 : Good m n T0 T2 b2) (hb : ∀ i, i < m → b1 i = b2 i) {i : Nat} (hi : i < m) (hc : c ≤ n + m) : T1 i c = T2 i c := by
 rw [G1.exp G2 hi hc, sm_one _ i hi (fun k hk hne => by rw [← hb k hk, G1.id k hk i hi, if_neg (fun e => hne e.symm)]; grind), ← hb i hi, G1.id i hi i hi, if_pos rfl]; grind

end
end Go.Proofs.YtbdcjhoedhhabaaGreat

/- Lists of fractions in memory: blocks known whole, lists that are read. -/
namespace Go.Proofs.YtbdcjhoedhhabaaGreat
open Go.RowKit

/-- The parts of a fraction's struct. -/
structure R4 where
 b : Bool
 A : Option Addr
 m : Nat
 c : Nat
 b' : Bool
 A' : Option Addr
 m' : Nat
 c' : Nat
def R4.cs (r : R4) : List Value := [.bool r.b, .slice r.A r.m r.c, .bool r.b', .slice r.A' r.m' r.c']
def R4.v (r : R4) : Value := .agg #[.bool r.b, .slice r.A r.m r.c, .bool r.b', .slice r.A' r.m' r.c']
/-- The cells of a list of fractions. -/
def flat : List R4 → List Value
 | [] => []
 | r :: l => .bool r.b :: .slice r.A r.m r.c :: .bool r.b' :: .slice r.A' r.m' r.c' :: flat l

theorem flat_get : ∀ (l : List R4) (i : Nat) (r : R4), l[i]? = some r → (flat l)[i * 4]? = some (.bool r.b) ∧ (flat l)[i * 4 + 1]? = some (.slice r.A r.m r.c) ∧ (flat l)[i * 4 + 2]? = some (.bool r.b') ∧ (flat l)[i * 4 + 3]? = some (.slice r.A' r.m' r.c')
 | [], i, r, h => by simp at h
 | q :: l, 0, r, h => by simp at h; subst h; exact ⟨rfl, rfl, rfl, rfl⟩
 | q :: l, i + 1, r, h => by
   have h' : l[i]? = some r := by simpa using h
   have := flat_get l i r h'
   rw [show (i + 1) * 4 = i * 4 + 4 by omega]
   simpa [flat] using this
theorem flat_set : ∀ (l : List R4) (i : Nat) (r : R4), i < l.length → ((((flat l).set (i * 4) (.bool r.b)).set (i * 4 + 1) (.slice r.A r.m r.c)).set (i * 4 + 2) (.bool r.b')).set (i * 4 + 3) (.slice r.A' r.m' r.c') = flat (l.set i r)
 | [], i, r, h => by simp at h
 | q :: l, 0, r, h => by simp [flat]
 | q :: l, i + 1, r, h => by
   have := flat_set l i r (by simpa using h)
   rw [show (i + 1) * 4 = i * 4 + 4 by omega]
   simp [flat, this]

/-- Block g is just the fractions rs. -/
def Line (w : World) (g : Nat) (rs : List R4) : Prop := Loc w g 213 (flat rs).toArray
/-- The values of canonical fractions. -/
def ValV (w : World) (X : Nat → Prop) (rs : List R4) (f : Nat → Rat) : Prop := ∀ i r, rs[i]? = some r → RatV w X r.v (f i)
/-- The values of fractions of at most k words. -/
def ValL (k : Nat) (w : World) (X : Nat → Prop) (rs : List R4) (f : Nat → Rat) : Prop := ∀ i r, rs[i]? = some r → RatL k w X r.v (f i)

section
variable {w w' : World} {g k : Nat} {rs : List R4} {X Y : Nat → Prop} {f f' : Nat → Rat}
theorem Line.lt (h : Line w g rs) : g < w.heap.size := Loc.lt h
theorem Line.cells (h : Line w g rs) {i : Nat} {r : R4} (hr : rs[i]? = some r) : w.cell? ⟨g, i * 4, none⟩ = some (.bool r.b) ∧ w.cell? ⟨g, i * 4 + 1, none⟩ = some (.slice r.A r.m r.c) ∧ w.cell? ⟨g, i * 4 + 2, none⟩ = some (.bool r.b') ∧ w.cell? ⟨g, i * 4 + 3, none⟩ = some (.slice r.A' r.m' r.c') := by
 obtain ⟨h0, h1, h2, h3⟩ := flat_get rs i r hr
 simp only [Loc.cell h, List.getElem?_toArray]
 exact ⟨h0, h1, h2, h3⟩
theorem Line.frz (h : Line w g rs) : ∀ i, w.frozen? ⟨g, i, none⟩ = false := Loc.frz h
theorem Line.put (h : Line w g rs) {i : Nat} (hi : i < rs.length) (r : R4) : Line ((((w.setCell ⟨g, i * 4, none⟩ (.bool r.b)).setCell ⟨g, i * 4 + 1, none⟩ (.slice r.A r.m r.c)).setCell ⟨g, i * 4 + 2, none⟩ (.bool r.b')).setCell ⟨g, i * 4 + 3, none⟩ (.slice r.A' r.m' r.c')) g (rs.set i r) := by
 have := (((Loc.set h (i * 4) (.bool r.b)).set (i * 4 + 1) (.slice r.A r.m r.c)).set (i * 4 + 2) (.bool r.b')).set (i * 4 + 3) (.slice r.A' r.m' r.c')
 rw [List.setIfInBounds_toArray, List.setIfInBounds_toArray, List.setIfInBounds_toArray, List.setIfInBounds_toArray, flat_set rs i r hi] at this
 exact this
theorem ValV.keep (h : ValV w X rs f) (hk : Keep X w w') : ValV w' X rs f := fun i r hr => (h i r hr).keep hk
theorem ValV.weak (h : ValV w X rs f) (hY : ∀ b, b < w.heap.size → Y b → X b) : ValV w Y rs f := fun i r hr => (h i r hr).weak hY
theorem ValL.keep (h : ValL k w X rs f) (hk : Keep X w w') : ValL k w' X rs f := fun i r hr => (h i r hr).keep hk
theorem ValL.weak (h : ValL k w X rs f) (hY : ∀ b, b < w.heap.size → Y b → X b) : ValL k w Y rs f := fun i r hr => (h i r hr).weak hY
theorem ValV.len (h : ValV w X rs f) (hs : ∀ i, i < rs.length → Rsz k (f i)) : ValL k w X rs f := fun i r hr => (h i r hr).len (hs i (List.getElem?_eq_some_iff.1 hr).1)
theorem ValV.set (h : ValV w X rs f) {i : Nat} {r : R4} (hr : RatV w X r.v (f' i)) (hf : ∀ j, j ≠ i → f' j = f j) : ValV w X (rs.set i r) f' := fun j q hq => by
 by_cases hj : j = i
 ·subst hj
  rw [List.getElem?_set] at hq
  split at hq
  ·split at hq
   ·injection hq with hq; subst hq; exact hr
   ·simp at hq
  ·exact absurd rfl ‹_›
 ·rw [List.getElem?_set_ne (fun e => hj e.symm)] at hq
  rw [hf j hj]
  exact h j q hq
theorem ValV.congr (h : ValV w X rs f) (hf : ∀ i, i < rs.length → f' i = f i) : ValV w X rs f' := fun i r hr => by rw [hf i (List.getElem?_eq_some_iff.1 hr).1]; exact h i r hr
theorem ValV.push (h : ValV w X rs f) {r : R4} (hr : RatV w X r.v (f rs.length)) : ValV w X (rs ++ [r]) f := fun i q hq => by
 by_cases hi : i < rs.length
 ·rw [List.getElem?_append_left hi] at hq; exact h i q hq
 ·have := (List.getElem?_eq_some_iff.1 hq).1
  simp at this
  obtain rfl : i = rs.length := by omega
  simp at hq
  subst hq; exact hr
theorem ValL.push (h : ValL k w X rs f) {r : R4} (hr : RatL k w X r.v (f rs.length)) : ValL k w X (rs ++ [r]) f := fun i q hq => by
 by_cases hi : i < rs.length
 ·rw [List.getElem?_append_left hi] at hq; exact h i q hq
 ·have := (List.getElem?_eq_some_iff.1 hq).1
  simp at this
  obtain rfl : i = rs.length := by omega
  simp at hq
  subst hq; exact hr
end

theorem ValL.congr {k : Nat} {w : World} {X : Nat → Prop} {rs : List R4} {f f' : Nat → Rat} (h : ValL k w X rs f) (hf : ∀ i, i < rs.length → f' i = f i) : ValL k w X rs f' := fun i r hr => by rw [hf i (List.getElem?_eq_some_iff.1 hr).1]; exact h i r hr
theorem ValL.set {k : Nat} {w : World} {X : Nat → Prop} {rs : List R4} {f f' : Nat → Rat} (h : ValL k w X rs f) {i : Nat} {r : R4} (hr : RatL k w X r.v (f' i)) (hf : ∀ j, j ≠ i → j < rs.length → f' j = f j) : ValL k w X (rs.set i r) f' := fun j q hq => by
 by_cases hj : j = i
 ·subst hj
  rw [List.getElem?_set] at hq
  split at hq
  ·split at hq
   ·injection hq with hq; subst hq; exact hr
   ·simp at hq
  ·exact absurd rfl ‹_›
 ·rw [List.getElem?_set_ne (fun e => hj e.symm)] at hq
  rw [hf j hj (List.getElem?_eq_some_iff.1 hq).1]
  exact h j q hq
/-- A list of fractions that is read: n of them, at most k words in each part, of the values f. -/
def Nums (k : Nat) (w : World) (X : Nat → Prop) (v : Value) (n : Nat) (f : Nat → Rat) : Prop :=
 ∃ (rs : List R4) (A : Option Addr) (cap : Nat), rs.length = n ∧ v = .slice A n cap ∧ n ≤ cap ∧ cap ≤ maxLen ∧
   (n ≠ 0 → ∃ a : Addr, A = some a ∧ a.block < w.heap.size ∧ ¬ X a.block ∧ ∀ i r, rs[i]? = some r →
    w.cell? (a.add (i * 4)) = some (.bool r.b) ∧ w.cell? ((a.add (i * 4)).add 1) = some (.slice r.A r.m r.c) ∧ w.cell? ((a.add (i * 4)).add 2) = some (.bool r.b') ∧ w.cell? ((a.add (i * 4)).add 3) = some (.slice r.A' r.m' r.c')) ∧ ValL k w X rs f
/-- A list of lists that is read. -/
def Mat (k : Nat) (w : World) (X : Nat → Prop) (v : Value) (m : Nat) (N : Nat → Nat) (F : Nat → Nat → Rat) : Prop :=
 ∃ (us : List Value) (A : Option Addr) (cap : Nat), us.length = m ∧ v = .slice A m cap ∧ m ≤ cap ∧ cap ≤ maxLen ∧
   (m ≠ 0 → ∃ a : Addr, A = some a ∧ a.block < w.heap.size ∧ ¬ X a.block ∧ ∀ i u, us[i]? = some u → w.cell? (a.add i) = some u) ∧ ∀ i u, us[i]? = some u → Nums k w X u (N i) (F i)

section
variable {w w' : World} {g k j n m : Nat} {X Y : Nat → Prop} {v : Value} {f f' : Nat → Rat} {N : Nat → Nat} {F : Nat → Nat → Rat}
theorem add_block (a : Addr) (i : Nat) : (a.add i).block = a.block := by unfold Addr.add; split <;> rfl
theorem cell_keep {a : Addr} {u : Value} (h : w.cell? a = some u) (hb : a.block < w.heap.size) (hX : ¬ X a.block) (hk : Keep X w w') : w'.cell? a = some u := by
 have := hk.block a.block hb hX
 unfold World.cell? at h ⊢
 rw [this]; exact h
theorem Nums.keep (h : Nums k w X v n f) (hk : Keep X w w') : Nums k w' X v n f := by
 obtain ⟨rs, A, cap, h1, h2, h3, h4, h5, h6⟩ := h
 refine ⟨rs, A, cap, h1, h2, h3, h4, fun hn => ?_, h6.keep hk⟩
 obtain ⟨a, ea, hb, hX, hc⟩ := h5 hn
 refine ⟨a, ea, Nat.lt_of_lt_of_le hb hk.size, hX, fun i r hr => ?_⟩
 obtain ⟨c0, c1, c2, c3⟩ := hc i r hr
 have key : ∀ (p : Addr) (u : Value), p.block = a.block → w.cell? p = some u → w'.cell? p = some u := fun p u hp hu => cell_keep hu (by rw [hp]; exact hb) (by rw [hp]; exact hX) hk
 refine ⟨key _ _ ?_ c0, key _ _ ?_ c1, key _ _ ?_ c2, key _ _ ?_ c3⟩ <;> simp only [add_block]
theorem Nums.weak (h : Nums k w X v n f) (hY : ∀ b, b < w.heap.size → Y b → X b) : Nums k w Y v n f := by
 obtain ⟨rs, A, cap, h1, h2, h3, h4, h5, h6⟩ := h
 refine ⟨rs, A, cap, h1, h2, h3, h4, fun hn => ?_, h6.weak hY⟩
 obtain ⟨a, ea, hb, hX, hc⟩ := h5 hn
 exact ⟨a, ea, hb, fun hy => hX (hY _ hb hy), hc⟩
theorem Nums.mono (h : Nums k w X v n f) (hj : k ≤ j) : Nums j w X v n f := by
 obtain ⟨rs, A, cap, h1, h2, h3, h4, h5, h6⟩ := h
 exact ⟨rs, A, cap, h1, h2, h3, h4, h5, fun i r hr => (h6 i r hr).mono hj⟩
theorem Nums.congr (h : Nums k w X v n f) (hf : ∀ i, i < n → f' i = f i) : Nums k w X v n f' := by
 obtain ⟨rs, A, cap, h1, h2, h3, h4, h5, h6⟩ := h
 exact ⟨rs, A, cap, h1, h2, h3, h4, h5, fun i r hr => by rw [hf i (by rw [← h1]; exact (List.getElem?_eq_some_iff.1 hr).1)]; exact h6 i r hr⟩
theorem Nums.nil (k : Nat) (w : World) (X : Nat → Prop) (f : Nat → Rat) : Nums k w X (.slice none 0 0) 0 f := ⟨[], none, 0, rfl, rfl, Nat.le_refl _, Nat.zero_le _, fun h => absurd rfl h, fun i r h => by simp at h⟩
/-- The shape of a list that is read. -/
theorem Nums.op (h : Nums k w X v n f) : ∃ (A : Option Addr) (cap : Nat), v = .slice A n cap ∧ Nums k w X (.slice A n cap) n f ∧ n ≤ cap ∧ cap ≤ maxLen := by
 have h0 := h
 obtain ⟨rs, A, cap, h1, rfl, h3, h4, -⟩ := h
 exact ⟨A, cap, rfl, h0, h3, h4⟩
/-- An element of a list that is read. -/
theorem Nums.at {A : Option Addr} {cap : Nat} (h : Nums k w X (.slice A n cap) n f) {i : Nat} (hi : i < n) : ∃ (a : Addr) (b : Bool) (B : Option Addr) (p c : Nat) (b' : Bool) (B' : Option Addr) (p' c' : Nat), A = some a ∧ a.block < w.heap.size ∧ ¬ X a.block ∧
 w.cell? (a.add (i * 4)) = some (.bool b) ∧ w.cell? ((a.add (i * 4)).add 1) = some (.slice B p c) ∧ w.cell? ((a.add (i * 4)).add 2) = some (.bool b') ∧ w.cell? ((a.add (i * 4)).add 3) = some (.slice B' p' c') ∧
 RatL k w X (.agg #[.bool b, .slice B p c, .bool b', .slice B' p' c']) (f i) := by
 obtain ⟨rs, A1, cap1, h1, h2, h3, h4, h5, h6⟩ := h
 injection h2 with e1 e2 e3
 subst e1
 obtain ⟨a, ea, hb, hX, hc⟩ := h5 (by omega)
 have hr := List.getElem?_eq_getElem (l := rs) (i := i) (by omega)
 obtain ⟨c0, c1, c2, c3⟩ := hc i _ hr
 exact ⟨a, _, _, _, _, _, _, _, _, ea, hb, hX, c0, c1, c2, c3, h6 i _ hr⟩
theorem Mat.keep (h : Mat k w X v m N F) (hk : Keep X w w') : Mat k w' X v m N F := by
 obtain ⟨us, A, cap, h1, h2, h3, h4, h5, h6⟩ := h
 refine ⟨us, A, cap, h1, h2, h3, h4, fun hn => ?_, fun i u hu => (h6 i u hu).keep hk⟩
 obtain ⟨a, ea, hb, hX, hc⟩ := h5 hn
 exact ⟨a, ea, Nat.lt_of_lt_of_le hb hk.size, hX, fun i u hu => cell_keep (hc i u hu) (by rw [add_block]; exact hb) (by rw [add_block]; exact hX) hk⟩
theorem Mat.weak (h : Mat k w X v m N F) (hY : ∀ b, b < w.heap.size → Y b → X b) : Mat k w Y v m N F := by
 obtain ⟨us, A, cap, h1, h2, h3, h4, h5, h6⟩ := h
 refine ⟨us, A, cap, h1, h2, h3, h4, fun hn => ?_, fun i u hu => (h6 i u hu).weak hY⟩
 obtain ⟨a, ea, hb, hX, hc⟩ := h5 hn
 exact ⟨a, ea, hb, fun hy => hX (hY _ hb hy), hc⟩
theorem Mat.op (h : Mat k w X v m N F) : ∃ (A : Option Addr) (cap : Nat), v = .slice A m cap ∧ Mat k w X (.slice A m cap) m N F ∧ m ≤ cap ∧ cap ≤ maxLen := by
 have h0 := h
 obtain ⟨us, A, cap, h1, rfl, h3, h4, -⟩ := h
 exact ⟨A, cap, rfl, h0, h3, h4⟩
theorem Mat.at {A : Option Addr} {cap : Nat} (h : Mat k w X (.slice A m cap) m N F) {i : Nat} (hi : i < m) : ∃ (a : Addr) (B : Option Addr) (c : Nat), A = some a ∧ a.block < w.heap.size ∧ ¬ X a.block ∧ w.cell? (a.add i) = some (.slice B (N i) c) ∧ Nums k w X (.slice B (N i) c) (N i) (F i) ∧ N i ≤ c ∧ c ≤ maxLen := by
 obtain ⟨us, A1, cap1, h1, h2, h3, h4, h5, h6⟩ := h
 injection h2 with e1 e2 e3
 subst e1
 obtain ⟨a, ea, hb, hX, hc⟩ := h5 (by omega)
 have hr := List.getElem?_eq_getElem (l := us) (i := i) (by omega)
 obtain ⟨B, c, e, hn, hl, hm⟩ := (h6 i _ hr).op
 have := hc i _ hr
 rw [e] at this
 exact ⟨a, B, c, ea, hb, hX, this, hn, hl, hm⟩

theorem Line.nums {w : World} {g k n : Nat} {rs : List R4} {X Y : Nat → Prop} {f : Nat → Rat} (h : Line w g rs) (hv : ValL k w X rs f) (hn : rs.length = n) (hY : ∀ b, b < w.heap.size → Y b → X b) (hg : ¬ Y g) (hm : n ≤ maxLen) : Nums k w Y (.slice (some ⟨g, 0, none⟩) n n) n f := by
 refine ⟨rs, _, _, hn, rfl, Nat.le_refl _, hm, fun _ => ⟨_, rfl, h.lt, hg, fun i r hr => ?_⟩, hv.weak hY⟩
 obtain ⟨c0, c1, c2, c3⟩ := h.cells hr
 have e : ∀ i, (⟨g, 0, none⟩ : Addr).add i = ⟨g, i, none⟩ := fun i => by simp [Addr.add]; intro h; omega
 have e2 : ∀ i j, (⟨g, i, none⟩ : Addr).add j = ⟨g, i + j, none⟩ := fun i j => by simp [Addr.add]
 rw [e, e2, e2, e2]
 exact ⟨c0, c1, c2, c3⟩
end
/-- Nothing outside the blocks X has turned: the way is found by itself. -/
theorem kp {X : Nat → Prop} {w w' : World} (k : Keep X w w' := by
 repeat (first
  | (with_reducible exact Keep.refl _ _) | (with_reducible assumption) | (with_reducible refine Keep.drew ?_) | (with_reducible refine Keep.alloc ?_ _) | (with_reducible refine Keep.drewN ?_)
  | (with_reducible refine Keep.set ?_ ?_ _; rotate_left; (first | (left; rfl) | (right; simp only [zs]; omega) | (right; omega) | (left; simp only [Old, World.size_alloc, size_set, size_drew, size_drewN]; omega) | (left; assumption)))
  | (with_reducible refine Keep.on ?_ (by assumption)))
 fail_if_success exfalso) : Keep X w w' := k
theorem Keep.far {X : Nat → Prop} {w w' : World} (h : Keep X w w') {g : Nat} (hg : ¬ X g) : Stay g w w' := fun hl => ⟨h.block g hl hg, Nat.lt_of_lt_of_le hl h.size⟩

/- Lists of fractions that grow by append, or are made. -/

/-- A list of fractions that lies in a block of its own, at or above base. -/
def OwnR (w : World) (base : Nat) (v : Value) (rs : List R4) : Prop := w.ownsRow base 213 4 v rs.length (flat rs)

theorem OwnR.nil (w : World) (base : Nat) : OwnR w base (.slice none 0 0) [] := World.ownsRow_nil _ _ _ _

section
variable {w w' : World} {base k : Nat} {v : Value} {rs : List R4} {X Y : Nat → Prop} {f : Nat → Rat}
theorem OwnR.lt (h : OwnR w base v rs) {g : Nat} (hg : v.ownBlock = some g) : g < w.heap.size ∧ base ≤ g := by
 rcases h.2 with ⟨h', _⟩ | ⟨g', cap', cur, h', hb, hg', _, _, hsz, htake⟩
 ·rw [h'] at hg; cases hg
 ·rw [h'] at hg; injection hg with hg; subst hg
  exact ⟨(Array.getElem?_eq_some_iff.1 hg').1, hb⟩
theorem OwnR.nums (h : OwnR w base v rs) (hv : ValL k w X rs f) (hY : ∀ b, b < w.heap.size → Y b → X b) (hg : ∀ g, v.ownBlock = some g → ¬ Y g) : Nums k w Y v rs.length f := by
 have hl := h.1
 rcases h.2 with ⟨rfl, hn⟩ | ⟨g', cap', cur, rfl, _, hg', h1, h2, hsz, htake⟩
 ·rw [hn]; exact Nums.nil k w Y f
 ·refine ⟨rs, _, _, rfl, rfl, h1, h2, fun _ => ⟨_, rfl, (Array.getElem?_eq_some_iff.1 hg').1, hg _ rfl, fun i r hr => ?_⟩, hv.weak hY⟩
  obtain ⟨c0, c1, c2, c3⟩ := flat_get rs i r hr
  have hi := (List.getElem?_eq_some_iff.1 hr).1
  have e : ∀ i, (⟨g', 0, none⟩ : Addr).add i = ⟨g', i, none⟩ := fun i => by simp [Addr.add]; intro h; omega
  have e2 : ∀ i j, (⟨g', i, none⟩ : Addr).add j = ⟨g', i + j, none⟩ := fun i j => by simp [Addr.add]
  rw [e, e2, e2, e2]
  have key : ∀ (j : Nat) (u : Value), (flat rs)[j]? = some u → w.cell? ⟨g', j, none⟩ = some u := fun j u hu => by
   rw [cell_of_row w g' j cur _ (0, 0) hg']
   rw [← htake, List.getElem?_take] at hu
   split at hu
   ·simpa using hu
   ·cases hu
  exact ⟨key _ _ c0, key _ _ c1, key _ _ c2, key _ _ c3⟩
theorem OwnR.below (h : OwnR w base v rs) (hb : Below w.heap.size w w') : OwnR w' base v rs := by
 refine ⟨h.1, ?_⟩
 rcases h.2 with ⟨h', hn⟩ | ⟨g', cap', cur, h', h3, hg', h1, h2, hsz, htake⟩
 ·exact .inl ⟨h', hn⟩
 ·exact .inr ⟨g', cap', cur, h', h3, by rw [hb.block g' (Array.getElem?_eq_some_iff.1 hg').1]; exact hg', h1, h2, hsz, htake⟩
theorem OwnR.keep (h : OwnR w base v rs) (hb : Keep X w w') (hX : ∀ g, v.ownBlock = some g → ¬ X g) : OwnR w' base v rs := by
 refine ⟨h.1, ?_⟩
 rcases h.2 with ⟨h', hn⟩ | ⟨g', cap', cur, h', h3, hg', h1, h2, hsz, htake⟩
 ·exact .inl ⟨h', hn⟩
 ·exact .inr ⟨g', cap', cur, h', h3, by rw [hb.block g' (Array.getElem?_eq_some_iff.1 hg').1 (hX g' (by rw [h']; rfl))]; exact hg', h1, h2, hsz, htake⟩
end

/- Lists of one-cell elements that grow by append. -/

/-- A list of one-cell elements that lies in a block of its own, at or above base. -/
def Own1 (w : World) (base : Nat) (e : TypeId) (v : Value) (us : List Value) : Prop := w.ownsRow base e 1 v us.length us

section
variable {w w' : World} {base : Nat} {v : Value} {us : List Value} {X : Nat → Prop} {e : TypeId}
theorem Own1.nil (w : World) (base : Nat) (e : TypeId) : Own1 w base e (.slice none 0 0) [] := World.ownsRow_nil _ _ _ _
theorem Own1.lt (h : Own1 w base e v us) {g : Nat} (hg : v.ownBlock = some g) : g < w.heap.size ∧ base ≤ g := by
 rcases h.2 with ⟨h', _⟩ | ⟨g', cap', cur, h', hb, hg', _, _, hsz, htake⟩
 ·rw [h'] at hg; cases hg
 ·rw [h'] at hg; injection hg with hg; subst hg
  exact ⟨(Array.getElem?_eq_some_iff.1 hg').1, hb⟩
theorem Own1.below (h : Own1 w base e v us) (hb : Below w.heap.size w w') : Own1 w' base e v us := by
 refine ⟨h.1, ?_⟩
 rcases h.2 with ⟨h', hn⟩ | ⟨g', cap', cur, h', h3, hg', h1, h2, hsz, htake⟩
 ·exact .inl ⟨h', hn⟩
 ·exact .inr ⟨g', cap', cur, h', h3, by rw [hb.block g' (Array.getElem?_eq_some_iff.1 hg').1]; exact hg', h1, h2, hsz, htake⟩
theorem Own1.keep (h : Own1 w base e v us) (hb : Keep X w w') (hX : ∀ g, v.ownBlock = some g → ¬ X g) : Own1 w' base e v us := by
 refine ⟨h.1, ?_⟩
 rcases h.2 with ⟨h', hn⟩ | ⟨g', cap', cur, h', h3, hg', h1, h2, hsz, htake⟩
 ·exact .inl ⟨h', hn⟩
 ·exact .inr ⟨g', cap', cur, h', h3, by rw [hb.block g' (Array.getElem?_eq_some_iff.1 hg').1 (hX g' (by rw [h']; rfl))]; exact hg', h1, h2, hsz, htake⟩
/-- The shape of such a list that is not empty. -/
theorem Own1.op (h : Own1 w base e v us) : (v = .slice none 0 0 ∧ us = []) ∨ ∃ (g cap : Nat) (cur : Array Value), v = .slice (some ⟨g, 0, none⟩) us.length cap ∧ base ≤ g ∧ us.length ≤ cap ∧ Loc w g e cur ∧ ∀ (i : Nat) (u : Value), us[i]? = some u → cur[i]? = some u := by
 have hl := h.1
 rcases h.2 with ⟨h', hn⟩ | ⟨g', cap', cur, h', h3, hg', h1, h2, hsz, htake⟩
 ·exact .inl ⟨h', List.length_eq_zero_iff.1 hn⟩
 ·refine .inr ⟨g', cap', cur, h', h3, h1, hg', fun i u hu => ?_⟩
  have hi := (List.getElem?_eq_some_iff.1 hu).1
  rw [← htake, List.getElem?_take] at hu
  split at hu
  ·simpa using hu
  ·cases hu
end

theorem ValL.up {k j : Nat} {w : World} {X : Nat → Prop} {rs : List R4} {f : Nat → Rat} (h : ValL k w X rs f) (hj : k ≤ j) : ValL j w X rs f := fun i r hr => (h i r hr).mono hj
/-- The first d values are canonical. -/
def ValP (d : Nat) (w : World) (X : Nat → Prop) (rs : List R4) (f : Nat → Rat) : Prop := ∀ i r, i < d → rs[i]? = some r → RatV w X r.v (f i)
theorem ValP.keep {d : Nat} {w w' : World} {X : Nat → Prop} {rs : List R4} {f : Nat → Rat} (h : ValP d w X rs f) (hk : Keep X w w') : ValP d w' X rs f := fun i r hi hr => (h i r hi hr).keep hk
theorem ValP.zero (w : World) (X : Nat → Prop) (rs : List R4) (f : Nat → Rat) : ValP 0 w X rs f := fun i r hi _ => absurd hi (Nat.not_lt_zero i)
theorem ValP.set {d : Nat} {w : World} {X : Nat → Prop} {rs : List R4} {f : Nat → Rat} (h : ValP d w X rs f) {r : R4} (hr : RatV w X r.v (f d)) : ValP (d + 1) w X (rs.set d r) f := fun j q hj hq => by
 by_cases hjd : j = d
 ·subst hjd
  rw [List.getElem?_set] at hq
  split at hq
  ·split at hq
   ·injection hq with hq; subst hq; exact hr
   ·simp at hq
  ·exact absurd rfl ‹_›
 ·rw [List.getElem?_set_ne (fun e => hjd e.symm)] at hq
  exact h j q (by omega) hq
theorem ValP.all {d : Nat} {w : World} {X : Nat → Prop} {rs : List R4} {f : Nat → Rat} (h : ValP d w X rs f) (hd : rs.length = d) : ValV w X rs f := fun i r hr => h i r (by rw [← hd]; exact (List.getElem?_eq_some_iff.1 hr).1) hr

/-- One element appended. -/
theorem wp_push1 {o : Oper} {a : Act} {K : Act → World → Prop} {Q : Exit → Act → World → Prop} {t e : TypeId} {z : Value} {bytes : Nat} (w : World) (s x : Operand) (ho : o.op = .call { callee := .builtin .append, args := #[s, x], argTypes := #[t, t] })
 (ht : Tryz.prog.underlying t = some (.slice e)) (hE : (Tryz.prog.info? e).map (fun i => (i.zero, i.size, i.bytes)) = some (some z, 1, bytes)) (hzs : z.cells.size = 1) (hb : bytes ≤ 64)
 (base : Nat) (v : Value) (us : List Value) (hs : a.eval s = v) (hown : Own1 w base e v us) (H : Nat) (u : Value) (hx : a.eval x = .slice (some ⟨H, 0, none⟩) 1 1) (hH : w.heap[H]? = some (.cells #[u] e (0, 0))) (hu : u.oneCell' = true)
 (hn : us.length ≤ 1000) (hbase : base ≤ w.heap.size)
 (h : ∀ g cap w', Own1 w' base e (.slice (some ⟨g, 0, none⟩) (us.length + 1) cap) (us ++ [u]) → w.grownBy w' v.ownBlock → (v.ownBlock = some g ∨ g = w.heap.size) → g < w'.heap.size → K (a.put o.dst (.slice (some ⟨g, 0, none⟩) (us.length + 1) cap)) w') :
 Oper.wp Tryz.prog o a w K Q := by
 obtain ⟨i, hi, hz0, hz1, hz2⟩ := info_parts hE
 refine wp_append_lies w s x t ho base e i z 1 bytes ht hi hz0 hz1 hz2 hzs (by omega) v us.length us hs hown ⟨H, 0, none⟩ 1 1 [u] hx (by simp) (fun j u' hu' => World.news_of_block hH j u' (by simpa using hu')) (by simpa using hu) (by omega) (by unfold maxLen; omega) (by have := Nat.mul_le_mul (show us.length + 1 ≤ 1001 by omega) hb; omega) hbase _ rfl ?_
 intro g cap w' h1 h2 h3 h4
 refine h g cap w' ?_ h2 h3 h4
 unfold Own1
 rw [List.length_append]
 exact h1
theorem info_int1 : (Tryz.prog.info? 3).map (fun i => (i.zero, i.size, i.bytes)) = some (some (.int .i64 0), 1, 8) := by kernel_rfl
end Go.Proofs.YtbdcjhoedhhabaaGreat

