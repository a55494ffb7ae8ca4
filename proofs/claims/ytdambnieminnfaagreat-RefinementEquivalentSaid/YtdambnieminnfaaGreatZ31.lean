/- Contracts of the functions that the statements reach, part 31. -/
import Derived.Test.YtdambnieminnfaaGreatRows
import Derived.Test.YtdambnieminnfaaGreatZ13
import Derived.Test.YtdambnieminnfaaGreatZ14
import Derived.Test.YtdambnieminnfaaGreatZ15
import Derived.Test.YtdambnieminnfaaGreatZ16
import Derived.Test.YtdambnieminnfaaGreatZ30
set_option linter.unusedSimpArgs false
set_option linter.unusedVariables false

/- The entries of every tableau are small: Siegel's pigeonhole. -/
namespace Go.Proofs.YtdambnieminnfaaGreat

def smI : Nat → (Nat → Int) → Int
 | 0, _ => 0
 | m + 1, f => smI m f + f m
theorem smI_cast (f : Nat → Int) : ∀ m, ((smI m f : Int) : Rat) = sm m (fun i => ((f i : Int) : Rat))
 | 0 => rfl
 | m + 1 => by unfold smI; rw [sm_succ, Rat.intCast_add, smI_cast f m]
theorem smI_sub (f g : Nat → Int) : ∀ m, smI m (fun i => f i - g i) = smI m f - smI m g
 | 0 => rfl
 | m + 1 => by unfold smI; rw [smI_sub f g m]; dsimp only; omega
theorem smI_congr {f g : Nat → Int} : ∀ {m : Nat}, (∀ i, i < m → f i = g i) → smI m f = smI m g
 | 0, _ => rfl
 | m + 1, h => by unfold smI; rw [smI_congr (m := m) (fun i hi => h i (by omega)), h m (by omega)]
theorem smI_abs (f : Nat → Int) (A : Nat) : ∀ m, (∀ i, i < m → (f i).natAbs ≤ A) → (smI m f).natAbs ≤ m * A
 | 0, _ => by simp [smI]
 | m + 1, h => by
   unfold smI
   have h1 := smI_abs f A m (fun i hi => h i (by omega))
   have h2 := h m (by omega)
   rw [Nat.add_mul]
   omega

/-- A number's digits to the base B. -/
theorem digits_inj (B : Nat) (hB : 0 < B) : ∀ (k s t : Nat), s < B ^ k → t < B ^ k → (∀ i, i < k → s / B ^ i % B = t / B ^ i % B) → s = t
 | 0, s, t, hs, ht, _ => by simp at hs ht; omega
 | k + 1, s, t, hs, ht, h => by
   have h0 := h 0 (by omega)
   simp at h0
   have hd : s / B = t / B := digits_inj B hB k (s / B) (t / B) (by rw [Nat.pow_succ, Nat.mul_comm] at hs; exact Nat.div_lt_of_lt_mul hs) (by rw [Nat.pow_succ, Nat.mul_comm] at ht; exact Nat.div_lt_of_lt_mul ht) (fun i hi => by
    have := h (i + 1) (by omega)
    rwa [Nat.pow_succ, Nat.mul_comm, ← Nat.div_div_eq_div_mul, ← Nat.div_div_eq_div_mul] at this)
   have e1 := Nat.div_add_mod s B
   have e2 := Nat.div_add_mod t B
   rw [hd, h0] at e1
   omega

theorem siegel (m a : Nat) (ha : 0 < a) (M : Nat → Nat → Int) (hM : ∀ l, l < m → ∀ i, i < m + 1 → (M l i).natAbs ≤ a) :
 ∃ z : Nat → Int, (∃ i, i < m + 1 ∧ z i ≠ 0) ∧ (∀ i, i < m + 1 → (z i).natAbs ≤ (2 * ((m + 1) * a)) ^ m) ∧ ∀ l, l < m → smI (m + 1) (fun i => M l i * z i) = 0 := by
 obtain ⟨Q, hQ⟩ : ∃ Q, (m + 1) * a = Q := ⟨_, rfl⟩
 have hQ0 : 0 < Q := by rw [← hQ]; exact Nat.mul_pos (by omega) ha
 obtain ⟨X, hX⟩ : ∃ X, (2 * Q) ^ m = X := ⟨_, rfl⟩
 rw [hQ, hX]
 let x : Nat → Nat → Nat := fun t i => t / (X + 1) ^ i % (X + 1)
 have hx : ∀ t i, x t i ≤ X := fun t i => by have := Nat.mod_lt (t / (X + 1) ^ i) (show 0 < X + 1 by omega); show t / (X + 1) ^ i % (X + 1) ≤ X; omega
 let v : Nat → Nat → Int := fun t l => smI (m + 1) (fun i => M l i * (x t i : Int))
 have hv : ∀ t l, l < m → (v t l).natAbs ≤ Q * X := fun t l hl => by
  have := smI_abs (fun i => M l i * (x t i : Int)) (a * X) (m + 1) (fun i hi => by
   rw [Int.natAbs_mul, Int.natAbs_natCast]
   exact Nat.mul_le_mul (hM l hl i hi) (hx t i))
  rw [← Nat.mul_assoc, hQ] at this
  exact this
 let code : Nat → Nat := fun t => enc (2 * (Q * X) + 1) (fun l => (v t l + (Q * X : Nat)).toNat) m
 have hd : ∀ t l, l < m → (v t l + (Q * X : Nat)).toNat < 2 * (Q * X) + 1 := fun t l hl => by have := hv t l hl; omega
 have hN : (2 * (Q * X) + 1) ^ m < (X + 1) ^ (m + 1) := by
  have h1 : (2 * (Q * X) + 1) ^ m ≤ (2 * Q * (X + 1)) ^ m := Nat.pow_le_pow_left (by rw [Nat.mul_add, Nat.mul_assoc]; omega) m
  rw [Nat.mul_pow, hX] at h1
  have h2 : X * (X + 1) ^ m < (X + 1) * (X + 1) ^ m := Nat.mul_lt_mul_of_pos_right (by omega) (Nat.pow_pos (by omega))
  rw [Nat.pow_succ, Nat.mul_comm ((X + 1) ^ m)]
  omega
 obtain ⟨s, t, hst, ht, he⟩ := pig _ code (fun t _ => enc_lt _ _ m (hd t))
 have hval := enc_inj _ _ _ m (hd s) (hd t) he
 refine ⟨fun i => (x s i : Int) - (x t i : Int), ?_, fun i _ => by have := hx s i; have := hx t i; show ((x s i : Int) - (x t i : Int)).natAbs ≤ X; omega, fun l hl => ?_⟩
 ·refine Classical.byContradiction fun hno => ?_
  have := digits_inj (X + 1) (by omega) (m + 1) s t (by omega) (by omega) (fun i hi => by
   by_cases h : (x s i : Int) - (x t i : Int) = 0
   ·have : x s i = x t i := by omega
    exact this
   ·exact absurd ⟨i, hi, h⟩ hno)
  omega
 ·have h1 := hval l hl
  have h2 := hv s l hl
  have h3 := hv t l hl
  have h4 : v s l = v t l := by omega
  rw [smI_congr (g := fun i => M l i * (x s i : Int) - M l i * (x t i : Int)) (fun i _ => by rw [Int.mul_sub]), smI_sub]
  show v s l - v t l = 0
  omega

/-- The start's rows, each times a positive integer, are integers of at most a. -/
def Whole (m n a : Nat) (T0 : Nat → Nat → Rat) : Prop := ∃ (D : Nat → Nat) (I : Nat → Nat → Int), ∀ l, l < m → 0 < D l ∧ ∀ c, c ≤ n + m → (I l c).natAbs ≤ a ∧ ((D l : Nat) : Rat) * T0 l c = ((I l c : Int) : Rat)

theorem Good.size {m n a k : Nat} {T0 T : Nat → Nat → Rat} {b : Nat → Nat} (G : Good m n T0 T b) (ha : 0 < a) (hW : Whole m n a T0) (hk : (2 * ((m + 1) * a)) ^ m < 4294967296 ^ k) (hk1 : 1 ≤ k) :
 ∀ i, i < m → ∀ c, c ≤ n + m → Rsz k (T i c) := fun i hi c hc => by
 obtain ⟨D, I, hDI⟩ := hW
 obtain ⟨z, ⟨i0, hi0, hz0⟩, hz, hs⟩ := siegel m a ha (fun l i => I l (if i = m then c else b i)) (fun l hl i hi => by
  by_cases him : i = m
  ·rw [if_pos him]; exact ((hDI l hl).2 c hc).1
  ·rw [if_neg him]; exact ((hDI l hl).2 (b i) (by have := G.lt i (by omega); omega)).1)
 have h0 : ∀ l, l < m → sm m (fun i => T0 l (b i) * (z i : Rat)) + T0 l c * (z m : Rat) = 0 := fun l hl => by
  have h1 := congrArg (fun q : Int => (q : Rat)) (hs l hl)
  rw [smI_cast, sm_succ] at h1
  have hD := (hDI l hl).1
  have e : sm m (fun i => ((I l (if i = m then c else b i) * z i : Int) : Rat)) = (D l : Rat) * sm m (fun i => T0 l (b i) * (z i : Rat)) := by
   rw [← sm_mul]
   refine sm_congr (fun i hi => ?_)
   rw [if_neg (by omega), Rat.intCast_mul, ← ((hDI l hl).2 (b i) (by have := G.lt i hi; omega)).2]; grind
  rw [e, if_pos rfl, Rat.intCast_mul, ← ((hDI l hl).2 c hc).2] at h1
  have hD2 : (D l : Rat) ≠ 0 := by
   intro h
   have : ((D l : Nat) : Rat) = ((0 : Nat) : Rat) := h
   rw [Rat.natCast_inj] at this
   omega
  have h3 : (D l : Rat) * (sm m (fun i => T0 l (b i) * (z i : Rat)) + T0 l c * (z m : Rat)) = 0 := by
   have : ((0 : Int) : Rat) = 0 := rfl
   grind
  rcases Rat.mul_eq_zero.1 h3 with h | h
  ·exact absurd h hD2
  ·exact h
 have hrow : ∀ k, k < m → (z k : Rat) + T k c * (z m : Rat) = 0 := fun k hk => by
  have e1 : sm m (fun l => T k (n + l) * (sm m (fun i => T0 l (b i) * (z i : Rat)) + T0 l c * (z m : Rat))) = 0 := sm_zero (fun l hl => by rw [h0 l hl]; grind)
  rw [sm_congr (g := fun l => sm m (fun i => T k (n + l) * (T0 l (b i) * (z i : Rat))) + (z m : Rat) * (T k (n + l) * T0 l c)) (fun l _ => by rw [sm_mul]; grind), sm_add, sm_mul, ← G.fw k hk c hc, sm_swap,
   sm_congr (f := fun l => sm m fun i => T k (n + i) * (T0 i (b l) * (z l : Rat))) (g := fun i => T k (b i) * (z i : Rat)) (fun i hi => by
    rw [G.fw k hk (b i) (by have := G.lt i hi; omega), sm_congr (g := fun l => (z i : Rat) * (T k (n + l) * T0 l (b i))) (fun l _ => by grind), sm_mul]; grind),
   sm_one _ k hk (fun i hi hne => by rw [G.id i hi k hk, if_neg (fun e => hne e.symm)]; grind), G.id k hk k hk, if_pos rfl] at e1
  grind
 have hzm : z m ≠ 0 := fun h => by
  have hz' : (z m : Rat) = 0 := by rw [h]; rfl
  by_cases him : i0 = m
  ·rw [him] at hz0; exact hz0 h
  ·have := hrow i0 (by omega)
   rw [hz'] at this
   have h2 : ((z i0 : Int) : Rat) = ((0 : Int) : Rat) := by
    have : ((0 : Int) : Rat) = 0 := rfl
    grind
   rw [Rat.intCast_inj] at h2
   exact hz0 h2
 have hq : T i c = Rat.divInt (-z i) (z m) := by
  have h1 := hrow i hi
  have h2 : (z m : Rat) ≠ 0 := fun h => hzm (by
   have : ((z m : Int) : Rat) = ((0 : Int) : Rat) := h
   rwa [Rat.intCast_inj] at this)
  rw [Rat.divInt_eq_div, Rat.intCast_neg]
  grind
 rw [hq]
 exact divInt_Rsz hk1 (dig_len_le (by rw [Int.natAbs_neg]; exact Nat.lt_of_le_of_lt (hz i (by omega)) hk)) (dig_len_le (Nat.lt_of_le_of_lt (hz m (by omega)) hk))

/- The first tableau: its values, and the sizes of all that follow. -/

/-- The sign of an equation. -/
def sgn (Bv : Nat → Rat) (l : Nat) : Int := if Bv l < 0 then -1 else 1
theorem sgn_or (Bv : Nat → Rat) (l : Nat) : sgn Bv l = 1 ∨ sgn Bv l = -1 := by unfold sgn; split <;> simp
/-- The first tableau. -/
def t0 (m n : Nat) (F : Nat → Nat → Rat) (Bv : Nat → Rat) : Nat → Nat → Rat := fun l c => if c < n then ((sgn Bv l : Int) : Rat) * F l c else if c = n + m then ((sgn Bv l : Int) : Rat) * Bv l else if c = n + l then 1 else 0
/-- Its cost, after some rows. -/
def c0 (m n : Nat) (F : Nat → Nat → Rat) (Bv : Nat → Rat) (r : Nat) : Nat → Rat := fun c => if c < n ∨ c = n + m then -sm r (fun i => t0 m n F Bv i c) else 0

section
variable {m n k j r : Nat} {F : Nat → Nat → Rat} {Bv d : Nat → Rat}
theorem t0_unit {i l : Nat} (hi : i < m) : t0 m n F Bv l (n + i) = if l = i then 1 else 0 := by
 unfold t0
 rw [if_neg (by omega), if_neg (by omega)]
 by_cases h : l = i
 ·rw [if_pos h, if_pos (by omega)]
 ·rw [if_neg h, if_neg (by omega)]
theorem t0_good : Good m n (t0 m n F Bv) (t0 m n F Bv) (fun i => n + i) := Good.start (fun _ hi _ _ => t0_unit hi)
theorem t0_right (l : Nat) : t0 m n F Bv l (n + m) = ((sgn Bv l : Int) : Rat) * Bv l := by unfold t0; rw [if_neg (by omega), if_pos rfl]
theorem t0_left {l c : Nat} (hc : c < n) : t0 m n F Bv l c = ((sgn Bv l : Int) : Rat) * F l c := by unfold t0; rw [if_pos hc]
theorem t0_feas : Feas m n ⟨t0 m n F Bv, fun i => n + i⟩ := fun i hi => by
 show 0 ≤ t0 m n F Bv i (n + m)
 rw [t0_right]
 unfold sgn
 split
 ·rw [show ((-1 : Int) : Rat) = -1 from rfl]; grind
 ·rw [show ((1 : Int) : Rat) = 1 from rfl]; grind
theorem c0_zero (c : Nat) : c0 m n F Bv 0 c = 0 := by unfold c0 sm; split <;> grind
theorem c0_succ (r c : Nat) : c0 m n F Bv (r + 1) c = if c < n ∨ c = n + m then c0 m n F Bv r c - t0 m n F Bv r c else c0 m n F Bv r c := by
 unfold c0
 by_cases h : c < n ∨ c = n + m
 ·rw [if_pos h, if_pos h, if_pos h, sm_succ]; grind
 ·rw [if_neg h, if_neg h, if_neg h]
theorem c0_rho {c : Nat} (hc : c ≤ n + m) : rho m (d1 m n) (t0 m n F Bv) (fun i => n + i) c = c0 m n F Bv m c := by
 unfold rho c0
 rw [sm_congr (g := fun i => t0 m n F Bv i c) (fun i hi => by
  have : d1 m n (n + i) = 1 := by unfold d1; rw [if_pos (by omega)]
  rw [this]; grind)]
 by_cases h : c < n ∨ c = n + m
 ·have : d1 m n c = 0 := by unfold d1; rw [if_neg (by omega)]
  rw [if_pos h, this]; grind
 ·have h2 : d1 m n c = 1 := by unfold d1; rw [if_pos (by omega)]
  rw [if_neg h, h2, sm_one _ (c - n) (by omega) (fun i hi hne => by
   have e : c = n + (c - n) := by omega
   rw [e, t0_unit (by omega), if_neg hne])]
  have e : c = n + (c - n) := by omega
  have h3 := t0_unit (m := m) (n := n) (F := F) (Bv := Bv) (i := c - n) (l := c - n) (by omega)
  rw [← e, if_pos rfl] at h3
  rw [h3]; grind

theorem Rsz.lt {q : Rat} (h : Rsz k q) : q.num.natAbs < 4294967296 ^ k ∧ q.den < 4294967296 ^ k := by
 have key : ∀ x : Nat, (dig x).length ≤ k → x < 4294967296 ^ k := fun x hx => by
  have h1 := val_lt (can_dig x).1
  rw [val_dig] at h1
  exact Nat.lt_of_lt_of_le h1 (Nat.pow_le_pow_right (by decide) hx)
 exact ⟨key _ h.1, by have := key _ h.2; simpa using this⟩
theorem rsz_sgn {q : Rat} (l : Nat) (h : Rsz k q) : Rsz k (((sgn Bv l : Int) : Rat) * q) := by
 unfold sgn
 split
 ·rw [show ((-1 : Int) : Rat) * q = -q by rw [show ((-1 : Int) : Rat) = -1 from rfl]; grind]; exact h.neg
 ·rw [show ((1 : Int) : Rat) * q = q by rw [show ((1 : Int) : Rat) = 1 from rfl]; grind]; exact h
theorem prc_size {K L : Nat} {S : St} (hT : ∀ r, r < m → ∀ c, c ≤ n + m → Rsz K (S.T r c)) (hb : ∀ i, i < m → S.b i < n + m) (hd : ∀ c, c ≤ n + m → Rsz j (d c)) (hj : 2 ≤ j) (hL : j + (j + K + 1) * m + 3 ≤ L) : ∀ r, r ≤ m → ∀ c, c ≤ n + m → Rsz L (d c - sm r (fun i => d (S.b i) * S.T i c)) := by
 have hs : ∀ r, r ≤ m → ∀ c, c ≤ n + m → Rsz ((j + K + 1) * r + 2) (sm r (fun i => d (S.b i) * S.T i c)) := fun r => by
  induction r with
  | zero => intro _ c _; exact rsz_int (z := 0) (by decide) (by decide)
  | succ r ih =>
    intro hr c hc
    rw [sm_succ]
    exact ((ih (by omega) c hc).add ((hd _ (by have := hb r (by omega); omega)).mul (hT r (by omega) c hc))).mono (by rw [Nat.mul_add]; omega)
 intro r hr c hc
 have h := (hd c hc).add (hs r hr c hc).neg
 rw [show d c + -sm r (fun i => d (S.b i) * S.T i c) = d c - sm r (fun i => d (S.b i) * S.T i c) by grind] at h
 refine h.mono ?_
 have := Nat.mul_le_mul_left (j + K + 1) hr
 omega
theorem rsz_d1 (c : Nat) : Rsz 2 (d1 m n c) := by
 unfold d1
 split
 ·exact rsz_int (z := 1) (by decide) (by decide)
 ·exact rsz_int (z := 0) (by decide) (by decide)
end
end Go.Proofs.YtdambnieminnfaaGreat

/- The first tableau while it grows. -/
namespace Go.Proofs.YtdambnieminnfaaGreat
open Go.RowKit

def sgl (Bv : Nat → Rat) (c : Nat) : List Value := (List.range c).map fun i => .int .i64 (sgn Bv i)
def rwl (G : Nat → Nat) (N c : Nat) : List Value := (List.range c).map fun i => .slice (some ⟨G i, 0, none⟩) N N
def bsl (n c : Nat) : List Value := (List.range c).map fun i => .int .i64 ((n + i : Nat) : Int)
section
variable {Bv : Nat → Rat} {G G' : Nat → Nat} {N n c i : Nat}
theorem sgl_len : (sgl Bv c).length = c := by simp [sgl]
theorem rwl_len : (rwl G N c).length = c := by simp [rwl]
theorem bsl_len : (bsl n c).length = c := by simp [bsl]
theorem sgl_succ : sgl Bv (c + 1) = sgl Bv c ++ [.int .i64 (sgn Bv c)] := by simp [sgl, List.range_succ]
theorem rwl_succ : rwl G N (c + 1) = rwl G N c ++ [.slice (some ⟨G c, 0, none⟩) N N] := by simp [rwl, List.range_succ]
theorem bsl_succ : bsl n (c + 1) = bsl n c ++ [.int .i64 ((n + c : Nat) : Int)] := by simp [bsl, List.range_succ]
theorem sgl_get (h : i < c) : (sgl Bv c)[i]? = some (.int .i64 (sgn Bv i)) := by simp [sgl, h]
theorem rwl_get (h : i < c) : (rwl G N c)[i]? = some (.slice (some ⟨G i, 0, none⟩) N N) := by simp [rwl, h]
theorem bsl_get (h : i < c) : (bsl n c)[i]? = some (.int .i64 ((n + i : Nat) : Int)) := by simp [bsl, h]
theorem rwl_congr (h : ∀ i, i < c → G' i = G i) : rwl G' N c = rwl G N c := by
 unfold rwl
 refine List.map_congr_left (fun i hi => ?_)
 rw [h i (by simpa using hi)]
end

/-- The tableau with c rows; K tells what each block is. -/
structure Beg (B : Nat) (w : World) (m n c : Nat) (F : Nat → Nat → Rat) (Bv : Nat → Rat) (gp gc : Nat) (vS vR vB : Value) (G K : Nat → Nat) : Prop where
 box : Loc w gp 127 #[.int .i64 n, vS, vR, .slice (some ⟨gc, 0, none⟩) (n + m + 1) (n + m + 1), vB]
 oS : Own1 w B 3 vS (sgl Bv c)
 oR : Own1 w B 55 vR (rwl G (n + m + 1) c)
 oB : Own1 w B 3 vB (bsl n c)
 rows : ∀ i, i < c → Rw w (fun b => K b ≠ 0) (G i) (n + m + 1) (t0 m n F Bv i)
 cost : Rc w (fun b => K b ≠ 0) gc (n + m + 1) (c0 m n F Bv c)
 kp : K gp = 1
 kc : K gc = 2
 kS : ∀ g, vS.ownBlock = some g → K g = 3
 kR : ∀ g, vR.ownBlock = some g → K g = 4
 kB : ∀ g, vB.ownBlock = some g → K g = 5
 kG : ∀ i, i < c → K (G i) = 6 + i
 lt : ∀ b, K b ≠ 0 → B ≤ b ∧ b < w.heap.size

section
variable {B m n c gp gc : Nat} {w w4 w5 : World} {F : Nat → Nat → Rat} {Bv : Nat → Rat} {vS vR vB : Value} {G K : Nat → Nat}
theorem Beg.next (h : Beg B w m n c F Bv gp gc vS vR vB G K) {gRow gS gR gB capS capR capB : Nat}
 (h4 : Keep (fun b => b = gc) w w4) (hB : B ≤ w.heap.size) (hg : w.heap.size ≤ gRow)
 (row : Rw w4 (fun b => b = gRow ∨ K b ≠ 0) gRow (n + m + 1) (t0 m n F Bv c)) (cost : Rc w4 (fun b => b = gRow ∨ K b ≠ 0) gc (n + m + 1) (c0 m n F Bv (c + 1)))
 (h5 : Keep (fun b => b = gp ∨ vS.ownBlock = some b ∨ vR.ownBlock = some b ∨ vB.ownBlock = some b) w4 w5)
 (hR : vR.ownBlock = some gR ∨ w4.heap.size ≤ gR) (hS : vS.ownBlock = some gS ∨ w4.heap.size ≤ gS) (hBb : vB.ownBlock = some gB ∨ w4.heap.size ≤ gB) (dRS : gR ≠ gS) (dRB : gR ≠ gB) (dSB : gS ≠ gB)
 (lR : gR < w5.heap.size) (lS : gS < w5.heap.size) (lB : gB < w5.heap.size)
 (box : Loc w5 gp 127 #[.int .i64 n, .slice (some ⟨gS, 0, none⟩) (c + 1) capS, .slice (some ⟨gR, 0, none⟩) (c + 1) capR, .slice (some ⟨gc, 0, none⟩) (n + m + 1) (n + m + 1), .slice (some ⟨gB, 0, none⟩) (c + 1) capB])
 (oS : Own1 w5 B 3 (.slice (some ⟨gS, 0, none⟩) (c + 1) capS) (sgl Bv c ++ [.int .i64 (sgn Bv c)]))
 (oR : Own1 w5 B 55 (.slice (some ⟨gR, 0, none⟩) (c + 1) capR) (rwl G (n + m + 1) c ++ [.slice (some ⟨gRow, 0, none⟩) (n + m + 1) (n + m + 1)]))
 (oB : Own1 w5 B 3 (.slice (some ⟨gB, 0, none⟩) (c + 1) capB) (bsl n c ++ [.int .i64 ((n + c : Nat) : Int)])) :
 ∃ G' K', Beg B w5 m n (c + 1) F Bv gp gc (.slice (some ⟨gS, 0, none⟩) (c + 1) capS) (.slice (some ⟨gR, 0, none⟩) (c + 1) capR) (.slice (some ⟨gB, 0, none⟩) (c + 1) capB) G' K' := by
 have s4 := h4.size
 have s5 := h5.size
 have lrow := row.lt
 have lcost := cost.lt
 have hgp := h.lt gp (by rw [h.kp]; decide)
 have hgc := h.lt gc (by rw [h.kc]; decide)
 have eR : K gR = 4 ∧ gR < w.heap.size ∨ w4.heap.size ≤ gR := hR.imp (fun e => ⟨h.kR _ e, (h.oR.lt e).1⟩) id
 have eS : K gS = 3 ∧ gS < w.heap.size ∨ w4.heap.size ≤ gS := hS.imp (fun e => ⟨h.kS _ e, (h.oS.lt e).1⟩) id
 have eB : K gB = 5 ∧ gB < w.heap.size ∨ w4.heap.size ≤ gB := hBb.imp (fun e => ⟨h.kB _ e, (h.oB.lt e).1⟩) id
 have kpp := h.kp
 have kcc := h.kc
 have hne : ∀ {a b : Nat}, K a ≠ K b → a ≠ b := fun h e => h (by rw [e])
 have dS : gS ≠ gRow := by omega
 have dR : gR ≠ gRow := by omega
 have dB : gB ≠ gRow := by omega
 -- a block of another kind is none of the lists'
 have other : ∀ b, b < w.heap.size → K b ≠ 3 → K b ≠ 4 → K b ≠ 5 → b ≠ gS ∧ b ≠ gR ∧ b ≠ gB ∧ b ≠ gRow := fun b hb h3 h4 h5 => by
  refine ⟨?_, ?_, ?_, by omega⟩
  ·rcases eS with ⟨k1, l1⟩ | l1
   ·exact hne (by omega)
   ·omega
  ·rcases eR with ⟨k1, l1⟩ | l1
   ·exact hne (by omega)
   ·omega
  ·rcases eB with ⟨k1, l1⟩ | l1
   ·exact hne (by omega)
   ·omega
 obtain ⟨K', hK'⟩ : ∃ K' : Nat → Nat, K' = fun b => if b = gRow then 6 + c else if b = gS then 3 else if b = gR then 4 else if b = gB then 5 else K b := ⟨_, rfl⟩
 have kRow : K' gRow = 6 + c := by rw [hK']; simp
 have kS : K' gS = 3 := by rw [hK']; simp [dS]
 have kR : K' gR = 4 := by rw [hK']; simp [dR, dRS]
 have kB : K' gB = 5 := by rw [hK']; simp [dB, dSB.symm, dRB.symm]
 have kO : ∀ b, b < w.heap.size → K b ≠ 3 → K b ≠ 4 → K b ≠ 5 → K' b = K b := fun b hb h3 h4 h5 => by
  obtain ⟨d1, d2, d3, d4⟩ := other b hb h3 h4 h5
  rw [hK']; simp [d1, d2, d3, d4]
 have kX : ∀ b, K' b ≠ 0 → b = gRow ∨ b = gS ∨ b = gR ∨ b = gB ∨ K b ≠ 0 := fun b hb => by
  rw [hK'] at hb
  by_cases d1 : b = gRow
  ·exact .inl d1
  by_cases d2 : b = gS
  ·exact .inr (.inl d2)
  by_cases d3 : b = gR
  ·exact .inr (.inr (.inl d3))
  by_cases d4 : b = gB
  ·exact .inr (.inr (.inr (.inl d4)))
  simp [d1, d2, d3, d4] at hb
  exact .inr (.inr (.inr (.inr hb)))
 have kX4 : ∀ b, b < w4.heap.size → K' b ≠ 0 → b = gRow ∨ K b ≠ 0 := fun b hb hk => by
  rcases kX b hk with e | e | e | e | e
  ·exact .inl e
  ·right; rcases eS with ⟨k1, l1⟩ | l1
   ·rw [e]; omega
   ·omega
  ·right; rcases eR with ⟨k1, l1⟩ | l1
   ·rw [e]; omega
   ·omega
  ·right; rcases eB with ⟨k1, l1⟩ | l1
   ·rw [e]; omega
   ·omega
  ·exact .inr e
 have kX0 : ∀ b, b < w.heap.size → K' b ≠ 0 → K b ≠ 0 := fun b hb hk => by
  rcases kX4 b (by omega) hk with e | e
  ·omega
  ·exact e
 have kgp : K' gp = 1 := by rw [kO gp hgp.2 (by omega) (by omega) (by omega)]; exact h.kp
 have kgc : K' gc = 2 := by rw [kO gc hgc.2 (by omega) (by omega) (by omega)]; exact h.kc
 have t5 : Keep (fun b => K' b ≠ 0) w4 w5 := h5.weak (fun b _ hb => by
  rcases hb with e | e | e | e
  ·rw [e, kgp]; decide
  ·have := h.kS b e
   have hl := (h.oS.lt e).1
   by_cases hc : b = gS
   ·rw [hc, kS]; decide
   ·by_cases hz : K' b = 0
    ·exfalso
     have d2 : b ≠ gR := by rcases eR with ⟨k1, l1⟩ | l1
                            ·exact hne (by omega)
                            ·omega
     have d3 : b ≠ gB := by rcases eB with ⟨k1, l1⟩ | l1
                            ·exact hne (by omega)
                            ·omega
     rw [hK'] at hz
     simp [hc, d2, d3, show b ≠ gRow by omega, this] at hz
    ·exact hz
  ·have := h.kR b e
   have hl := (h.oR.lt e).1
   by_cases hc : b = gR
   ·rw [hc, kR]; decide
   ·by_cases hz : K' b = 0
    ·exfalso
     have d2 : b ≠ gS := by rcases eS with ⟨k1, l1⟩ | l1
                            ·exact hne (by omega)
                            ·omega
     have d3 : b ≠ gB := by rcases eB with ⟨k1, l1⟩ | l1
                            ·exact hne (by omega)
                            ·omega
     rw [hK'] at hz
     simp [hc, d2, d3, show b ≠ gRow by omega, this] at hz
    ·exact hz
  ·have := h.kB b e
   have hl := (h.oB.lt e).1
   by_cases hc : b = gB
   ·rw [hc, kB]; decide
   ·by_cases hz : K' b = 0
    ·exfalso
     have d2 : b ≠ gS := by rcases eS with ⟨k1, l1⟩ | l1
                            ·exact hne (by omega)
                            ·omega
     have d3 : b ≠ gR := by rcases eR with ⟨k1, l1⟩ | l1
                            ·exact hne (by omega)
                            ·omega
     rw [hK'] at hz
     simp [hc, d2, d3, show b ≠ gRow by omega, this] at hz
    ·exact hz)
 have t4 : Keep (fun b => K' b ≠ 0) w w4 := h4.weak (fun b _ hb => by rw [show b = gc from hb, kgc]; decide)
 -- what no store reaches
 have far5 : ∀ g, g ≠ gp → (g < w.heap.size → K g ≠ 3 ∧ K g ≠ 4 ∧ K g ≠ 5) → ¬ (g = gp ∨ vS.ownBlock = some g ∨ vR.ownBlock = some g ∨ vB.ownBlock = some g) := fun g hp hk e => by
  rcases e with e | e | e | e
  ·exact hp e
  ·exact (hk (h.oS.lt e).1).1 (h.kS _ e)
  ·exact (hk (h.oR.lt e).1).2.1 (h.kR _ e)
  ·exact (hk (h.oB.lt e).1).2.2 (h.kB _ e)
 refine ⟨fun i => if i = c then gRow else G i, K', ⟨box, by rw [sgl_succ]; exact oS, ?_, by rw [bsl_succ]; exact oB, fun i hi => ?_, ?_, kgp, kgc, fun g hg => by injection hg with hg; rw [← hg]; exact kS, fun g hg => by injection hg with hg; rw [← hg]; exact kR, fun g hg => by injection hg with hg; rw [← hg]; exact kB, fun i hi => ?_, fun b hb => ?_⟩⟩
 ·rw [rwl_succ, if_pos rfl, rwl_congr (G := G) (fun i hi => if_neg (by omega))]; exact oR
 ·by_cases hic : i = c
  ·subst hic
   rw [if_pos rfl]
   obtain ⟨rs, a, b, v⟩ := row
   exact Rw.keep (X := fun b => K' b ≠ 0) ⟨rs, a, b, v.weak kX4⟩ t5 h5 (far5 gRow (by omega) (fun hl => by omega))
  ·rw [if_neg hic]
   have hG := h.kG i (by omega)
   have hlG := h.lt (G i) (by omega)
   obtain ⟨rs, a, b, v⟩ := h.rows i (by omega)
   have r4 : Rw w4 (fun b => K' b ≠ 0) (G i) (n + m + 1) (t0 m n F Bv i) := Rw.keep (X := fun b => K' b ≠ 0) ⟨rs, a, b, v.weak kX0⟩ t4 h4 (hne (by omega))
   exact r4.keep t5 h5 (far5 _ (hne (by omega)) (fun _ => by omega))
 ·obtain ⟨rs, a, b, v⟩ := cost
  exact Rc.keep (X := fun b => K' b ≠ 0) ⟨rs, a, b, v.weak kX4⟩ t5 h5 (far5 gc (hne (by omega)) (fun _ => by omega))
 ·by_cases hic : i = c
  ·subst hic; rw [if_pos rfl]; exact kRow
  ·rw [if_neg hic]
   have hG := h.kG i (by omega)
   rw [kO (G i) (h.lt (G i) (by omega)).2 (by omega) (by omega) (by omega)]; exact hG
 ·have bS : B ≤ gS := by rcases hS with e | e
                         ·exact (h.oS.lt e).2
                         ·omega
  have bR : B ≤ gR := by rcases hR with e | e
                         ·exact (h.oR.lt e).2
                         ·omega
  have bB : B ≤ gB := by rcases hBb with e | e
                         ·exact (h.oB.lt e).2
                         ·omega
  rcases kX b hb with e | e | e | e | e
  ·omega
  ·omega
  ·omega
  ·omega
  ·have := h.lt b e; omega

/-- The tableau with all its rows. -/
theorem Beg.done (h : Beg B w m n m F Bv gp gc vS vR vB G K) (hm : 1 ≤ m) : ∃ l : Lay, l.p = gp ∧ Tab w l m n ⟨t0 m n F Bv, fun i => n + i⟩ (c0 m n F Bv m) (sgn Bv) ∧ ∀ b, l.X m b → B ≤ b := by
 have hS := h.oS.op
 have hR := h.oR.op
 have hB := h.oB.op
 rw [sgl_len] at hS
 rw [rwl_len] at hR
 rw [bsl_len] at hB
 rcases hS with ⟨-, e⟩ | ⟨gS, cS, uS, rfl, bS, lS, LS, vS⟩
 ·exfalso; have := congrArg List.length e; rw [sgl_len] at this; simp at this; omega
 rcases hR with ⟨-, e⟩ | ⟨gR, cR, uR, rfl, bR, lR, LR, vR⟩
 ·exfalso; have := congrArg List.length e; rw [rwl_len] at this; simp at this; omega
 rcases hB with ⟨-, e⟩ | ⟨gB, cB, uB, rfl, bB, lB, LB, vB⟩
 ·exfalso; have := congrArg List.length e; rw [bsl_len] at this; simp at this; omega
 have kS := h.kS gS rfl
 have kR := h.kR gR rfl
 have kB := h.kB gB rfl
 have kp := h.kp
 have kc := h.kc
 have kG := h.kG
 have hne : ∀ {a b : Nat}, K a ≠ K b → a ≠ b := fun h e => h (by rw [e])
 have hX : ∀ b, (⟨gp, gS, gR, gc, gB, G⟩ : Lay).X m b → K b ≠ 0 := fun b hb => by
  rcases hb with e | e | e | e | e | ⟨i, hi, e⟩
  ·rw [e]; show K gp ≠ 0; omega
  ·rw [e]; show K gS ≠ 0; omega
  ·rw [e]; show K gR ≠ 0; omega
  ·rw [e]; show K gc ≠ 0; omega
  ·rw [e]; show K gB ≠ 0; omega
  ·rw [e]; show K (G i) ≠ 0; have := kG i hi; omega
 refine ⟨⟨gp, gS, gR, gc, gB, G⟩, rfl, ⟨⟨⟨cS, cR, cB, h.box, lS, lR, lB⟩, ⟨uS, LS, fun i hi => vS _ _ (sgl_get hi)⟩, ⟨uR, LR, fun i hi => vR _ _ (rwl_get hi)⟩⟩, fun i hi => ?_, ?_, ⟨uB, LB, fun i hi => vB _ _ (bsl_get hi)⟩, ⟨⟨hne (by dsimp only; omega), hne (by dsimp only; omega), hne (by dsimp only; omega), hne (by dsimp only; omega)⟩, ⟨hne (by dsimp only; omega), hne (by dsimp only; omega), hne (by dsimp only; omega)⟩, ⟨hne (by dsimp only; omega), hne (by dsimp only; omega), hne (by dsimp only; omega)⟩, fun i hi => ?_, fun i hi k hk hik => ?_⟩⟩, fun b hb => (h.lt b (hX b hb)).1⟩
 ·obtain ⟨rs, a, b, v⟩ := h.rows i hi
  exact ⟨rs, a, b, v.weak (fun b _ hb => hX b hb)⟩
 ·obtain ⟨rs, a, b, v⟩ := h.cost
  exact ⟨rs, a, b, v.weak (fun b _ hb => hX b hb)⟩
 ·have := kG i hi
  exact ⟨hne (by dsimp only; omega), hne (by dsimp only; omega), hne (by dsimp only; omega), hne (by dsimp only; omega), hne (by dsimp only; omega)⟩
 ·have h1 := kG i hi
  have h2 := kG k hk
  exact hne (by dsimp only; omega)
end
end Go.Proofs.YtdambnieminnfaaGreat

/- reduce: a line less a multiple of a row. -/
namespace Go.Proofs.YtdambnieminnfaaGreat
open Go.RowKit
attribute [local go_sem ↓] Go.wp_at_zero Go.wp_at_succ

theorem sign_zero_iff (q : Rat) : q.num.sign = 0 ↔ q = 0 := by rw [Int.sign_eq_zero_iff_zero, Rat.num_eq_zero]

set_option maxHeartbeats 8000000 in
theorem reduce_any (w : World) (X : Nat → Prop) (g h n j : Nat) (rs qs : List R4) (f q : Nat → Rat) (L1 : Line w g rs) (L2 : Line w h qs) (hn : rs.length = n) (hq : qs.length = n) (hg : g ≠ h) (hX : X g) (hXs : ∀ b, X b → b < w.heap.size)
 (V1 : ValV w X rs f) (V2 : ValV w X qs q) (hj : j < n) (hn2 : n ≤ 200) (S1 : ∀ i, i < n → Rsz 10000 (f i)) (S2 : ∀ i, i < n → Rsz 10000 (q i)) :
 Calls Tryz.prog 176 #[.slice (some ⟨g, 0, none⟩) n n, .slice (some ⟨h, 0, none⟩) n n, .int .i64 j] w fun e w' => e = .returned (.tuple #[]) ∧
  ∃ rs', Line w' g rs' ∧ rs'.length = n ∧ ValV w' X rs' (fun c => f c - f j * q c) ∧ Keep (fun b => b = g) w w' := by
 obtain ⟨r, hr⟩ : ∃ r, rs[j]? = some r := ⟨_, List.getElem?_eq_getElem (by omega)⟩
 obtain ⟨c0, c1, c2, c3⟩ := L1.cells hr
 have i1 := V1 j r hr
 obtain ⟨b1, A1, m1, k1, b1', A1', m1', k1'⟩ := r
 dsimp only at c0 c1 c2 c3
 unfold R4.v at i1
 dsimp only at i1
 have M := made1 w #[.bool b1, .slice A1 m1 k1, .bool b1', .slice A1' m1' k1'] 60
 have hgl := L1.lt
 have hhl := L2.lt
 have HS1 := Lib.hid S1
 have HS2 := Lib.hid S2
 clear S1 S2
 go_enter Tryz.func176, Tryz.ntmps176
 go_wp2_with fail
 refine (sign_rat _ (fun _ => False) 10000 _ (f j) (RatL.to (i1.len (HS1.out j hj)))).mono ?_
 rintro e w1 ⟨rfl, hb1⟩
 have z1 := sz1 hb1
 have hzi := sign_zero_iff (f j)
 generalize (f j).num.sign = sg at *
 by_cases hz : sg = 0
 ·subst hz
  have hfj := hzi.1 rfl
  clear hzi
  go_wp2_with fail
  refine bodyPost_ret (results_none rfl _ _ _) rfl ⟨rfl, rs, Loc.to L1, hn, ?_, kp⟩
  exact (V1.keep (w' := w1) kp).congr (fun i hi => by rw [hfj]; grind)
 ·clear hzi
  have hsb : (sg == 0) = false := beq_eq_false_iff_ne.2 hz
  go_wp2_with fail
  go_loopw [17] (fun i wr => ∃ (c : Nat) (ps : List R4), c ≤ n ∧ i = .int .i64 c ∧ Line wr g ps ∧ ps.length = n ∧ ValV wr X ps (fun i => if i < c then f i - f j * q i else f i) ∧
   Loc wr w.heap.size 60 #[.bool b1, .slice A1 m1 k1, .bool b1', .slice A1' m1' k1'] ∧ Keep (fun b => b = g) w wr) (fun i _ => n - (intOf i).toNat)
  case atStart => exact ⟨0, rs, by omega, rfl, Loc.to L1, hn, (V1.keep (w' := w1) kp).congr (fun i _ => if_neg (Nat.not_lt_zero i)), M.to, kp⟩
  case round =>
   obtain ⟨c, ps, hc, rfl, K1, hpn, hv, NM, hK⟩ := hrel
   obtain ⟨wo, rfl⟩ : ∃ wo : World, wo = wr := ⟨_, rfl⟩
   by_cases hlt : c < n
   ·obtain ⟨r, hr⟩ : ∃ r, ps[c]? = some r := ⟨_, List.getElem?_eq_getElem (by omega)⟩
    obtain ⟨t, ht⟩ : ∃ r, qs[c]? = some r := ⟨_, List.getElem?_eq_getElem (by omega)⟩
    have K2 : Line wo h qs := (Loc.keep L2 hK (fun e => hg e.symm))
    obtain ⟨a0, a1, a2, a3⟩ := K1.cells hr
    obtain ⟨d0, d1, d2, d3⟩ := K2.cells ht
    obtain ⟨b2, A2, m2, k2, b2', A2', m2', k2'⟩ := r
    obtain ⟨b3, A3, m3, k3, b3', A3', m3', k3'⟩ := t
    dsimp only at a0 a1 a2 a3 d0 d1 d2 d3
    obtain ⟨e0, f0, l0⟩ := NM.all (w' := wo.drew)
    replace a0 : wo.drew.cell? _ = _ := a0
    replace a1 : wo.drew.cell? _ = _ := a1
    replace a2 : wo.drew.cell? _ = _ := a2
    replace a3 : wo.drew.cell? _ = _ := a3
    replace d0 : wo.drew.cell? _ = _ := d0
    replace d1 : wo.drew.cell? _ = _ := d1
    replace d2 : wo.drew.cell? _ = _ := d2
    replace d3 : wo.drew.cell? _ = _ := d3
    have hKX : Keep X w wo := hK.weak (fun b _ h => by rw [h]; exact hX)
    have j1 := i1.keep hKX
    have j2 : RatV wo X _ (q c) := (V2 c _ ht).keep hKX
    have j3 : RatV wo X _ _ := hv c _ hr
    unfold R4.v at j2 j3
    dsimp only at j2 j3
    rw [if_neg (Nat.lt_irrefl c)] at j3
    have HM : Hid (Rsz 20000 (f j * q c)) := (HS1.out j hj).mul (HS2.out c hlt)
    have hgl := K1.lt
    have hl0 := NM.lt
    go_upto_block 1 with fail
    go_cut [] from 18 to 33 (fun W => ∃ ps', Line W g ps' ∧ ps'.length = n ∧ ValV W X ps' (fun i => if i < c + 1 then f i - f j * q i else f i) ∧ Keep (fun b => b = g) wo W)
    case first =>
     go_wp2_with fail
     go_region_with (first
      | (go_at_call 51; refine (mul_rat _ (fun _ => False) _ _ (f j) (q c) (RatL.to ((j1.len (HS1.out j hj)).mono (by omega))) (RatL.to ((j2.len (HS2.out c hlt)).mono (by omega)))).mono ?_; rintro e u1 ⟨v5, rfl, i5, hb5⟩; obtain ⟨b5, A5, m5, c5, b5', A5', m5', c5', rfl, i5, -, -⟩ := i5.op; have y5 := hb5.size; (try simp only [zs] at y5); have K5 : Line u1 g ps := Loc.to K1; obtain ⟨g0, g1, g2, g3⟩ := K5.cells hr; dsimp only at g0 g1 g2 g3)
      | (go_at_call 107; refine (sub_rat _ (fun _ => False) _ _ (f c) (f j * q c) (RatL.to ((j3.len (HS1.out c hlt)).mono (by omega))) (RatL.to ((i5.len HM.out).mono (by omega)))).mono ?_; rintro e u2 ⟨v6, rfl, i6, hb6⟩; obtain ⟨b6, A6, m6, c6, b6', A6', m6', c6', rfl, i6, -, -⟩ := i6.op; have y6 := hb6.size; (try simp only [zs] at y6); have K6 : Line u2 g ps := Loc.to K1; obtain ⟨g0, g1, g2, g3⟩ := K6.cells hr; dsimp only at g0 g1 g2 g3; have f6 := K6.frz))
     all_goals
      go_wp2_with fail
      go_meet
      refine ⟨ps.set c ⟨b6, A6, m6, c6, b6', A6', m6', c6'⟩, K6.put (by omega) ⟨b6, A6, m6, c6, b6', A6', m6', c6'⟩, by simpa using hpn, ?_, kp⟩
      refine ValV.set (f := fun i => if i < c then f i - f j * q i else f i) (hv.keep kp) ?_ (fun i hi => ?_)
      ·rw [if_pos (by omega)]
       exact (i6.keep (X := Old u1) kp).weak (fun b hb hx => by have := hXs b hx; show b < u1.heap.size; omega)
      ·by_cases h1 : i < c
       ·rw [if_pos h1, if_pos (by omega)]
       ·rw [if_neg h1, if_neg (by omega)]
    case rest =>
     obtain ⟨ps', K6, hpn', hv', hK'⟩ := hcut
     have hK2 := hK.trans hK'
     have NM' := NM.to (hK'.far (by intro e; have e : w.heap.size = g := e; omega))
     obtain ⟨w6, rfl⟩ : ∃ w6 : World, w6 = wc := ⟨_, rfl⟩
     go_wp2_with fail
     go_roundw
     case rel => exact ⟨c + 1, ps', by omega, by go_num, K6, hpn', hv', NM', hK2⟩
     case measure => simp only [intOf]; omega
   ·obtain rfl : c = n := by omega
    go_wp2_with fail
    go_end0
    exact ⟨rfl, ps, K1, hpn, hv.congr (fun i hi => by rw [if_pos (by omega)]), hK⟩
end Go.Proofs.YtdambnieminnfaaGreat

