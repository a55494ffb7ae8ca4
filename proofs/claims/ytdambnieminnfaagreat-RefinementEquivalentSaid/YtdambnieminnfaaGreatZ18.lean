/- Contracts of the functions that the statements reach, part 18. -/
import Derived.Test.YtdambnieminnfaaGreatRows
import Derived.Test.YtdambnieminnfaaGreatZ13
import Derived.Test.YtdambnieminnfaaGreatZ14
import Derived.Test.YtdambnieminnfaaGreatZ17
set_option linter.unusedSimpArgs false
set_option linter.unusedVariables false

/- Refinement of channels, plainly: witnesses, gain functions, the two exclude each other, a Farkas vector gives a gain function. -/
namespace Go.Proofs.YtdambnieminnfaaGreat

/-- The greatest of K numbers and 0. -/
def best : Nat → (Nat → Rat) → Rat
 | 0, _ => 0
 | K + 1, f => if best K f < f K then f K else best K f
theorem best_nonneg (f : Nat → Rat) : ∀ K, 0 ≤ best K f
 | 0 => by unfold best; grind
 | K + 1 => by
   have := best_nonneg f K
   unfold best
   split
   ·grind
   ·exact this
theorem le_best (f : Nat → Rat) : ∀ K w, w < K → f w ≤ best K f
 | 0, w, h => absurd h (by omega)
 | K + 1, w, h => by
   unfold best
   by_cases e : w = K
   ·subst e; split <;> grind
   ·have := le_best f K w (by omega)
    split <;> grind
theorem best_mul_le {f : Nat → Rat} {p R : Rat} (hR : 0 ≤ R) : ∀ K, (∀ w, w < K → p * f w ≤ R) → p * best K f ≤ R
 | 0, _ => by unfold best; grind
 | K + 1, h => by
   have h1 := best_mul_le hR K (fun w hw => h w (by omega))
   have h2 := h K (by omega)
   unfold best
   split
   ·exact h2
   ·exact h1
/-- The greatest gain of an action, over the columns. -/
def worthV (n K m : Nat) (C : Nat → Nat → Rat) (g : Nat → Nat → Rat) : Rat := sm n (fun y => best K (fun w => sm m (fun x => C x y * g w x)))
structure Chan (m n : Nat) (C : Nat → Nat → Rat) (p : Rat) : Prop where
 m1 : 1 ≤ m
 n1 : 1 ≤ n
 non : ∀ x, x < m → ∀ y, y < n → 0 ≤ C x y
 row : ∀ x, x < m → sm n (C x) = p
 pos : 0 < p
/-- W post-processes C to D. -/
structure Wit (m n k : Nat) (C : Nat → Nat → Rat) (p : Rat) (D : Nat → Nat → Rat) (q : Rat) (W : Nat → Nat → Rat) : Prop where
 non : ∀ y, y < n → ∀ z, z < k → 0 ≤ W y z
 one : ∀ y, y < n → sm k (W y) = 1
 eq : ∀ x, x < m → ∀ z, z < k → q * sm n (fun y => C x y * W y z) = p * D x z
section
variable {m n k K : Nat} {C D W g : Nat → Nat → Rat} {p q : Rat}
theorem sm_mul_right (f : Nat → Rat) (c : Rat) : ∀ m, sm m (fun i => f i * c) = sm m f * c
 | 0 => by unfold sm; grind
 | m + 1 => by unfold sm; rw [sm_mul_right f c m]; grind
/-- What is observed through another channel is worth no more. -/
theorem data_proc (hC : Chan m n C p) (hD : Chan m k D q) (hW : Wit m n k C p D q W) (hg : ∀ w, w < K → ∀ x, x < m → 0 ≤ g w x) : p * worthV k K m D g ≤ q * worthV n K m C g := by
 obtain ⟨M, hM⟩ : ∃ M : Nat → Rat, (fun y => best K (fun w => sm m (fun x => C x y * g w x))) = M := ⟨_, rfl⟩
 have hM0 : ∀ y, 0 ≤ M y := fun y => by rw [← hM]; exact best_nonneg _ _
 have hq := hD.pos
 have h1 : ∀ z, z < k → p * best K (fun w => sm m (fun x => D x z * g w x)) ≤ q * sm n (fun y => W y z * M y) := fun z hz => by
  refine best_mul_le (Rat.mul_nonneg (by grind) (sm_nonneg fun y hy => Rat.mul_nonneg (hW.non y hy z hz) (hM0 y))) K (fun w hw => ?_)
  have e1 : p * sm m (fun x => D x z * g w x) = q * sm n (fun y => W y z * sm m (fun x => C x y * g w x)) := by
   rw [← sm_mul, ← sm_mul, sm_congr (g := fun x => sm n (fun y => q * (C x y * W y z * g w x))) (fun x hx => by
    have := hW.eq x hx z hz
    rw [sm_mul, sm_mul_right]
    grind), sm_swap]
   refine sm_congr (fun y hy => ?_)
   rw [← sm_mul, ← sm_mul]
   exact sm_congr (fun x _ => by grind)
  rw [e1]
  refine Rat.mul_le_mul_of_nonneg_left (sm_mono fun y hy => ?_) (by grind)
  refine Rat.mul_le_mul_of_nonneg_left ?_ (hW.non y hy z hz)
  rw [← hM]
  exact le_best (fun w => sm m (fun x => C x y * g w x)) K w hw
 have h2 : p * worthV k K m D g ≤ sm k (fun z => q * sm n (fun y => W y z * M y)) := by
  unfold worthV
  rw [← sm_mul]
  exact sm_mono h1
 have h3 : sm k (fun z => q * sm n (fun y => W y z * M y)) = q * worthV n K m C g := by
  unfold worthV
  rw [sm_mul, sm_swap, hM]
  congr 1
  refine sm_congr (fun y hy => ?_)
  rw [sm_mul_right, hW.one y hy]; grind
 rw [h3] at h2
 exact h2
/-- A witness and a separating gain function exclude each other. -/
theorem no_both (hC : Chan m n C p) (hD : Chan m k D q) (hW : Wit m n k C p D q W) (hg : ∀ w, w < K → ∀ x, x < m → 0 ≤ g w x) : ¬ q * worthV n K m C g < p * worthV k K m D g := fun h => by
 have := data_proc hC hD hW hg
 grind
/-- A Farkas vector of the system gives a separating gain function. -/
theorem farkas_gain {u : Nat → Nat → Rat} {v most : Nat → Rat} (hC : Chan m n C p) (hD : Chan m k D q) (hm : ∀ x, x < m → ∀ z, z < k → u x z ≤ most x)
 (hneg : sm m (fun x => sm k (fun z => u x z * (p * D x z))) + sm n v < 0) (hcol : ∀ y, y < n → ∀ z, z < k → 0 ≤ sm m (fun x => u x z * (q * C x y)) + v y) :
 q * worthV n k m C (fun z x => most x - u x z) < p * worthV k k m D (fun z x => most x - u x z) := by
 have hq := hD.pos
 have hp := hC.pos
 have e2 : ∀ z x, x < m → z < k → 0 ≤ most x - u x z := fun z x hx hz => by have := hm x hx z hz; grind
 obtain ⟨T, hT⟩ : ∃ T, sm m most = T := ⟨_, rfl⟩
 have cy : ∀ y, y < n → ∀ z, z < k → q * sm m (fun x => C x y * (most x - u x z)) ≤ q * sm m (fun x => C x y * most x) + v y := fun y hy z hz => by
  have h1 := hcol y hy z hz
  have e : sm m (fun x => C x y * (most x - u x z)) = sm m (fun x => C x y * most x) - sm m (fun x => C x y * u x z) := by
   rw [← sm_sub]; exact sm_congr (fun x _ => by grind)
  have e3 : sm m (fun x => u x z * (q * C x y)) = q * sm m (fun x => C x y * u x z) := by
   rw [← sm_mul]; exact sm_congr (fun x _ => by grind)
  rw [e3] at h1
  rw [e]; grind
 have up : q * worthV n k m C (fun z x => most x - u x z) ≤ q * (p * T) + sm n v := by
  have h1 : q * worthV n k m C (fun z x => most x - u x z) ≤ sm n (fun y => q * sm m (fun x => C x y * most x) + v y) := by
   unfold worthV
   rw [← sm_mul]
   refine sm_mono (fun y hy => ?_)
   have h0 : 0 ≤ q * sm m (fun x => C x y * most x) + v y := by
    have a1 := cy y hy 0 (by have := hD.n1; omega)
    have a2 : 0 ≤ sm m (fun x => C x y * (most x - u x 0)) := sm_nonneg (fun x hx => Rat.mul_nonneg (hC.non x hx y hy) (e2 0 x hx (by have := hD.n1; omega)))
    have a3 := Rat.mul_nonneg (show (0 : Rat) ≤ q by grind) a2
    grind
   exact best_mul_le h0 k (fun z hz => cy y hy z hz)
  have h2 : sm n (fun y => q * sm m (fun x => C x y * most x) + v y) = q * (p * T) + sm n v := by
   rw [sm_add, sm_mul, sm_swap, sm_congr (g := fun x => p * most x) (fun x hx => by rw [sm_mul_right, hC.row x hx]), sm_mul, hT]
  rw [h2] at h1; exact h1
 have lo : p * (q * T) - sm m (fun x => sm k (fun z => u x z * (p * D x z))) ≤ p * worthV k k m D (fun z x => most x - u x z) := by
  have h1 : sm k (fun z => p * sm m (fun x => D x z * (most x - u x z))) ≤ p * worthV k k m D (fun z x => most x - u x z) := by
   unfold worthV
   rw [← sm_mul]
   exact sm_mono (fun z hz => Rat.mul_le_mul_of_nonneg_left (le_best (fun w => sm m (fun x => D x z * (most x - u x w))) k z hz) (by grind))
  have h2 : sm k (fun z => p * sm m (fun x => D x z * (most x - u x z))) = p * (q * T) - sm m (fun x => sm k (fun z => u x z * (p * D x z))) := by
   rw [sm_mul, sm_swap, sm_congr (g := fun x => q * most x - sm k (fun z => D x z * u x z)) (fun x hx => by
    rw [sm_congr (g := fun z => D x z * most x - D x z * u x z) (fun z _ => by grind), sm_sub, sm_mul_right, hD.row x hx]), sm_sub, sm_mul, hT,
    sm_congr (f := fun x => sm k (fun z => u x z * (p * D x z))) (g := fun x => p * sm k (fun z => D x z * u x z)) (fun x _ => by rw [← sm_mul]; exact sm_congr (fun z _ => by grind)), sm_mul]
   grind
  rw [h2] at h1; exact h1
 grind
end

/- The system of a witness, plainly: its points are the witnesses, its Farkas vectors give gain functions. -/

def sysF (m k : Nat) (C : Nat → Nat → Rat) (q : Rat) : Nat → Nat → Rat := fun l j => if l < m * k then (if j % k = l % k then q * C (l / k) (j / k) else 0) else (if j / k = l - m * k then 1 else 0)
def sysB (m k : Nat) (D : Nat → Nat → Rat) (p : Rat) : Nat → Rat := fun l => if l < m * k then p * D (l / k) (l % k) else 1
section
variable {m n k : Nat} {C D W : Nat → Nat → Rat} {p q : Rat} {f : Nat → Rat}
theorem sm_prod (h : Nat → Rat) (k : Nat) : ∀ n, sm (n * k) h = sm n (fun y => sm k (fun z => h (y * k + z)))
 | 0 => by rw [Nat.zero_mul]; rfl
 | n + 1 => by rw [Nat.succ_mul, sm_split, sm_prod h k n, sm_succ]
theorem div_at {x z k : Nat} (hz : z < k) : (x * k + z) / k = x := by
 rw [Nat.mul_comm, Nat.mul_add_div (by omega), Nat.div_eq_of_lt hz]; omega
theorem mod_at {x z k : Nat} (hz : z < k) : (x * k + z) % k = z := by
 rw [Nat.mul_comm, Nat.mul_add_mod, Nat.mod_eq_of_lt hz]
theorem at_lt {x z m k : Nat} (hx : x < m) (hz : z < k) : x * k + z < m * k := by
 have : (x + 1) * k ≤ m * k := Nat.mul_le_mul_right k (by omega)
 rw [Nat.succ_mul] at this
 omega
theorem sysF_top {x z y u : Nat} (hx : x < m) (hz : z < k) (hu : u < k) : sysF m k C q (x * k + z) (y * k + u) = if u = z then q * C x y else 0 := by
 unfold sysF
 rw [if_pos (at_lt hx hz), div_at hz, mod_at hz, div_at hu, mod_at hu]
theorem sysF_low {r y u : Nat} (hu : u < k) : sysF m k C q (m * k + r) (y * k + u) = if y = r then 1 else 0 := by
 unfold sysF
 rw [if_neg (by omega), div_at hu, show m * k + r - m * k = r by omega]
theorem sysB_top {x z : Nat} (hx : x < m) (hz : z < k) : sysB m k D p (x * k + z) = p * D x z := by
 unfold sysB
 rw [if_pos (at_lt hx hz), div_at hz, mod_at hz]
theorem sysB_low {r : Nat} : sysB m k D p (m * k + r) = 1 := by
 unfold sysB
 rw [if_neg (by omega)]
theorem row_top {x z : Nat} (hx : x < m) (hz : z < k) : sm (n * k) (fun j => sysF m k C q (x * k + z) j * f j) = q * sm n (fun y => C x y * f (y * k + z)) := by
 rw [sm_prod, ← sm_mul]
 refine sm_congr (fun y hy => ?_)
 rw [sm_one _ z hz (fun u hu hne => by rw [sysF_top hx hz hu, if_neg hne]; grind), sysF_top hx hz hz, if_pos rfl]; grind
theorem row_low {r : Nat} (hr : r < n) : sm (n * k) (fun j => sysF m k C q (m * k + r) j * f j) = sm k (fun z => f (r * k + z)) := by
 rw [sm_prod, sm_one _ r hr (fun y hy hne => sm_zero (fun u hu => by rw [sysF_low hu, if_neg hne]; grind))]
 exact sm_congr (fun u hu => by rw [sysF_low hu, if_pos rfl]; grind)
/-- The points of the system are the witnesses. -/
theorem wit_of_sv (h : SV (m * k + n) (n * k) (n * k) (sysF m k C q) f (sysB m k D p)) : Wit m n k C p D q (fun y z => f (y * k + z)) := by
 obtain ⟨-, h1, h2⟩ := h
 refine ⟨fun y hy z hz => ?_, fun y hy => ?_, fun x hx z hz => ?_⟩
 ·have := h1 _ (at_lt hy hz)
  grind
 ·rw [← row_low (m := m) (C := C) (q := q) hy, h2 (m * k + y) (by omega), sysB_low]
 ·rw [← row_top hx hz, h2 _ (by have := at_lt hx hz; omega), sysB_top hx hz]
theorem col_sum {y : Nat → Rat} {y0 z0 : Nat} (hy : y0 < n) (hz : z0 < k) : sm (m * k + n) (fun i => y i * sysF m k C q i (y0 * k + z0)) = sm m (fun x => y (x * k + z0) * (q * C x y0)) + y (m * k + y0) := by
 rw [sm_split, sm_prod]
 congr 1
 ·refine sm_congr (fun x hx => ?_)
  rw [sm_one _ z0 hz (fun u hu hne => by rw [sysF_top hx hu hz, if_neg (fun e => hne e.symm)]; grind), sysF_top hx hz hz, if_pos rfl]
 ·rw [sm_one _ y0 hy (fun r hr hne => by rw [sysF_low hz, if_neg (fun e => hne e.symm)]; grind), sysF_low hz, if_pos rfl]; grind
theorem rhs_sum {y : Nat → Rat} : sm (m * k + n) (fun i => y i * sysB m k D p i) = sm m (fun x => sm k (fun z => y (x * k + z) * (p * D x z))) + sm n (fun r => y (m * k + r)) := by
 rw [sm_split, sm_prod]
 congr 1
 ·exact sm_congr (fun x hx => sm_congr (fun z hz => by rw [sysB_top hx hz]))
 ·exact sm_congr (fun r _ => by rw [sysB_low]; grind)
/-- A Farkas vector of the system separates. -/
theorem gain_of_fk {y most : Nat → Rat} (hC : Chan m n C p) (hD : Chan m k D q) (h1 : sm (m * k + n) (fun i => y i * sysB m k D p i) < 0) (h2 : ∀ j, j < n * k → ¬ sm (m * k + n) (fun i => y i * sysF m k C q i j) < 0) (hm : ∀ x, x < m → ∀ z, z < k → y (x * k + z) ≤ most x) :
 q * worthV n k m C (fun z x => most x - y (x * k + z)) < p * worthV k k m D (fun z x => most x - y (x * k + z)) := by
 rw [rhs_sum] at h1
 refine farkas_gain (u := fun x z => y (x * k + z)) (v := fun r => y (m * k + r)) hC hD hm h1 (fun y0 hy z0 hz => ?_)
 have := h2 _ (at_lt hy hz)
 rw [col_sum hy hz] at this
 grind
/-- The product of two witnesses is a witness. -/
theorem Wit.chain {j : Nat} {E V : Nat → Nat → Rat} {r : Rat} (h : Wit m n k C p D q W) (h' : Wit m k j D q E r V) (hq : 0 < q) : Wit m n j C p E r (fun y z => sm k (fun u => W y u * V u z)) := by
 refine ⟨fun y hy z hz => sm_nonneg (fun u hu => Rat.mul_nonneg (h.non y hy u hu) (h'.non u hu z hz)), fun y hy => ?_, fun x hx z hz => ?_⟩
 ·rw [sm_swap, sm_congr (g := fun u => W y u) (fun u hu => by rw [sm_mul, h'.one u hu]; grind)]
  exact h.one y hy
 ·have e1 : sm n (fun y => C x y * sm k (fun u => W y u * V u z)) = sm k (fun u => sm n (fun y => C x y * W y u) * V u z) := by
   rw [sm_congr (g := fun y => sm k (fun u => C x y * W y u * V u z)) (fun y _ => by rw [← sm_mul]; exact sm_congr (fun u _ => by grind)), sm_swap]
   exact sm_congr (fun u _ => by rw [sm_mul_right])
  have e2 : q * sm k (fun u => sm n (fun y => C x y * W y u) * V u z) = p * sm k (fun u => D x u * V u z) := by
   rw [← sm_mul, ← sm_mul]
   refine sm_congr (fun u hu => ?_)
   have := h.eq x hx u hu
   grind
  have e3 := h'.eq x hx z hz
  rw [e1]
  have hq0 : q ≠ 0 := by grind
  have : q * (r * sm k (fun u => sm n (fun y => C x y * W y u) * V u z)) = q * (p * E x z) := by
   rw [show q * (r * sm k (fun u => sm n (fun y => C x y * W y u) * V u z)) = r * (q * sm k (fun u => sm n (fun y => C x y * W y u) * V u z)) by grind, e2]
   rw [show r * (p * sm k (fun u => D x u * V u z)) = p * (r * sm k (fun u => D x u * V u z)) by grind, e3]
   grind
  grind
/-- Every channel refines itself. -/
theorem Wit.refl (hC : Chan m n C p) : Wit m n n C p C p (fun y z => if y = z then 1 else 0) := by
 refine ⟨fun y _ z _ => by split <;> grind, fun y hy => ?_, fun x hx z hz => ?_⟩
 ·rw [sm_one _ y hy (fun z hz hne => by rw [if_neg (fun e => hne e.symm)]), if_pos rfl]
 ·rw [sm_one _ z hz (fun y hy hne => by rw [if_neg hne]; grind), if_pos rfl]; grind
end
end Go.Proofs.YtdambnieminnfaaGreat

/- Lists of integers in memory; channels, plainly. -/
namespace Go.Proofs.YtdambnieminnfaaGreat
open Go.RowKit

/-- A list of integers that is read. -/
def IntsV (w : World) (v : Value) (zs : List Int) : Prop :=
 ∃ A cap, v = .slice A zs.length cap ∧ zs.length ≤ cap ∧ cap ≤ maxLen ∧ (zs.length ≠ 0 → ∃ a, A = some a ∧ a.block < w.heap.size ∧ ∀ i z, zs[i]? = some z → w.cell? (a.add i) = some (.int .i64 z)) ∧ ∀ z ∈ zs, -9223372036854775808 ≤ z ∧ z ≤ 9223372036854775807
/-- A list of lists of integers that is read. -/
def IMat (w : World) (v : Value) (L : List (List Int)) : Prop :=
 ∃ A cap, v = .slice A L.length cap ∧ L.length ≤ cap ∧ cap ≤ maxLen ∧ (L.length ≠ 0 → ∃ a, A = some a ∧ a.block < w.heap.size ∧ ∀ i l, L[i]? = some l → ∃ B c, w.cell? (a.add i) = some (.slice B l.length c) ∧ IntsV w (.slice B l.length c) l)
section
variable {w w' : World} {v : Value} {zs : List Int} {L : List (List Int)}
theorem IntsV.keep (h : IntsV w v zs) (hk : Keep (fun _ => False) w w') : IntsV w' v zs := by
 obtain ⟨A, cap, hv, h1, h2, h3, h4⟩ := h
 refine ⟨A, cap, hv, h1, h2, fun hn => ?_, h4⟩
 obtain ⟨a, ha, hb, hc⟩ := h3 hn
 exact ⟨a, ha, Nat.lt_of_lt_of_le hb hk.size, fun i z hz => cell_keep (hc i z hz) (by rw [add_block]; exact hb) id hk⟩
theorem IntsV.op (h : IntsV w v zs) : ∃ (A : Option Addr) (cap : Nat), v = .slice A zs.length cap ∧ IntsV w (.slice A zs.length cap) zs ∧ zs.length ≤ cap ∧ cap ≤ maxLen := by
 have h0 := h
 obtain ⟨A, cap, rfl, h1, h2, -⟩ := h
 exact ⟨A, cap, rfl, h0, h1, h2⟩
theorem IntsV.at {A : Option Addr} {n cap : Nat} (h : IntsV w (.slice A n cap) zs) {i : Nat} {z : Int} (hz : zs[i]? = some z) : ∃ a : Addr, A = some a ∧ a.block < w.heap.size ∧ w.cell? (a.add i) = some (.int .i64 z) ∧ -9223372036854775808 ≤ z ∧ z ≤ 9223372036854775807 := by
 obtain ⟨A', cap', hv, h1, h2, h3, h4⟩ := h
 injection hv with e1 e2 e3
 subst e1
 obtain ⟨a, ha, hb, hc⟩ := h3 (by have := (List.getElem?_eq_some_iff.1 hz).1; omega)
 exact ⟨a, ha, hb, hc i z hz, h4 z (List.mem_of_getElem? hz)⟩
theorem IMat.keep (h : IMat w v L) (hk : Keep (fun _ => False) w w') : IMat w' v L := by
 obtain ⟨A, cap, hv, h1, h2, h3⟩ := h
 refine ⟨A, cap, hv, h1, h2, fun hn => ?_⟩
 obtain ⟨a, ha, hb, hc⟩ := h3 hn
 refine ⟨a, ha, Nat.lt_of_lt_of_le hb hk.size, fun i l hl => ?_⟩
 obtain ⟨B, c, h4, h5⟩ := hc i l hl
 exact ⟨B, c, cell_keep h4 (by rw [add_block]; exact hb) id hk, h5.keep hk⟩
theorem IMat.op (h : IMat w v L) : ∃ (A : Option Addr) (cap : Nat), v = .slice A L.length cap ∧ IMat w (.slice A L.length cap) L ∧ L.length ≤ cap ∧ cap ≤ maxLen := by
 have h0 := h
 obtain ⟨A, cap, rfl, h1, h2, -⟩ := h
 exact ⟨A, cap, rfl, h0, h1, h2⟩
theorem IMat.at {A : Option Addr} {n cap : Nat} (h : IMat w (.slice A n cap) L) {i : Nat} {l : List Int} (he : L[i]? = some l) : ∃ (a : Addr) (B : Option Addr) (c : Nat), A = some a ∧ a.block < w.heap.size ∧ w.cell? (a.add i) = some (.slice B l.length c) ∧ IntsV w (.slice B l.length c) l ∧ l.length ≤ c ∧ c ≤ maxLen := by
 obtain ⟨A', cap', hv, h1, h2, h3⟩ := h
 injection hv with e1 e2 e3
 subst e1
 obtain ⟨a, ha, hb, hc⟩ := h3 (by have := (List.getElem?_eq_some_iff.1 he).1; omega)
 obtain ⟨B, c, h4, h5⟩ := hc i l he
 obtain ⟨A2, c2, h6, -, h7, h8⟩ := h5.op
 injection h6 with e1 e2 e3
 subst e1 e3
 exact ⟨a, B, c, ha, hb, h4, h5, h7, h8⟩
end

/-- The sum of numbers from 0 on, of at most 1048576, behind t; else -1. -/
def rsumA (t : Int) : List Int → Int
 | [] => t
 | z :: l => if z < 0 ∨ 1048576 - t < z then -1 else rsumA (t + z) l
def isum : List Int → Int
 | [] => 0
 | z :: l => z + isum l
theorem rsumA_ok : ∀ (l : List Int) (t : Int), 0 ≤ t → t ≤ 1048576 → rsumA t l ≠ -1 → (∀ z ∈ l, 0 ≤ z) ∧ rsumA t l = t + isum l ∧ t + isum l ≤ 1048576
 | [], t, h0, h1, _ => ⟨fun z hz => by simp at hz, by simp [rsumA, isum], by simp [isum]; exact h1⟩
 | z :: l, t, h0, h1, h => by
   unfold rsumA at h ⊢
   by_cases hc : z < 0 ∨ 1048576 - t < z
   ·rw [if_pos hc] at h; exact absurd rfl h
   ·rw [if_neg hc] at h ⊢
    obtain ⟨a, b, c⟩ := rsumA_ok l (t + z) (by omega) (by omega) h
    refine ⟨fun y hy => ?_, by rw [b]; simp only [isum]; omega, by simp only [isum]; omega⟩
    rcases List.mem_cons.1 hy with rfl | hy
    ·omega
    ·exact a y hy
theorem rsumA_range : ∀ (l : List Int) (t : Int), 0 ≤ t → t ≤ 1048576 → -1 ≤ rsumA t l ∧ rsumA t l ≤ 1048576
 | [], t, h0, h1 => by unfold rsumA; omega
 | z :: l, t, h0, h1 => by
   unfold rsumA
   split
   ·omega
   ·exact rsumA_range l (t + z) (by omega) (by omega)
/-- A valid channel. -/
def VC (L : List (List Int)) : Prop := 1 ≤ L.length ∧ L.length ≤ 256 ∧ 1 ≤ (L.getD 0 []).length ∧ (L.getD 0 []).length ≤ 256 ∧ 1 ≤ rsumA 0 (L.getD 0 []) ∧ ∀ l ∈ L, l.length = (L.getD 0 []).length ∧ rsumA 0 l = rsumA 0 (L.getD 0 [])
/-- A channel's entries, as fractions. -/
def ce (L : List (List Int)) : Nat → Nat → Rat := fun x y => (((L.getD x []).getD y 0 : Int) : Rat)
theorem isum_sm : ∀ (l : List Int), ((isum l : Int) : Rat) = sm l.length (fun i => ((l.getD i 0 : Int) : Rat)) := by
 have key : ∀ (l : List Int) (n : Nat), n ≤ l.length → ((isum (l.take n) : Int) : Rat) = sm n (fun i => ((l.getD i 0 : Int) : Rat)) := by
  intro l n
  induction n with
  | zero => intro _; simp [isum, sm]
  | succ n ih =>
    intro hn
    have e : ∀ (a b : List Int), isum (a ++ b) = isum a + isum b := by
     intro a b
     induction a with
     | nil => simp [isum]
     | cons z a ih => simp only [List.cons_append, isum, ih]; omega
    have hg := List.getElem?_eq_getElem (l := l) (i := n) (by omega)
    rw [List.take_add_one, e, hg, sm_succ, ← ih (by omega), List.getD_eq_getElem?_getD, hg]
    simp only [Option.toList_some, isum, Option.getD_some, Int.add_zero]
    rw [Rat.intCast_add]
 intro l
 have := key l l.length (Nat.le_refl _)
 rwa [List.take_length] at this
theorem getD_mem {α : Type} {l : List α} {d : α} {y : Nat} (h : y < l.length) : l.getD y d ∈ l := by
 rw [List.getD_eq_getElem?_getD, List.getElem?_eq_getElem h]
 exact List.getElem_mem h
theorem VC.chan {L : List (List Int)} (h : VC L) : Chan L.length (L.getD 0 []).length (ce L) ((rsumA 0 (L.getD 0 []) : Int) : Rat) := by
 obtain ⟨h1, h2, h3, h4, h5, h6⟩ := h
 have key : ∀ x, x < L.length → (L.getD x []) ∈ L := fun x hx => getD_mem hx
 refine ⟨h1, h3, fun x hx y hy => ?_, fun x hx => ?_, ?_⟩
 ·obtain ⟨a, b⟩ := h6 _ (key x hx)
  obtain ⟨c, -, -⟩ := rsumA_ok (L.getD x []) 0 (by decide) (by decide) (by rw [b]; omega)
  have hy2 : y < (L.getD x []).length := by rw [a]; exact hy
  have := c ((L.getD x []).getD y 0) (getD_mem hy2)
  unfold ce
  exact Rat.intCast_nonneg.2 this
 ·obtain ⟨a, b⟩ := h6 _ (key x hx)
  obtain ⟨-, c, -⟩ := rsumA_ok (L.getD x []) 0 (by decide) (by decide) (by rw [b]; omega)
  rw [← b, c, Int.zero_add, isum_sm, a]
  rfl
 ·have : (0 : Int) < rsumA 0 (L.getD 0 []) := by omega
  exact Rat.intCast_pos.2 this
end Go.Proofs.YtdambnieminnfaaGreat

/- channel.sum and the reference's rowSum. -/
namespace Go.Proofs.YtdambnieminnfaaGreat
open Go.RowKit
attribute [local go_sem ↓] Go.wp_at_zero Go.wp_at_succ

theorem drop_at {zs : List Int} {c : Nat} {z : Int} (h : zs[c]? = some z) : zs.drop c = z :: zs.drop (c + 1) := by
 have hc := (List.getElem?_eq_some_iff.1 h).1
 rw [List.drop_eq_getElem_cons hc]
 have := (List.getElem?_eq_some_iff.1 h).2
 rw [this]

set_option maxRecDepth 100000 in
set_option maxHeartbeats 4000000 in
theorem csum_any (w : World) (v : Value) (zs : List Int) (h : IntsV w v zs) :
 Calls Tryz.prog 93 #[v] w fun e w' => e = .returned (.int .i64 (rsumA 0 zs)) ∧ Below w.heap.size w w' := by
 have H := Lib.hid h
 obtain ⟨A, cap, rfl, h, l1, l2⟩ := h.op
 have lm : zs.length ≤ 9223372036854775807 := by unfold maxLen at l2; omega
 clear h
 obtain ⟨n, hn⟩ : ∃ n, zs.length = n := ⟨_, rfl⟩
 rw [hn] at l1 lm
 rw [hn]
 have HN := Lib.hid hn
 obtain ⟨R, hR⟩ : ∃ R, rsumA 0 zs = R := ⟨_, rfl⟩
 rw [hR]
 have HR := Lib.hid hR
 clear hn hR
 go_enter Tryz.func93, Tryz.ntmps93
 go_wp2_with fail
 go_loopw [3, 8] (fun tv i wr => ∃ (c : Nat) (t : Int), c ≤ n ∧ i = .int .i64 c ∧ tv = .int .i64 t ∧ 0 ≤ t ∧ t ≤ 1048576 ∧ Hid (rsumA t (zs.drop c) = R) ∧ Below w.heap.size w wr) (fun _ i _ => n - (intOf i).toNat)
 case atStart => exact ⟨0, 0, by omega, rfl, rfl, by decide, by decide, HR.out, bel⟩
 case round =>
  obtain ⟨c, t, hc, rfl, rfl, ht0, ht1, hr, hB⟩ := hrel
  obtain ⟨wo, rfl⟩ : ∃ wo : World, wo = wr := ⟨_, rfl⟩
  have y5 := hB.size
  by_cases hlt : c < n
  ·obtain ⟨z, hz⟩ : ∃ z, zs[c]? = some z := ⟨_, List.getElem?_eq_getElem (by rw [HN.out]; exact hlt)⟩
   have hh := H.out.keep (.of_below hB)
   rw [HN.out] at hh
   obtain ⟨a, rfl, hb, x0, zb1, zb2⟩ := hh.at hz
   have k0 : (0 : Int) ≤ (c : Int) := by omega
   have k1 : (c : Int) < (n : Int) := by omega
   have hd := drop_at hz
   have HS : Hid ((if z < 0 ∨ 1048576 - t < z then -1 else rsumA (t + z) (zs.drop (c + 1))) = R) := by
    have h9 := hr.out
    rw [hd] at h9
    exact h9
   clear hz hh hd hr
   by_cases hz0 : z < 0
   ·have HE : Hid (R = -1) := by have h9 := HS.out; rw [if_pos (.inl hz0)] at h9; exact h9.symm
    have d1 : decide (z < 0) = true := decide_eq_true hz0
    go_wp2_with fail
    go_ret
    exact ⟨by first | (rw [HE.out]; rfl) | rw [HE.out] | (rw [← HE.out]; rfl), bel⟩
   ·have d1 : decide (z < 0) = false := decide_eq_false hz0
    have hw : IntKind.i64.wrap (1048576 - t) = 1048576 - t := by rw [IntKind.wrap_i64]; omega
    by_cases hz1 : 1048576 - t < z
    ·have HE : Hid (R = -1) := by have h9 := HS.out; rw [if_pos (.inr hz1)] at h9; exact h9.symm
     have d2 : decide (1048576 - t < z) = true := decide_eq_true hz1
     go_wp2_with fail
     go_ret
     exact ⟨by first | (rw [HE.out]; rfl) | rw [HE.out] | (rw [← HE.out]; rfl), bel⟩
    ·have HE : Hid (rsumA (t + z) (zs.drop (c + 1)) = R) := by have h9 := HS.out; rw [if_neg (by omega)] at h9; exact h9
     have d2 : decide (1048576 - t < z) = false := decide_eq_false hz1
     have hw2 : IntKind.i64.wrap (t + z) = t + z := by rw [IntKind.wrap_i64]; omega
     go_wp2_with fail
     go_roundw
     case rel => exact ⟨c + 1, t + z, by omega, by go_num, by first | rfl | go_num, by omega, by omega, HE.out, bel⟩
     case measure => simp only [intOf]; omega
  ·obtain rfl : c = n := by omega
   have HE : Hid (t = R) := by
    have h9 := hr.out
    rw [List.drop_eq_nil_of_le (by rw [HN.out]; exact Nat.le_refl _)] at h9
    exact h9
   go_wp2_with fail
   go_ret
   exact ⟨by first | (rw [HE.out]; rfl) | rw [HE.out] | (rw [← HE.out]; rfl), bel⟩

set_option maxRecDepth 100000 in
set_option maxHeartbeats 4000000 in
theorem rowSum_any (w : World) (v : Value) (zs : List Int) (h : IntsV w v zs) :
 Calls Tryz.prog 29 #[v] w fun e w' => e = .returned (.int .i64 (rsumA 0 zs)) ∧ Below w.heap.size w w' := by
 have H := Lib.hid h
 obtain ⟨A, cap, rfl, h, l1, l2⟩ := h.op
 have lm : zs.length ≤ 9223372036854775807 := by unfold maxLen at l2; omega
 clear h
 obtain ⟨n, hn⟩ : ∃ n, zs.length = n := ⟨_, rfl⟩
 rw [hn] at l1 lm
 rw [hn]
 have HN := Lib.hid hn
 obtain ⟨R, hR⟩ : ∃ R, rsumA 0 zs = R := ⟨_, rfl⟩
 rw [hR]
 have HR := Lib.hid hR
 clear hn hR
 go_enter Tryz.func29, Tryz.ntmps29
 go_wp2_with fail
 go_loopw [3, 8] (fun tv i wr => ∃ (c : Nat) (t : Int), c ≤ n ∧ i = .int .i64 c ∧ tv = .int .i64 t ∧ 0 ≤ t ∧ t ≤ 1048576 ∧ Hid (rsumA t (zs.drop c) = R) ∧ Below w.heap.size w wr) (fun _ i _ => n - (intOf i).toNat)
 case atStart => exact ⟨0, 0, by omega, rfl, rfl, by decide, by decide, HR.out, bel⟩
 case round =>
  obtain ⟨c, t, hc, rfl, rfl, ht0, ht1, hr, hB⟩ := hrel
  obtain ⟨wo, rfl⟩ : ∃ wo : World, wo = wr := ⟨_, rfl⟩
  have y5 := hB.size
  by_cases hlt : c < n
  ·obtain ⟨z, hz⟩ : ∃ z, zs[c]? = some z := ⟨_, List.getElem?_eq_getElem (by rw [HN.out]; exact hlt)⟩
   have hh := H.out.keep (.of_below hB)
   rw [HN.out] at hh
   obtain ⟨a, rfl, hb, x0, zb1, zb2⟩ := hh.at hz
   have k0 : (0 : Int) ≤ (c : Int) := by omega
   have k1 : (c : Int) < (n : Int) := by omega
   have hd := drop_at hz
   have HS : Hid ((if z < 0 ∨ 1048576 - t < z then -1 else rsumA (t + z) (zs.drop (c + 1))) = R) := by
    have h9 := hr.out
    rw [hd] at h9
    exact h9
   clear hz hh hd hr
   by_cases hz0 : z < 0
   ·have HE : Hid (R = -1) := by have h9 := HS.out; rw [if_pos (.inl hz0)] at h9; exact h9.symm
    have d1 : decide (z < 0) = true := decide_eq_true hz0
    go_wp2_with fail
    go_ret
    exact ⟨by first | (rw [HE.out]; rfl) | rw [HE.out] | (rw [← HE.out]; rfl), bel⟩
   ·have d1 : decide (z < 0) = false := decide_eq_false hz0
    by_cases hz1 : 1048576 < z
    ·have HE : Hid (R = -1) := by have h9 := HS.out; rw [if_pos (.inr (by omega))] at h9; exact h9.symm
     have d2 : decide (1048576 < z) = true := decide_eq_true hz1
     go_wp2_with fail
     go_ret
     exact ⟨by first | (rw [HE.out]; rfl) | rw [HE.out] | (rw [← HE.out]; rfl), bel⟩
    have d2 : decide (1048576 < z) = false := decide_eq_false hz1
    have hw2 : IntKind.i64.wrap (t + z) = t + z := by rw [IntKind.wrap_i64]; omega
    by_cases hz2 : 1048576 < t + z
    ·have HE : Hid (R = -1) := by have h9 := HS.out; rw [if_pos (.inr (by omega))] at h9; exact h9.symm
     have d3 : decide (1048576 < t + z) = true := decide_eq_true hz2
     go_wp2_with fail
     go_ret
     exact ⟨by first | (rw [HE.out]; rfl) | rw [HE.out] | (rw [← HE.out]; rfl), bel⟩
    ·have HE : Hid (rsumA (t + z) (zs.drop (c + 1)) = R) := by have h9 := HS.out; rw [if_neg (by omega)] at h9; exact h9
     have d3 : decide (1048576 < t + z) = false := decide_eq_false hz2
     go_wp2_with fail
     go_roundw
     case rel => exact ⟨c + 1, t + z, by omega, by go_num, by first | rfl | go_num, by omega, by omega, HE.out, bel⟩
     case measure => simp only [intOf]; omega
  ·obtain rfl : c = n := by omega
   have HE : Hid (t = R) := by
    have h9 := hr.out
    rw [List.drop_eq_nil_of_le (by rw [HN.out]; exact Nat.le_refl _)] at h9
    exact h9
   go_wp2_with fail
   go_ret
   exact ⟨by first | (rw [HE.out]; rfl) | rw [HE.out] | (rw [← HE.out]; rfl), bel⟩

/- slices.ContainsFunc at lists of integers, for any predicate. -/

/-- A function with a body: a call of it enters it. -/
def Enters (F : Nat) : Prop := ∀ (args : Array Value) (W : World), (callFunc F args).run Tryz.prog W = .ok (.enter F args) W
theorem enters {F : Nat} {fn : Func} (hf : Tryz.prog.funcs[F]? = some fn) (hb : fn.body.isNone = false) (hn : (fn.name == "runtime.NumGoroutine") = false) : Enters F := fun args W => by
 have hb2 : ¬ fn.body = none := fun h => by rw [h] at hb; cases hb
 have hn2 := beq_eq_false_iff_ne.1 hn
 simp [callFunc, go_sem, hf, hb2, hn2]
/-- A function that tells whether P, at the rows of L. -/
def TellsI (w : World) (F : Nat) (caps : Array Value) (P : List Int → Prop) (L : List (List Int)) : Prop :=
 ∀ (W : World) (A : Option Addr) (c : Nat) (l : List Int), Below w.heap.size w W → IntsV W (.slice A l.length c) l → l ∈ L → Calls Tryz.prog F (#[.slice A l.length c] ++ caps) W fun e w' => Tells (P l) e ∧ Below W.heap.size W w'

set_option maxRecDepth 100000 in
set_option maxHeartbeats 4000000 in
theorem indexI_any (w : World) (F : Nat) (caps : Array Value) (P : List Int → Prop) (v : Value) (L : List (List Int)) (h : IMat w v L) (hen : Enters F) (hF : TellsI w F caps P L) :
 Calls Tryz.prog 66 #[v, .func (Fn.func F) #[] caps] w fun e w' => ∃ r : Int, e = .returned (.int .i64 r) ∧ ((0 ≤ r ∧ ∃ l ∈ L, P l) ∨ (r < 0 ∧ ∀ l ∈ L, ¬ P l)) ∧ Below w.heap.size w w' := by
 have H := Lib.hid h
 have HF := Lib.hid hF
 have hen2 : ∀ (args : Array Value) (W : World), (callFunc F args).run Tryz.prog W = .ok (.enter F args) W := hen
 obtain ⟨A, cap, rfl, h, l1, l2⟩ := h.op
 have lm : L.length ≤ 9223372036854775807 := by unfold maxLen at l2; omega
 clear h hF
 obtain ⟨m, hm⟩ : ∃ m, L.length = m := ⟨_, rfl⟩
 rw [hm] at l1 lm
 rw [hm]
 have HM := Lib.hid hm
 clear hm
 go_enter Tryz.func66, Tryz.ntmps66
 go_wp2_with fail
 go_loopw [8] (fun i wr => ∃ (c : Nat), c ≤ m ∧ i = .int .i64 c ∧ Hid (∀ i l, i < c → L[i]? = some l → ¬ P l) ∧ Below w.heap.size w wr) (fun i _ => m - (intOf i).toNat)
 case atStart => exact ⟨0, by omega, rfl, Lib.hid (fun i l hi => absurd hi (by omega)), bel⟩
 case round =>
  obtain ⟨c, hc, rfl, hall, hB⟩ := hrel
  obtain ⟨wo, rfl⟩ : ∃ wo : World, wo = wr := ⟨_, rfl⟩
  have y5 := hB.size; (try simp only [zs] at y5)
  by_cases hlt : c < m
  ·obtain ⟨l, he⟩ : ∃ l, L[c]? = some l := ⟨_, List.getElem?_eq_getElem (by rw [HM.out]; exact hlt)⟩
   have hR := H.out.keep (.of_below hB)
   rw [HM.out] at hR
   obtain ⟨a, D, d, rfl, hab, hcell, hnum, l3, l4⟩ := hR.at he
   have HE := Lib.hid he
   have HNUM := Lib.hid hnum
   have k0 : (0 : Int) ≤ (c : Int) := by omega
   have k1 : (c : Int) < (m : Int) := by omega
   clear he hR hnum
   go_wp2_with fail
   refine (HF.out _ D d l hB HNUM.out (List.mem_of_getElem? HE.out)).mono ?_
   rintro e w2 ⟨⟨b, rfl, hb⟩, hb2⟩
   have y2 := hb2.size; (try simp only [zs] at y2)
   cases b
   ·have HGD : Hid (¬ P l) := fun h => by have := hb.out.2 h; cases this
    clear hb
    go_wp2_with fail
    go_roundw
    case rel =>
     refine ⟨c + 1, by omega, by go_num, Lib.hid (fun i l' hi hl' => ?_), bel⟩
     by_cases hic : i < c
     ·exact hall.out i l' hic hl'
     ·obtain rfl : i = c := by omega
      rw [HE.out] at hl'
      injection hl' with hl'
      subst hl'
      exact HGD.out
    case measure => simp only [intOf]; omega
   ·have HGD : Hid (P l) := hb.out.1 rfl
    clear hb
    go_wp2_with fail
    go_ret
    exact ⟨_, rfl, .inl ⟨by omega, l, List.mem_of_getElem? HE.out, HGD.out⟩, bel⟩
  ·obtain rfl : c = m := by omega
   have HALL : Hid (∀ l ∈ L, ¬ P l) := fun l hl => by
    obtain ⟨i, hi, rfl⟩ := List.mem_iff_getElem.1 hl
    exact hall.out i _ (by rw [← HM.out]; exact hi) (List.getElem?_eq_getElem hi)
   go_wp2_with fail
   go_ret
   exact ⟨_, rfl, .inr ⟨by decide, HALL.out⟩, hB⟩
set_option maxRecDepth 100000 in
set_option maxHeartbeats 4000000 in
theorem containsI_any (w : World) (F : Nat) (caps : Array Value) (P : List Int → Prop) (v : Value) (L : List (List Int)) (h : IMat w v L) (hen : Enters F) (hF : TellsI w F caps P L) :
 Calls Tryz.prog 26 #[v, .func (Fn.func F) #[] caps] w fun e w' => Tells (∃ l ∈ L, P l) e ∧ Below w.heap.size w w' := by
 have H := Lib.hid h
 have HF := Lib.hid hF
 obtain ⟨A, cap, rfl, h, l1, l2⟩ := h.op
 clear h hF
 go_enter Tryz.func26, Tryz.ntmps26
 go_wp2_with fail
 refine (indexI_any _ F caps P _ L H.out hen HF.out).mono ?_
 rintro e w1 ⟨r, rfl, hr, hb1⟩
 have y1 := hb1.size; (try simp only [zs] at y1)
 have HR := Lib.hid hr
 clear hr
 by_cases h0 : 0 ≤ r
 ·have HV : Hid (∃ l ∈ L, P l) := by
   rcases HR.out with ⟨_, h⟩ | ⟨h, _⟩
   ·exact h
   ·omega
  go_wp2_with fail
  go_ret
  exact ⟨Tells.yes HV.out, bel⟩
 ·have HV : Hid (¬ ∃ l ∈ L, P l) := by
   rcases HR.out with ⟨h, _⟩ | ⟨_, h⟩
   ·omega
   ·exact fun ⟨l, hl, hp⟩ => h l hl hp
  have hd : decide (0 ≤ r) = false := decide_eq_false h0
  go_wp2_with fail
  go_ret
  exact ⟨by first | exact Tells.no HV.out | (simp only [hd]; exact Tells.no HV.out), bel⟩
end Go.Proofs.YtdambnieminnfaaGreat

