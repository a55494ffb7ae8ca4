/- Contracts of the functions that the statements reach, part 22. -/
import Derived.Test.YtbdcjhoedhhabaaGreatRows
import Derived.Deep.CutBlock
import Derived.Test.YtbdcjhoedhhabaaGreatD20
import Derived.Test.YtbdcjhoedhhabaaGreatD21
set_option linter.unusedSimpArgs false
set_option linter.unusedVariables false

/- Add, Mul, Divide, Compare of rational; printed by gen_rat5.py. -/
namespace Go.Proofs.YtbdcjhoedhhabaaGreat
open Go.RowKit
attribute [local go_sem ↓] Go.wp_at_zero Go.wp_at_succ

/- Add of rational; printed by gen_rat5.py. -/

/- Divide of the reference. -/

/- rational.Sub; of the reference: isZero, zero, New, Clean, Of, Sign. -/

theorem field_words (w : World) (b : Bool) (A : Option Addr) (n c : Nat) : (Instr.field 211 (.agg #[.bool b, .slice A n c]) 1).run Tryz.prog w = .ok (.slice A n c) w := by kernel_rfl
attribute [local go_sem] field_words
end Go.Proofs.YtbdcjhoedhhabaaGreat

/- whole, zero, negative, dot. -/
namespace Go.Proofs.YtbdcjhoedhhabaaGreat
open Go.RowKit
attribute [local go_sem ↓] Go.wp_at_zero Go.wp_at_succ

/- slices.ContainsFunc at the two predicates: a row of another length, a number below zero. -/

/- Valid. -/

/-- The sizes of a system are right. -/
def VS (m mb : Nat) (N : Nat → Nat) : Prop := 1 ≤ m ∧ m ≤ 80 ∧ mb = m ∧ 1 ≤ N 0 ∧ N 0 ≤ 80 ∧ ∀ i, i < m → N i = N 0

/-- The answer is a bool that tells whether P. -/
def Tells (P : Prop) (e : Ending) : Prop := ∃ b : Bool, e = .returned (.bool b) ∧ Hid (b = true ↔ P)
theorem Tells.yes {P : Prop} (h : P) : Tells P (.returned (.bool true)) := ⟨true, rfl, fun _ => h, fun _ => rfl⟩
theorem Tells.no {P : Prop} (h : ¬ P) : Tells P (.returned (.bool false)) := ⟨false, rfl, fun h => (by cases h), fun h' => absurd h' h⟩

end Go.Proofs.YtbdcjhoedhhabaaGreat

/- Lists of fractions that grow by append, or are made. -/
namespace Go.Proofs.YtbdcjhoedhhabaaGreat
open Go.RowKit

/-- A list of fractions that lies in a block of its own, at or above base. -/
def OwnR (w : World) (base : Nat) (v : Value) (rs : List R4) : Prop := w.ownsRow base 213 4 v rs.length (flat rs)

theorem OwnR.nil (w : World) (base : Nat) : OwnR w base (.slice none 0 0) [] := World.ownsRow_nil _ _ _ _

section
variable {w w' : World} {base k : Nat} {v : Value} {rs : List R4} {X Y : Nat → Prop} {f : Nat → Rat}
theorem OwnR.lt (h : OwnR w base v rs) {g : Nat} (hg : v.ownBlock = some g) : g < w.heap.size ∧ base ≤ g := by
 rcases h.2 with ⟨h', _⟩ | ⟨g', cap', cur, h', hb, hg', _, _, hsz, htake⟩
 ·rw [h'] at hg; cases hg
 ·rw [h'] at hg; injection hg with hg; subst hg
  exact ⟨(Array.getElem?_eq_some_iff.1 hg').1, hb⟩
theorem OwnR.nums (h : OwnR w base v rs) (hv : ValL k w X rs f) (hY : ∀ b, b < w.heap.size → Y b → X b) (hg : ∀ g, v.ownBlock = some g → ¬ Y g) : Nums k w Y v rs.length f := by
 have hl := h.1
 rcases h.2 with ⟨rfl, hn⟩ | ⟨g', cap', cur, rfl, _, hg', h1, h2, hsz, htake⟩
 ·rw [hn]; exact Nums.nil k w Y f
 ·refine ⟨rs, _, _, rfl, rfl, h1, h2, fun _ => ⟨_, rfl, (Array.getElem?_eq_some_iff.1 hg').1, hg _ rfl, fun i r hr => ?_⟩, hv.weak hY⟩
  obtain ⟨c0, c1, c2, c3⟩ := flat_get rs i r hr
  have hi := (List.getElem?_eq_some_iff.1 hr).1
  have e : ∀ i, (⟨g', 0, none⟩ : Addr).add i = ⟨g', i, none⟩ := fun i => by simp [Addr.add]; intro h; omega
  have e2 : ∀ i j, (⟨g', i, none⟩ : Addr).add j = ⟨g', i + j, none⟩ := fun i j => by simp [Addr.add]
  rw [e, e2, e2, e2]
  have key : ∀ (j : Nat) (u : Value), (flat rs)[j]? = some u → w.cell? ⟨g', j, none⟩ = some u := fun j u hu => by
   rw [cell_of_row w g' j cur _ (0, 0) hg']
   rw [← htake, List.getElem?_take] at hu
   split at hu
   ·simpa using hu
   ·cases hu
  exact ⟨key _ _ c0, key _ _ c1, key _ _ c2, key _ _ c3⟩
theorem OwnR.below (h : OwnR w base v rs) (hb : Below w.heap.size w w') : OwnR w' base v rs := by
 refine ⟨h.1, ?_⟩
 rcases h.2 with ⟨h', hn⟩ | ⟨g', cap', cur, h', h3, hg', h1, h2, hsz, htake⟩
 ·exact .inl ⟨h', hn⟩
 ·exact .inr ⟨g', cap', cur, h', h3, by rw [hb.block g' (Array.getElem?_eq_some_iff.1 hg').1]; exact hg', h1, h2, hsz, htake⟩
theorem OwnR.keep (h : OwnR w base v rs) (hb : Keep X w w') (hX : ∀ g, v.ownBlock = some g → ¬ X g) : OwnR w' base v rs := by
 refine ⟨h.1, ?_⟩
 rcases h.2 with ⟨h', hn⟩ | ⟨g', cap', cur, h', h3, hg', h1, h2, hsz, htake⟩
 ·exact .inl ⟨h', hn⟩
 ·exact .inr ⟨g', cap', cur, h', h3, by rw [hb.block g' (Array.getElem?_eq_some_iff.1 hg').1 (hX g' (by rw [h']; rfl))]; exact hg', h1, h2, hsz, htake⟩
end

end Go.Proofs.YtbdcjhoedhhabaaGreat

/- column. -/
namespace Go.Proofs.YtbdcjhoedhhabaaGreat
open Go.RowKit
attribute [local go_sem ↓] Go.wp_at_zero Go.wp_at_succ

/- solves, CheckPoint. -/

/-- The numbers f are a point. -/
def SV (m n nx : Nat) (F : Nat → Nat → Rat) (f bv : Nat → Rat) : Prop := nx = n ∧ (∀ j, j < nx → ¬ f j < 0) ∧ ∀ i, i < m → sm n (fun j => F i j * f j) = bv i

/- CheckPoint, CheckFarkas, CheckResult of the program. -/

/-- A system that is read. -/
def Sys (k : Nat) (w : World) (v : Value) (m mb : Nat) (N : Nat → Nat) (F : Nat → Nat → Rat) (Bv : Nat → Rat) : Prop :=
 ∃ A c B d, v = .agg #[.slice A m c, .slice B mb d] ∧ Mat k w (fun _ => False) (.slice A m c) m N F ∧ Nums k w (fun _ => False) (.slice B mb d) mb Bv
theorem Sys.keep {k : Nat} {w w' : World} {v : Value} {m mb : Nat} {N : Nat → Nat} {F : Nat → Nat → Rat} {Bv : Nat → Rat} (h : Sys k w v m mb N F Bv) (hk : Keep (fun _ => False) w w') : Sys k w' v m mb N F Bv := by
 obtain ⟨A, c, B, d, rfl, h1, h2⟩ := h
 exact ⟨A, c, B, d, rfl, h1.keep hk, h2.keep hk⟩
/-- A point of a system. -/
def PT (m mb : Nat) (N : Nat → Nat) (F : Nat → Nat → Rat) (Bv : Nat → Rat) (nx : Nat) (f : Nat → Rat) : Prop := VS m mb N ∧ SV m (N 0) nx F f Bv
/-- A Farkas vector of a system. -/
def FK (m mb : Nat) (N : Nat → Nat) (F : Nat → Nat → Rat) (Bv : Nat → Rat) (ny : Nat) (y : Nat → Rat) : Prop := VS m mb N ∧ ny = m ∧ sm m (fun i => y i * Bv i) < 0 ∧ ∀ j, j < N 0 → ¬ sm m (fun i => y i * F i j) < 0

section
variable {m mb nx ny k : Nat} {N : Nat → Nat} {F : Nat → Nat → Rat} {f y Bv : Nat → Rat}

end

/- CheckResult and CheckOptimum of the program. -/

/-- An optimum that proves itself: the three kinds. -/
def OP0 (m mb : Nat) (N : Nat → Nat) (F : Nat → Nat → Rat) (Bv : Nat → Rat) (nx ny : Nat) (y : Nat → Rat) (nr : Nat) (val : Rat) : Prop := FK m mb N F Bv ny y ∧ nx = 0 ∧ nr = 0 ∧ val = 0
def OP1 (m mb : Nat) (N : Nat → Nat) (F : Nat → Nat → Rat) (Bv kc : Nat → Rat) (nx : Nat) (f : Nat → Rat) (ny nr : Nat) (r : Nat → Rat) (val : Rat) : Prop :=
 PT m mb N F Bv nx f ∧ SV m (N 0) nr F r (fun _ => 0) ∧ sm (N 0) (fun j => kc j * r j) < 0 ∧ ny = 0 ∧ val = 0
def OP2 (m mb : Nat) (N : Nat → Nat) (F : Nat → Nat → Rat) (Bv kc : Nat → Rat) (nx : Nat) (f : Nat → Rat) (ny : Nat) (y : Nat → Rat) (nr : Nat) (val : Rat) : Prop :=
 PT m mb N F Bv nx f ∧ (ny = m ∧ ∀ j, j < N 0 → ¬ kc j < sm m (fun i => y i * F i j)) ∧ nr = 0 ∧ sm (N 0) (fun j => kc j * f j) = val ∧ sm m (fun i => y i * Bv i) = val
def OP (kind : Int) (m mb : Nat) (N : Nat → Nat) (F : Nat → Nat → Rat) (Bv : Nat → Rat) (nc : Nat) (kc : Nat → Rat) (nx : Nat) (f : Nat → Rat) (ny : Nat) (y : Nat → Rat) (nr : Nat) (r : Nat → Rat) (val : Rat) : Prop :=
 VS m mb N ∧ nc = N 0 ∧ ((kind = 0 ∧ OP0 m mb N F Bv nx ny y nr val) ∨ (kind = 1 ∧ OP1 m mb N F Bv kc nx f ny nr r val) ∨ (kind = 2 ∧ OP2 m mb N F Bv kc nx f ny y nr val))

section
variable {m mb nx ny nr nc k : Nat} {N : Nat → Nat} {F : Nat → Nat → Rat} {f y r Bv kc : Nat → Rat} {val : Rat}

end
end Go.Proofs.YtbdcjhoedhhabaaGreat

/- The plain laws of linear systems: certificates exclude each other, the kinds and values of optima are one. -/
namespace Go.Proofs.YtbdcjhoedhhabaaGreat

section
variable {m n : Nat} {F : Nat → Nat → Rat} {f y Bv kc : Nat → Rat}
/-- A vector times the equations. -/
theorem times_rows (y f : Nat → Rat) (h : ∀ i, i < m → sm n (fun j => F i j * f j) = Bv i) : sm m (fun i => y i * Bv i) = sm n (fun j => f j * sm m (fun i => y i * F i j)) := by
 rw [sm_congr (g := fun i => sm n (fun j => f j * (y i * F i j))) (fun i hi => by
  rw [← h i hi, ← sm_mul]
  exact sm_congr (fun j _ => by grind)), sm_swap]
 exact sm_congr (fun j _ => by rw [sm_mul])
theorem sm_mono {f g : Nat → Rat} {m : Nat} (h : ∀ i, i < m → f i ≤ g i) : sm m f ≤ sm m g := by
 have h1 : 0 ≤ sm m (fun i => g i - f i) := sm_nonneg (fun i hi => by have := h i hi; grind)
 rw [sm_sub] at h1
 grind
/-- Weak duality. -/
theorem weak (hf : ∀ j, j < n → ¬ f j < 0) (h : ∀ i, i < m → sm n (fun j => F i j * f j) = Bv i) (hy : ∀ j, j < n → ¬ kc j < sm m (fun i => y i * F i j)) : sm m (fun i => y i * Bv i) ≤ sm n (fun j => kc j * f j) := by
 rw [times_rows y f h]
 refine sm_mono (fun j hj => ?_)
 have h1 := hf j hj
 have h2 := hy j hj
 rw [Rat.mul_comm (kc j)]
 exact Rat.mul_le_mul_of_nonneg_left (by grind) (by grind)
end

section
variable {m nx ny nr nc nx' ny' nr' : Nat} {N N' : Nat → Nat} {F F' : Nat → Nat → Rat} {f y r Bv Bv' kc f' y' r' : Nat → Rat} {val val' : Rat} {k k' : Int}
/-- No system has both a point and a Farkas vector. -/
theorem not_both (hp : PT m m N F Bv nx f) (hk : FK m m N F Bv ny y) : False := by
 obtain ⟨-, e, hf, hs⟩ := hp
 obtain ⟨-, -, hn, hy⟩ := hk
 rw [e] at hf
 have h := weak (kc := fun _ => 0) (y := fun i => -y i) hf hs (fun j hj => by
  have := hy j hj
  rw [sm_congr (g := fun i => -(y i * F i j)) (fun i _ => by grind), sm_neg]; grind)
 rw [sm_congr (f := fun i => -y i * Bv i) (g := fun i => -(y i * Bv i)) (fun i _ => by grind), sm_neg, sm_zero (f := fun j => 0 * f j) (fun j _ => by grind)] at h
 grind
theorem no_ray (hr : SV m (N 0) nr F r (fun _ => 0)) (hc : sm (N 0) (fun j => kc j * r j) < 0) (hy : ∀ j, j < N 0 → ¬ kc j < sm m (fun i => y i * F i j)) : False := by
 obtain ⟨e, hf, hs⟩ := hr
 rw [e] at hf
 have h := weak hf hs hy
 rw [sm_zero (f := fun i => y i * 0) (fun i _ => by grind)] at h
 grind
theorem val_le (hp : PT m m N F Bv nx f) (hy : ∀ j, j < N 0 → ¬ kc j < sm m (fun i => y i * F i j)) : sm m (fun i => y i * Bv i) ≤ sm (N 0) (fun j => kc j * f j) := by
 obtain ⟨-, e, hf, hs⟩ := hp
 rw [e] at hf
 exact weak hf hs hy
/-- The kind and the value of an optimum are one. -/
theorem OP.uniq (h : OP k m m N F Bv nc kc nx f ny y nr r val) (h' : OP k' m m N F Bv nc kc nx' f' ny' y' nr' r' val') : k = k' ∧ val = val' := by
 obtain ⟨-, -, h⟩ := h
 obtain ⟨-, -, h'⟩ := h'
 rcases h with ⟨rfl, h⟩ | ⟨rfl, h⟩ | ⟨rfl, h⟩ <;> rcases h' with ⟨rfl, h'⟩ | ⟨rfl, h'⟩ | ⟨rfl, h'⟩
 ·exact ⟨rfl, by rw [h.2.2.2, h'.2.2.2]⟩
 ·exact (not_both h'.1 h.1).elim
 ·exact (not_both h'.1 h.1).elim
 ·exact (not_both h.1 h'.1).elim
 ·exact ⟨rfl, by rw [h.2.2.2.2, h'.2.2.2.2]⟩
 ·exact (no_ray h.2.1 h.2.2.1 h'.2.1.2).elim
 ·exact (not_both h.1 h'.1).elim
 ·exact (no_ray h'.2.1 h'.2.2.1 h.2.1.2).elim
 ·refine ⟨rfl, ?_⟩
  have h1 := val_le h.1 h'.2.1.2
  have h2 := val_le h'.1 h.2.1.2
  rw [h'.2.2.2.2, h.2.2.2.1] at h1
  rw [h.2.2.2.2, h'.2.2.2.1] at h2
  grind

/-- One equation more. -/
structure Ext (m : Nat) (N N' : Nat → Nat) (F F' : Nat → Nat → Rat) (Bv Bv' : Nat → Rat) : Prop where
 vs : VS (m + 1) (m + 1) N'
 n0 : N' 0 = N 0
 row : ∀ i, i < m → ∀ j, j < N 0 → F' i j = F i j
 rhs : ∀ i, i < m → Bv' i = Bv i
def ex (m : Nat) (y : Nat → Rat) : Nat → Rat := fun i => if i < m then y i else 0
theorem ex_sum (y g : Nat → Rat) : sm (m + 1) (fun i => ex m y i * g i) = sm m (fun i => y i * g i) := by
 rw [sm_succ, sm_congr (g := fun i => y i * g i) (fun i hi => by unfold ex; rw [if_pos hi])]
 unfold ex
 rw [if_neg (by omega)]; grind
theorem Ext.fk (e : Ext m N N' F F' Bv Bv') (h : FK m m N F Bv ny y) : FK (m + 1) (m + 1) N' F' Bv' (m + 1) (ex m y) := by
 refine ⟨e.vs, rfl, ?_, fun j hj => ?_⟩
 ·rw [ex_sum, sm_congr (g := fun i => y i * Bv i) (fun i hi => by rw [e.rhs i hi])]; exact h.2.2.1
 ·rw [e.n0] at hj
  rw [ex_sum, sm_congr (g := fun i => y i * F i j) (fun i hi => by rw [e.row i hi j hj])]; exact h.2.2.2 j hj
theorem Ext.du (e : Ext m N N' F F' Bv Bv') (hy : ∀ j, j < N 0 → ¬ kc j < sm m (fun i => y i * F i j)) : ∀ j, j < N' 0 → ¬ kc j < sm (m + 1) (fun i => ex m y i * F' i j) := fun j hj => by
 rw [e.n0] at hj
 rw [ex_sum, sm_congr (g := fun i => y i * F i j) (fun i hi => by rw [e.row i hi j hj])]; exact hy j hj
/-- A solution of the system with the equation more. -/
theorem Ext.sv (e : Ext m N N' F F' Bv Bv') {b b' : Nat → Rat} (hb : ∀ i, i < m → b' i = b i) (h : SV (m + 1) (N' 0) nx F' f b') : SV m (N 0) nx F f b := by
 obtain ⟨h1, h2, h3⟩ := h
 rw [e.n0] at h1 h3
 refine ⟨h1, h2, fun i hi => ?_⟩
 rw [← hb i hi, ← h3 i (by omega)]
 exact sm_congr (fun j hj => by rw [e.row i hi j hj])
theorem Ext.sv' (e : Ext m N N' F F' Bv Bv') {b b' : Nat → Rat} (hb : ∀ i, i < m → b' i = b i) (h : SV m (N 0) nx F f b) (hl : sm (N 0) (fun j => F' m j * f j) = b' m) : SV (m + 1) (N' 0) nx F' f b' := by
 obtain ⟨h1, h2, h3⟩ := h
 refine ⟨by rw [e.n0]; exact h1, h2, fun i hi => ?_⟩
 rw [e.n0]
 by_cases him : i < m
 ·rw [hb i him, ← h3 i him]
  exact sm_congr (fun j hj => by rw [e.row i him j hj])
 ·rw [show i = m by omega]; exact hl
/-- An equation that is a combination of two others changes nothing. -/
theorem Ext.same (e : Ext m N N' F F' Bv Bv') {a c : Nat} {t : Rat} (ha : a < m) (hc : c < m) (hrow : ∀ j, j < N 0 → F' m j = F a j + t * F c j) (hrhs : Bv' m = Bv a + t * Bv c)
 (h : OP k m m N F Bv nc kc nx f ny y nr r val) (h' : OP k' (m + 1) (m + 1) N' F' Bv' nc kc nx' f' ny' y' nr' r' val') : k = k' ∧ val = val' := by
 have comb : ∀ {g b b' : Nat → Rat} {ng : Nat}, SV m (N 0) ng F g b → b' m = b a + t * b c → sm (N 0) (fun j => F' m j * g j) = b' m := fun {g b b' ng} hs hb => by
  rw [sm_congr (g := fun j => F a j * g j + t * (F c j * g j)) (fun j hj => by rw [hrow j hj]; grind), sm_add, sm_mul, hs.2.2 a ha, hs.2.2 c hc, hb]
 have hpt : ∀ {g : Nat → Rat} {ng : Nat}, PT m m N F Bv ng g → PT (m + 1) (m + 1) N' F' Bv' ng g := fun hp => ⟨e.vs, e.sv' e.rhs hp.2 (comb hp.2 hrhs)⟩
 have h0 : ∃ ny2 y2, OP k (m + 1) (m + 1) N' F' Bv' nc kc nx f ny2 y2 nr r val := by
  obtain ⟨-, hn, h⟩ := h
  rcases h with ⟨rfl, h⟩ | ⟨rfl, h⟩ | ⟨rfl, h⟩
  ·exact ⟨_, _, e.vs, by rw [e.n0]; exact hn, .inl ⟨rfl, e.fk h.1, h.2⟩⟩
  ·refine ⟨ny, y, e.vs, by rw [e.n0]; exact hn, .inr (.inl ⟨rfl, hpt h.1, e.sv' (b' := fun _ => 0) (fun _ _ => rfl) h.2.1 (comb (b' := fun _ => 0) h.2.1 (by show (0 : Rat) = 0 + t * 0; grind)), by rw [e.n0]; exact h.2.2.1, h.2.2.2⟩)⟩
  ·refine ⟨_, ex m y, e.vs, by rw [e.n0]; exact hn, .inr (.inr ⟨rfl, hpt h.1, ⟨rfl, e.du h.2.1.2⟩, h.2.2.1, by rw [e.n0]; exact h.2.2.2.1, ?_⟩)⟩
   rw [ex_sum, sm_congr (g := fun i => y i * Bv i) (fun i hi => by rw [e.rhs i hi])]; exact h.2.2.2.2
 obtain ⟨ny2, y2, h0⟩ := h0
 exact h0.uniq h'
end

/- Refinement of channels, plainly: witnesses, gain functions, the two exclude each other, a Farkas vector gives a gain function. -/

structure Chan (m n : Nat) (C : Nat → Nat → Rat) (p : Rat) : Prop where
 m1 : 1 ≤ m
 n1 : 1 ≤ n
 non : ∀ x, x < m → ∀ y, y < n → 0 ≤ C x y
 row : ∀ x, x < m → sm n (C x) = p
 pos : 0 < p
/-- W post-processes C to D. -/
structure Wit (m n k : Nat) (C : Nat → Nat → Rat) (p : Rat) (D : Nat → Nat → Rat) (q : Rat) (W : Nat → Nat → Rat) : Prop where
 non : ∀ y, y < n → ∀ z, z < k → 0 ≤ W y z
 one : ∀ y, y < n → sm k (W y) = 1
 eq : ∀ x, x < m → ∀ z, z < k → q * sm n (fun y => C x y * W y z) = p * D x z
section
variable {m n k K : Nat} {C D W g : Nat → Nat → Rat} {p q : Rat}
theorem sm_mul_right (f : Nat → Rat) (c : Rat) : ∀ m, sm m (fun i => f i * c) = sm m f * c
 | 0 => by unfold sm; grind
 | m + 1 => by unfold sm; rw [sm_mul_right f c m]; grind
end

/- The system of a witness, plainly: its points are the witnesses, its Farkas vectors give gain functions. -/

section
variable {m n k : Nat} {C D W : Nat → Nat → Rat} {p q : Rat} {f : Nat → Rat}
/-- The product of two witnesses is a witness. -/
theorem Wit.chain {j : Nat} {E V : Nat → Nat → Rat} {r : Rat} (h : Wit m n k C p D q W) (h' : Wit m k j D q E r V) (hq : 0 < q) : Wit m n j C p E r (fun y z => sm k (fun u => W y u * V u z)) := by
 refine ⟨fun y hy z hz => sm_nonneg (fun u hu => Rat.mul_nonneg (h.non y hy u hu) (h'.non u hu z hz)), fun y hy => ?_, fun x hx z hz => ?_⟩
 ·rw [sm_swap, sm_congr (g := fun u => W y u) (fun u hu => by rw [sm_mul, h'.one u hu]; grind)]
  exact h.one y hy
 ·have e1 : sm n (fun y => C x y * sm k (fun u => W y u * V u z)) = sm k (fun u => sm n (fun y => C x y * W y u) * V u z) := by
   rw [sm_congr (g := fun y => sm k (fun u => C x y * W y u * V u z)) (fun y _ => by rw [← sm_mul]; exact sm_congr (fun u _ => by grind)), sm_swap]
   exact sm_congr (fun u _ => by rw [sm_mul_right])
  have e2 : q * sm k (fun u => sm n (fun y => C x y * W y u) * V u z) = p * sm k (fun u => D x u * V u z) := by
   rw [← sm_mul, ← sm_mul]
   refine sm_congr (fun u hu => ?_)
   have := h.eq x hx u hu
   grind
  have e3 := h'.eq x hx z hz
  rw [e1]
  have hq0 : q ≠ 0 := by grind
  have : q * (r * sm k (fun u => sm n (fun y => C x y * W y u) * V u z)) = q * (p * E x z) := by
   rw [show q * (r * sm k (fun u => sm n (fun y => C x y * W y u) * V u z)) = r * (q * sm k (fun u => sm n (fun y => C x y * W y u) * V u z)) by grind, e2]
   rw [show r * (p * sm k (fun u => D x u * V u z)) = p * (r * sm k (fun u => D x u * V u z)) by grind, e3]
   grind
  grind
/-- Every channel refines itself. -/
theorem Wit.refl (hC : Chan m n C p) : Wit m n n C p C p (fun y z => if y = z then 1 else 0) := by
 refine ⟨fun y _ z _ => by split <;> grind, fun y hy => ?_, fun x hx z hz => ?_⟩
 ·rw [sm_one _ y hy (fun z hz hne => by rw [if_neg (fun e => hne e.symm)]), if_pos rfl]
 ·rw [sm_one _ z hz (fun y hy hne => by rw [if_neg hne]; grind), if_pos rfl]; grind
end
end Go.Proofs.YtbdcjhoedhhabaaGreat

/- Lists of integers in memory; channels, plainly. -/
namespace Go.Proofs.YtbdcjhoedhhabaaGreat
open Go.RowKit

/-- A list of integers that is read. -/
def IntsV (w : World) (v : Value) (zs : List Int) : Prop :=
 ∃ A cap, v = .slice A zs.length cap ∧ zs.length ≤ cap ∧ cap ≤ maxLen ∧ (zs.length ≠ 0 → ∃ a, A = some a ∧ a.block < w.heap.size ∧ ∀ i z, zs[i]? = some z → w.cell? (a.add i) = some (.int .i64 z)) ∧ ∀ z ∈ zs, -9223372036854775808 ≤ z ∧ z ≤ 9223372036854775807
/-- A list of lists of integers that is read. -/
def IMat (w : World) (v : Value) (L : List (List Int)) : Prop :=
 ∃ A cap, v = .slice A L.length cap ∧ L.length ≤ cap ∧ cap ≤ maxLen ∧ (L.length ≠ 0 → ∃ a, A = some a ∧ a.block < w.heap.size ∧ ∀ i l, L[i]? = some l → ∃ B c, w.cell? (a.add i) = some (.slice B l.length c) ∧ IntsV w (.slice B l.length c) l)
section
variable {w w' : World} {v : Value} {zs : List Int} {L : List (List Int)}
theorem IntsV.keep (h : IntsV w v zs) (hk : Keep (fun _ => False) w w') : IntsV w' v zs := by
 obtain ⟨A, cap, hv, h1, h2, h3, h4⟩ := h
 refine ⟨A, cap, hv, h1, h2, fun hn => ?_, h4⟩
 obtain ⟨a, ha, hb, hc⟩ := h3 hn
 exact ⟨a, ha, Nat.lt_of_lt_of_le hb hk.size, fun i z hz => cell_keep (hc i z hz) (by rw [add_block]; exact hb) id hk⟩
theorem IntsV.op (h : IntsV w v zs) : ∃ (A : Option Addr) (cap : Nat), v = .slice A zs.length cap ∧ IntsV w (.slice A zs.length cap) zs ∧ zs.length ≤ cap ∧ cap ≤ maxLen := by
 have h0 := h
 obtain ⟨A, cap, rfl, h1, h2, -⟩ := h
 exact ⟨A, cap, rfl, h0, h1, h2⟩
theorem IntsV.at {A : Option Addr} {n cap : Nat} (h : IntsV w (.slice A n cap) zs) {i : Nat} {z : Int} (hz : zs[i]? = some z) : ∃ a : Addr, A = some a ∧ a.block < w.heap.size ∧ w.cell? (a.add i) = some (.int .i64 z) ∧ -9223372036854775808 ≤ z ∧ z ≤ 9223372036854775807 := by
 obtain ⟨A', cap', hv, h1, h2, h3, h4⟩ := h
 injection hv with e1 e2 e3
 subst e1
 obtain ⟨a, ha, hb, hc⟩ := h3 (by have := (List.getElem?_eq_some_iff.1 hz).1; omega)
 exact ⟨a, ha, hb, hc i z hz, h4 z (List.mem_of_getElem? hz)⟩
theorem IMat.keep (h : IMat w v L) (hk : Keep (fun _ => False) w w') : IMat w' v L := by
 obtain ⟨A, cap, hv, h1, h2, h3⟩ := h
 refine ⟨A, cap, hv, h1, h2, fun hn => ?_⟩
 obtain ⟨a, ha, hb, hc⟩ := h3 hn
 refine ⟨a, ha, Nat.lt_of_lt_of_le hb hk.size, fun i l hl => ?_⟩
 obtain ⟨B, c, h4, h5⟩ := hc i l hl
 exact ⟨B, c, cell_keep h4 (by rw [add_block]; exact hb) id hk, h5.keep hk⟩
theorem IMat.op (h : IMat w v L) : ∃ (A : Option Addr) (cap : Nat), v = .slice A L.length cap ∧ IMat w (.slice A L.length cap) L ∧ L.length ≤ cap ∧ cap ≤ maxLen := by
 have h0 := h
 obtain ⟨A, cap, rfl, h1, h2, -⟩ := h
 exact ⟨A, cap, rfl, h0, h1, h2⟩
theorem IMat.at {A : Option Addr} {n cap : Nat} (h : IMat w (.slice A n cap) L) {i : Nat} {l : List Int} (he : L[i]? = some l) : ∃ (a : Addr) (B : Option Addr) (c : Nat), A = some a ∧ a.block < w.heap.size ∧ w.cell? (a.add i) = some (.slice B l.length c) ∧ IntsV w (.slice B l.length c) l ∧ l.length ≤ c ∧ c ≤ maxLen := by
 obtain ⟨A', cap', hv, h1, h2, h3⟩ := h
 injection hv with e1 e2 e3
 subst e1
 obtain ⟨a, ha, hb, hc⟩ := h3 (by have := (List.getElem?_eq_some_iff.1 he).1; omega)
 obtain ⟨B, c, h4, h5⟩ := hc i l he
 obtain ⟨A2, c2, h6, -, h7, h8⟩ := h5.op
 injection h6 with e1 e2 e3
 subst e1 e3
 exact ⟨a, B, c, ha, hb, h4, h5, h7, h8⟩
end

end Go.Proofs.YtbdcjhoedhhabaaGreat

/- channel.sum and the reference's rowSum. -/
namespace Go.Proofs.YtbdcjhoedhhabaaGreat
open Go.RowKit
attribute [local go_sem ↓] Go.wp_at_zero Go.wp_at_succ

/- slices.ContainsFunc at lists of integers, for any predicate. -/

/-- A function with a body: a call of it enters it. -/
def Enters (F : Nat) : Prop := ∀ (args : Array Value) (W : World), (callFunc F args).run Tryz.prog W = .ok (.enter F args) W
theorem enters {F : Nat} {fn : Func} (hf : Tryz.prog.funcs[F]? = some fn) (hb : fn.body.isNone = false) (hn : (fn.name == "runtime.NumGoroutine") = false) : Enters F := fun args W => by
 have hb2 : ¬ fn.body = none := fun h => by rw [h] at hb; cases hb
 have hn2 := beq_eq_false_iff_ne.1 hn
 simp [callFunc, go_sem, hf, hb2, hn2]
/-- A function that tells whether P, at the rows of L. -/
def TellsI (w : World) (F : Nat) (caps : Array Value) (P : List Int → Prop) (L : List (List Int)) : Prop :=
 ∀ (W : World) (A : Option Addr) (c : Nat) (l : List Int), Below w.heap.size w W → IntsV W (.slice A l.length c) l → l ∈ L → Calls Tryz.prog F (#[.slice A l.length c] ++ caps) W fun e w' => Tells (P l) e ∧ Below W.heap.size W w'

set_option maxRecDepth 100000 in
set_option maxHeartbeats 4000000 in
theorem indexI_any (w : World) (F : Nat) (caps : Array Value) (P : List Int → Prop) (v : Value) (L : List (List Int)) (h : IMat w v L) (hen : Enters F) (hF : TellsI w F caps P L) :
 Calls Tryz.prog 162 #[v, .func (Fn.func F) #[] caps] w fun e w' => ∃ r : Int, e = .returned (.int .i64 r) ∧ ((0 ≤ r ∧ ∃ l ∈ L, P l) ∨ (r < 0 ∧ ∀ l ∈ L, ¬ P l)) ∧ Below w.heap.size w w' := by
 have H := Lib.hid h
 have HF := Lib.hid hF
 have hen2 : ∀ (args : Array Value) (W : World), (callFunc F args).run Tryz.prog W = .ok (.enter F args) W := hen
 obtain ⟨A, cap, rfl, h, l1, l2⟩ := h.op
 have lm : L.length ≤ 9223372036854775807 := by unfold maxLen at l2; omega
 clear h hF
 obtain ⟨m, hm⟩ : ∃ m, L.length = m := ⟨_, rfl⟩
 rw [hm] at l1 lm
 rw [hm]
 have HM := Lib.hid hm
 clear hm
 go_enter Tryz.func162, Tryz.ntmps162
 go_wp2_with fail
 go_loopw [8] (fun i wr => ∃ (c : Nat), c ≤ m ∧ i = .int .i64 c ∧ Hid (∀ i l, i < c → L[i]? = some l → ¬ P l) ∧ Below w.heap.size w wr) (fun i _ => m - (intOf i).toNat)
 case atStart => exact ⟨0, by omega, rfl, Lib.hid (fun i l hi => absurd hi (by omega)), bel⟩
 case round =>
  obtain ⟨c, hc, rfl, hall, hB⟩ := hrel
  obtain ⟨wo, rfl⟩ : ∃ wo : World, wo = wr := ⟨_, rfl⟩
  have y5 := hB.size; (try simp only [zs] at y5)
  by_cases hlt : c < m
  ·obtain ⟨l, he⟩ : ∃ l, L[c]? = some l := ⟨_, List.getElem?_eq_getElem (by rw [HM.out]; exact hlt)⟩
   have hR := H.out.keep (.of_below hB)
   rw [HM.out] at hR
   obtain ⟨a, D, d, rfl, hab, hcell, hnum, l3, l4⟩ := hR.at he
   have HE := Lib.hid he
   have HNUM := Lib.hid hnum
   have k0 : (0 : Int) ≤ (c : Int) := by omega
   have k1 : (c : Int) < (m : Int) := by omega
   clear he hR hnum
   go_wp2_with fail
   refine (HF.out _ D d l hB HNUM.out (List.mem_of_getElem? HE.out)).mono ?_
   rintro e w2 ⟨⟨b, rfl, hb⟩, hb2⟩
   have y2 := hb2.size; (try simp only [zs] at y2)
   cases b
   ·have HGD : Hid (¬ P l) := fun h => by have := hb.out.2 h; cases this
    clear hb
    go_wp2_with fail
    go_roundw
    case rel =>
     refine ⟨c + 1, by omega, by go_num, Lib.hid (fun i l' hi hl' => ?_), bel⟩
     by_cases hic : i < c
     ·exact hall.out i l' hic hl'
     ·obtain rfl : i = c := by omega
      rw [HE.out] at hl'
      injection hl' with hl'
      subst hl'
      exact HGD.out
    case measure => simp only [intOf]; omega
   ·have HGD : Hid (P l) := hb.out.1 rfl
    clear hb
    go_wp2_with fail
    go_ret
    exact ⟨_, rfl, .inl ⟨by omega, l, List.mem_of_getElem? HE.out, HGD.out⟩, bel⟩
  ·obtain rfl : c = m := by omega
   have HALL : Hid (∀ l ∈ L, ¬ P l) := fun l hl => by
    obtain ⟨i, hi, rfl⟩ := List.mem_iff_getElem.1 hl
    exact hall.out i _ (by rw [← HM.out]; exact hi) (List.getElem?_eq_getElem hi)
   go_wp2_with fail
   go_ret
   exact ⟨_, rfl, .inr ⟨by decide, HALL.out⟩, hB⟩
set_option maxRecDepth 100000 in
set_option maxHeartbeats 4000000 in
theorem containsI_any (w : World) (F : Nat) (caps : Array Value) (P : List Int → Prop) (v : Value) (L : List (List Int)) (h : IMat w v L) (hen : Enters F) (hF : TellsI w F caps P L) :
 Calls Tryz.prog 60 #[v, .func (Fn.func F) #[] caps] w fun e w' => Tells (∃ l ∈ L, P l) e ∧ Below w.heap.size w w' := by
 have H := Lib.hid h
 have HF := Lib.hid hF
 obtain ⟨A, cap, rfl, h, l1, l2⟩ := h.op
 clear h hF
 go_enter Tryz.func60, Tryz.ntmps60
 go_wp2_with fail
 refine (indexI_any _ F caps P _ L H.out hen HF.out).mono ?_
 rintro e w1 ⟨r, rfl, hr, hb1⟩
 have y1 := hb1.size; (try simp only [zs] at y1)
 have HR := Lib.hid hr
 clear hr
 by_cases h0 : 0 ≤ r
 ·have HV : Hid (∃ l ∈ L, P l) := by
   rcases HR.out with ⟨_, h⟩ | ⟨h, _⟩
   ·exact h
   ·omega
  go_wp2_with fail
  go_ret
  exact ⟨Tells.yes HV.out, bel⟩
 ·have HV : Hid (¬ ∃ l ∈ L, P l) := by
   rcases HR.out with ⟨h, _⟩ | ⟨_, h⟩
   ·omega
   ·exact fun ⟨l, hl, hp⟩ => h l hl hp
  have hd : decide (0 ≤ r) = false := decide_eq_false h0
  go_wp2_with fail
  go_ret
  exact ⟨by first | exact Tells.no HV.out | (simp only [hd]; exact Tells.no HV.out), bel⟩

/- slices.ContainsFunc at gain functions. -/

set_option maxRecDepth 100000 in
set_option maxHeartbeats 4000000 in
theorem indexG_any (w : World) (F : Nat) (caps : Array Value) (P : List Int → Prop) (v : Value) (L : List (List Int)) (h : IMat w v L) (hen : Enters F) (hF : TellsI w F caps P L) :
 Calls Tryz.prog 142 #[v, .func (Fn.func F) #[] caps] w fun e w' => ∃ r : Int, e = .returned (.int .i64 r) ∧ ((0 ≤ r ∧ ∃ l ∈ L, P l) ∨ (r < 0 ∧ ∀ l ∈ L, ¬ P l)) ∧ Below w.heap.size w w' := by
 have H := Lib.hid h
 have HF := Lib.hid hF
 have hen2 : ∀ (args : Array Value) (W : World), (callFunc F args).run Tryz.prog W = .ok (.enter F args) W := hen
 obtain ⟨A, cap, rfl, h, l1, l2⟩ := h.op
 have lm : L.length ≤ 9223372036854775807 := by unfold maxLen at l2; omega
 clear h hF
 obtain ⟨m, hm⟩ : ∃ m, L.length = m := ⟨_, rfl⟩
 rw [hm] at l1 lm
 rw [hm]
 have HM := Lib.hid hm
 clear hm
 go_enter Tryz.func142, Tryz.ntmps142
 go_wp2_with fail
 go_loopw [8] (fun i wr => ∃ (c : Nat), c ≤ m ∧ i = .int .i64 c ∧ Hid (∀ i l, i < c → L[i]? = some l → ¬ P l) ∧ Below w.heap.size w wr) (fun i _ => m - (intOf i).toNat)
 case atStart => exact ⟨0, by omega, rfl, Lib.hid (fun i l hi => absurd hi (by omega)), bel⟩
 case round =>
  obtain ⟨c, hc, rfl, hall, hB⟩ := hrel
  obtain ⟨wo, rfl⟩ : ∃ wo : World, wo = wr := ⟨_, rfl⟩
  have y5 := hB.size; (try simp only [zs] at y5)
  by_cases hlt : c < m
  ·obtain ⟨l, he⟩ : ∃ l, L[c]? = some l := ⟨_, List.getElem?_eq_getElem (by rw [HM.out]; exact hlt)⟩
   have hR := H.out.keep (.of_below hB)
   rw [HM.out] at hR
   obtain ⟨a, D, d, rfl, hab, hcell, hnum, l3, l4⟩ := hR.at he
   have HE := Lib.hid he
   have HNUM := Lib.hid hnum
   have k0 : (0 : Int) ≤ (c : Int) := by omega
   have k1 : (c : Int) < (m : Int) := by omega
   clear he hR hnum
   go_wp2_with fail
   refine (HF.out _ D d l hB HNUM.out (List.mem_of_getElem? HE.out)).mono ?_
   rintro e w2 ⟨⟨b, rfl, hb⟩, hb2⟩
   have y2 := hb2.size; (try simp only [zs] at y2)
   cases b
   ·have HGD : Hid (¬ P l) := fun h => by have := hb.out.2 h; cases this
    clear hb
    go_wp2_with fail
    go_roundw
    case rel =>
     refine ⟨c + 1, by omega, by go_num, Lib.hid (fun i l' hi hl' => ?_), bel⟩
     by_cases hic : i < c
     ·exact hall.out i l' hic hl'
     ·obtain rfl : i = c := by omega
      rw [HE.out] at hl'
      injection hl' with hl'
      subst hl'
      exact HGD.out
    case measure => simp only [intOf]; omega
   ·have HGD : Hid (P l) := hb.out.1 rfl
    clear hb
    go_wp2_with fail
    go_ret
    exact ⟨_, rfl, .inl ⟨by omega, l, List.mem_of_getElem? HE.out, HGD.out⟩, bel⟩
  ·obtain rfl : c = m := by omega
   have HALL : Hid (∀ l ∈ L, ¬ P l) := fun l hl => by
    obtain ⟨i, hi, rfl⟩ := List.mem_iff_getElem.1 hl
    exact hall.out i _ (by rw [← HM.out]; exact hi) (List.getElem?_eq_getElem hi)
   go_wp2_with fail
   go_ret
   exact ⟨_, rfl, .inr ⟨by decide, HALL.out⟩, hB⟩
set_option maxRecDepth 100000 in
set_option maxHeartbeats 4000000 in
theorem containsG_any (w : World) (F : Nat) (caps : Array Value) (P : List Int → Prop) (v : Value) (L : List (List Int)) (h : IMat w v L) (hen : Enters F) (hF : TellsI w F caps P L) :
 Calls Tryz.prog 51 #[v, .func (Fn.func F) #[] caps] w fun e w' => Tells (∃ l ∈ L, P l) e ∧ Below w.heap.size w w' := by
 have H := Lib.hid h
 have HF := Lib.hid hF
 obtain ⟨A, cap, rfl, h, l1, l2⟩ := h.op
 clear h hF
 go_enter Tryz.func51, Tryz.ntmps51
 go_wp2_with fail
 refine (indexG_any _ F caps P _ L H.out hen HF.out).mono ?_
 rintro e w1 ⟨r, rfl, hr, hb1⟩
 have y1 := hb1.size; (try simp only [zs] at y1)
 have HR := Lib.hid hr
 clear hr
 by_cases h0 : 0 ≤ r
 ·have HV : Hid (∃ l ∈ L, P l) := by
   rcases HR.out with ⟨_, h⟩ | ⟨h, _⟩
   ·exact h
   ·omega
  go_wp2_with fail
  go_ret
  exact ⟨Tells.yes HV.out, bel⟩
 ·have HV : Hid (¬ ∃ l ∈ L, P l) := by
   rcases HR.out with ⟨h, _⟩ | ⟨_, h⟩
   ·omega
   ·exact fun ⟨l, hl, hp⟩ => h l hl hp
  have hd : decide (0 ≤ r) = false := decide_eq_false h0
  go_wp2_with fail
  go_ret
  exact ⟨by first | exact Tells.no HV.out | (simp only [hd]; exact Tells.no HV.out), bel⟩
end Go.Proofs.YtbdcjhoedhhabaaGreat

