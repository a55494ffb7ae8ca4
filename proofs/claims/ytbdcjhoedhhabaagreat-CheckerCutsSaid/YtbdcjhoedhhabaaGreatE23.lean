/- Contracts of the functions that the statements reach, part 23. -/
import Derived.Test.YtbdcjhoedhhabaaGreatRows
import Derived.ProofKit
import Derived.OpenShut
import Derived.ShutString
import Derived.ChangeOld
import Derived.Lib.SmallJoins
import Derived.Deep.CutBlock
import Derived.Test.YtbdcjhoedhhabaaGreatE20
import Derived.Test.YtbdcjhoedhhabaaGreatE21
import Derived.Test.YtbdcjhoedhhabaaGreatE22
set_option linter.unusedSimpArgs false
set_option linter.unusedVariables false

/- A block that holds no words, and that is no list's own, is no part of a list of fractions. -/
namespace Go.Proofs.YtbdcjhoedhhabaaGreat
open Go.RowKit

/-- No word of 32 bits. -/
def noW (u : Value) : Prop := ∀ z : Int, u ≠ .int .u32 z
/-- The list's own block, if it has one, is at or above B. -/
def Fr (B : Nat) (v : Value) : Prop := ∀ (a : Addr) (n c : Nat), v = .slice (some a) n c → B ≤ a.block

section
variable {w : World} {X : Nat → Prop} {g k n B : Nat} {t : TypeId} {cs : Array Value} {v : Value} {q : Rat} {f : Nat → Rat} {xs : List Nat} {neg : Bool}
theorem Loc.mem (L : Loc w g t cs) {a : Addr} {u : Value} (h : w.cell? a = some u) (ha : a.block = g) : u ∈ cs := by
 unfold World.cell? at h
 rw [ha, L] at h
 dsimp only at h
 split at h
 ·cases h
 ·exact Array.mem_of_getElem? h
theorem Words.off (h : Words w X v xs) (L : Loc w g t cs) (hc : ∀ u ∈ cs, noW u) : Words w (fun b => X b ∨ b = g) v xs := by
 obtain ⟨⟨A, c, hv, h1, h2, h3, h4⟩, h5⟩ := h
 refine ⟨⟨A, c, hv, h1, h2, h3, fun hn => ?_⟩, h5⟩
 obtain ⟨a, hA, hlt, hx, hcell⟩ := h4 hn
 refine ⟨a, hA, hlt, fun hy => ?_, hcell⟩
 rcases hy with hy | hy
 ·exact hx hy
 ·have h0 := hcell 0 _ (nums_get (k := .u32) (xs := xs) (i := 0) hn)
  have := L.mem h0 (by rw [addr_block]; exact hy)
  exact hc _ this _ rfl
theorem IntR.off (h : IntR w X v neg xs) (L : Loc w g t cs) (hc : ∀ u ∈ cs, noW u) : IntR w (fun b => X b ∨ b = g) v neg xs := by
 obtain ⟨a, b, h⟩ := h
 exact ⟨a, b, h.off L hc⟩
theorem RatL.off (h : RatL k w X v q) (L : Loc w g t cs) (hc : ∀ u ∈ cs, noW u) : RatL k w (fun b => X b ∨ b = g) v q := by
 obtain ⟨n1, xs, n2, ys, ⟨A, c, B, d, e, h1, h2⟩, h3⟩ := h
 exact ⟨n1, xs, n2, ys, ⟨A, c, B, d, e, h1.off L hc, h2.off L hc⟩, h3⟩
theorem Nums.off (h : Nums k w X v n f) (L : Loc w g t cs) (hc : ∀ u ∈ cs, noW u) (hf : Fr B v) (hg : g < B) : Nums k w (fun b => X b ∨ b = g) v n f := by
 obtain ⟨rs, A, cap, h1, h2, h3, h4, h5, h6⟩ := h
 refine ⟨rs, A, cap, h1, h2, h3, h4, fun hn => ?_, fun i r hr => (h6 i r hr).off L hc⟩
 obtain ⟨a, ea, hb, hX, hcell⟩ := h5 hn
 refine ⟨a, ea, hb, fun hy => ?_, hcell⟩
 rcases hy with hy | hy
 ·exact hX hy
 ·have := hf a n cap (by rw [h2, ea])
  omega
theorem Fr.nil (B : Nat) : Fr B (.slice none 0 0) := fun a n c h => by cases h
theorem Fr.own {g c : Nat} {A : Option Nat} (h : B ≤ g) : Fr B (.slice (some ⟨g, 0, A⟩) n c) := fun a n' c' e => by injection e with e; injection e with e; rw [← e]; exact h
theorem Fr.mono {B' : Nat} (h : Fr B v) (hB : B' ≤ B) : Fr B' v := fun a n c e => Nat.le_trans hB (h a n c e)
/-- Behind a store into a block that is none of its own. -/
theorem Nums.past {w' : World} (h : Nums k w (fun _ => False) v n f) (L : Loc w g t cs) (hc : ∀ u ∈ cs, noW u) (hf : Fr B v) (hg : g < B) (hk : Keep (fun b => b = g) w w') : Nums k w' (fun _ => False) v n f :=
 ((h.off L hc hf hg).keep (hk.weak (fun b _ hb => .inr hb))).weak (fun _ _ h => h.elim)
theorem RatL.past {w' : World} (h : RatL k w (fun _ => False) v q) (L : Loc w g t cs) (hc : ∀ u ∈ cs, noW u) (hk : Keep (fun b => b = g) w w') : RatL k w' (fun _ => False) v q :=
 ((h.off L hc).keep (hk.weak (fun b _ hb => .inr hb))).weak (fun _ _ h => h.elim)
end

/- Lists of lists that grow; blocks of different types; facts whose kept-out blocks are told anew (as in Nl9, Nl11, which serve layer 8). -/

/-- A list of lists that lies in a block of its own, at or above base. -/
def OwnL (w : World) (base : Nat) (v : Value) (us : List Value) : Prop := w.ownsRow base 71 1 v us.length us
def isL (u : Value) : Prop := ∃ B p c, u = .slice B p c
theorem isL.one {u : Value} (h : isL u) : u.oneCell' = true := by
 obtain ⟨B, p, c, rfl⟩ := h; rfl
theorem OwnL.below {w w' : World} {base : Nat} {v : Value} {us : List Value} (h : OwnL w base v us) (hb : Below w.heap.size w w') : OwnL w' base v us := by
 refine ⟨h.1, ?_⟩
 rcases h.2 with ⟨h', hn⟩ | ⟨g', cap', cur, h', h3, hg', h1, h2, hsz, htake⟩
 ·exact .inl ⟨h', hn⟩
 ·exact .inr ⟨g', cap', cur, h', h3, by rw [hb.block g' (Array.getElem?_eq_some_iff.1 hg').1]; exact hg', h1, h2, hsz, htake⟩
section
variable {W W1 : World} {h base base2 sz sz2 n n2 k B : Nat} {t e e2 : TypeId} {cs : Array Value} {v v2 : Value} {xs xs2 : List Value} {rs : List R4} {f : Nat → Rat}
theorem loc_other (hown : W.ownsRow base e sz v n xs) (hg : W.grownBy W1 v.ownBlock) (L : Loc W h t cs) (hne : t ≠ e) : Loc W1 h t cs := by
 refine (hg.block h L.lt (fun eq => ?_)).trans L
 rcases hown.2 with ⟨rfl, _⟩ | ⟨g, cap, cur, rfl, _, hgg, _⟩
 ·cases eq
 ·injection eq with eq
  simp at eq
  subst eq
  unfold Loc at L
  rw [hgg] at L
  injection L with L
  injection L with e1 e2 e3
  exact hne e2.symm
end

section
variable {k n : Nat} {W W2 : World} {X Y : Nat → Prop} {v : Value} {q : Rat} {f : Nat → Rat} {rs : List R4}
theorem Keep.both (h : Keep X W W2) : Keep (fun b => X b ∨ Y b) W W2 := h.weak (fun _ _ h => .inl h)
theorem OwnL.keep {base : Nat} {us : List Value} (h : OwnL W base v us) (hb : Keep X W W2) (hX : ∀ g, v.ownBlock = some g → ¬ X g) : OwnL W2 base v us := by
 refine ⟨h.1, ?_⟩
 rcases h.2 with ⟨h', hn⟩ | ⟨g', cap', cur, h', h3, hg', h1, h2, hsz, htake⟩
 ·exact .inl ⟨h', hn⟩
 ·exact .inr ⟨g', cap', cur, h', h3, by rw [hb.block g' (Array.getElem?_eq_some_iff.1 hg').1 (hX g' (by rw [h']; rfl))]; exact hg', h1, h2, hsz, htake⟩
theorem OwnL.ne {base g : Nat} {us : List Value} {t : TypeId} {cs : Array Value} (h : OwnL W base v us) (L : Loc W g t cs) (ht : t ≠ 71) : v.ownBlock ≠ some g := fun e => by
 rcases h.2 with ⟨h', _⟩ | ⟨g', cap', cur, h', _, hg', _⟩
 ·rw [h'] at e; cases e
 ·rw [h'] at e
  injection e with e
  simp at e
  subst e
  unfold Loc at L
  rw [hg'] at L
  injection L with L
  injection L with e1 e2
  exact ht e2.symm
theorem OwnR.ne {base g : Nat} {t : TypeId} {cs : Array Value} (h : OwnR W base v rs) (L : Loc W g t cs) (ht : t ≠ 213) : v.ownBlock ≠ some g := fun e => by
 rcases h.2 with ⟨h', _⟩ | ⟨g', cap', cur, h', _, hg', _⟩
 ·rw [h'] at e; cases e
 ·rw [h'] at e
  injection e with e
  simp at e
  subst e
  unfold Loc at L
  rw [hg'] at L
  injection L with L
  injection L with e1 e2
  exact ht e2.symm
end
end Go.Proofs.YtbdcjhoedhhabaaGreat

/- Arguments opened: an api.Int, out of the form's reading. -/
namespace Go.Proofs.YtbdcjhoedhhabaaGreat
open Go.ChangeShapes Go.WideShapes Go.ChangeAt Go.RowKit Go.Joins
open Go.ChangeMaps (open_string shut_string)

theorem own : ownKnob Tryz.prog.godebug = none := by kernel_rfl
theorem laidOut : laidOutB Tryz.prog = true := by kernel_rfl

/- Arguments opened: an api.Rat, an api.Frac, out of the form's reading. -/

end Go.Proofs.YtbdcjhoedhhabaaGreat

/- Arguments opened: a list of fractions. -/
namespace Go.Proofs.YtbdcjhoedhhabaaGreat
open Go.ChangeShapes Go.WideShapes Go.ChangeAt Go.RowKit Go.Joins

theorem list_of {α : Type} (P : Nat → α → Prop) : ∀ n, (∀ i, i < n → ∃ e, P i e) → ∃ l : List α, l.length = n ∧ ∀ i e, l[i]? = some e → P i e
 | 0, _ => ⟨[], rfl, fun i e h => by simp at h⟩
 | n + 1, h => by
   obtain ⟨l, hl, hp⟩ := list_of P n (fun i hi => h i (by omega))
   obtain ⟨e, he⟩ := h n (by omega)
   refine ⟨l ++ [e], by simp [hl], fun i x hx => ?_⟩
   by_cases hi : i < n
   ·rw [List.getElem?_append_left (by omega)] at hx
    exact hp i x hx
   ·have hlt := (List.getElem?_eq_some_iff.1 hx).1
    simp at hlt
    obtain rfl : i = n := by omega
    rw [List.getElem?_append_right (by omega), hl] at hx
    simp at hx
    subst hx
    exact he

/-- A raw fraction's fields: signs and words. -/
structure RF where
 n1 : Bool
 xs : List Nat
 n2 : Bool
 ys : List Nat
/-- The element at an address: its four cells, and the fraction. -/
def RatAt (w : World) (X : Nat → Prop) (a : Addr) (e : RF) : Prop :=
 ∃ C c D d, w.cell? a = some (.bool e.n1) ∧ w.cell? (a.add 1) = some (.slice C e.xs.length c) ∧ w.cell? (a.add 2) = some (.bool e.n2) ∧ w.cell? (a.add 3) = some (.slice D e.ys.length d) ∧
   RatR w X (.agg #[.bool e.n1, .slice C e.xs.length c, .bool e.n2, .slice D e.ys.length d]) e.n1 e.xs e.n2 e.ys
/-- A list of raw fractions. -/
def Rats (w : World) (X : Nat → Prop) (v : Value) (l : List RF) : Prop :=
 ∃ A cap, v = .slice A l.length cap ∧ l.length ≤ cap ∧ cap ≤ maxLen ∧ (l.length ≠ 0 → ∃ a, A = some a ∧ a.block < w.heap.size ∧ ∀ i e, l[i]? = some e → RatAt w X (a.add (i * 4)) e)

end Go.Proofs.YtbdcjhoedhhabaaGreat

/- Sign, Neg, Floor of rational. -/
namespace Go.Proofs.YtbdcjhoedhhabaaGreat
open Go.RowKit
attribute [local go_sem ↓] Go.wp_at_zero Go.wp_at_succ

/- Add, Mul, Divide, Compare of rational; printed by gen_rat5.py. -/

/- Add of rational; printed by gen_rat5.py. -/

/- Divide of the reference. -/

/- rational.Sub; of the reference: isZero, zero, New, Clean, Of, Sign. -/

theorem field_words (w : World) (b : Bool) (A : Option Addr) (n c : Nat) : (Instr.field 211 (.agg #[.bool b, .slice A n c]) 1).run Tryz.prog w = .ok (.slice A n c) w := by kernel_rfl
attribute [local go_sem] field_words
end Go.Proofs.YtbdcjhoedhhabaaGreat

/- whole, zero, negative, dot. -/
namespace Go.Proofs.YtbdcjhoedhhabaaGreat
open Go.RowKit
attribute [local go_sem ↓] Go.wp_at_zero Go.wp_at_succ

/- slices.ContainsFunc at the two predicates: a row of another length, a number below zero. -/

/- Valid. -/

/-- The sizes of a system are right. -/
def VS (m mb : Nat) (N : Nat → Nat) : Prop := 1 ≤ m ∧ m ≤ 80 ∧ mb = m ∧ 1 ≤ N 0 ∧ N 0 ≤ 80 ∧ ∀ i, i < m → N i = N 0

/-- The answer is a bool that tells whether P. -/
def Tells (P : Prop) (e : Ending) : Prop := ∃ b : Bool, e = .returned (.bool b) ∧ Hid (b = true ↔ P)
theorem Tells.yes {P : Prop} (h : P) : Tells P (.returned (.bool true)) := ⟨true, rfl, fun _ => h, fun _ => rfl⟩
theorem Tells.no {P : Prop} (h : ¬ P) : Tells P (.returned (.bool false)) := ⟨false, rfl, fun h => (by cases h), fun h' => absurd h' h⟩

/- column. -/

/- solves, CheckPoint. -/

/-- The numbers f are a point. -/
def SV (m n nx : Nat) (F : Nat → Nat → Rat) (f bv : Nat → Rat) : Prop := nx = n ∧ (∀ j, j < nx → ¬ f j < 0) ∧ ∀ i, i < m → sm n (fun j => F i j * f j) = bv i

/- CheckPoint, CheckFarkas, CheckResult of the program. -/

/-- A system that is read. -/
def Sys (k : Nat) (w : World) (v : Value) (m mb : Nat) (N : Nat → Nat) (F : Nat → Nat → Rat) (Bv : Nat → Rat) : Prop :=
 ∃ A c B d, v = .agg #[.slice A m c, .slice B mb d] ∧ Mat k w (fun _ => False) (.slice A m c) m N F ∧ Nums k w (fun _ => False) (.slice B mb d) mb Bv
theorem Sys.keep {k : Nat} {w w' : World} {v : Value} {m mb : Nat} {N : Nat → Nat} {F : Nat → Nat → Rat} {Bv : Nat → Rat} (h : Sys k w v m mb N F Bv) (hk : Keep (fun _ => False) w w') : Sys k w' v m mb N F Bv := by
 obtain ⟨A, c, B, d, rfl, h1, h2⟩ := h
 exact ⟨A, c, B, d, rfl, h1.keep hk, h2.keep hk⟩
/-- A point of a system. -/
def PT (m mb : Nat) (N : Nat → Nat) (F : Nat → Nat → Rat) (Bv : Nat → Rat) (nx : Nat) (f : Nat → Rat) : Prop := VS m mb N ∧ SV m (N 0) nx F f Bv
/-- A Farkas vector of a system. -/
def FK (m mb : Nat) (N : Nat → Nat) (F : Nat → Nat → Rat) (Bv : Nat → Rat) (ny : Nat) (y : Nat → Rat) : Prop := VS m mb N ∧ ny = m ∧ sm m (fun i => y i * Bv i) < 0 ∧ ∀ j, j < N 0 → ¬ sm m (fun i => y i * F i j) < 0

section
variable {m mb nx ny k : Nat} {N : Nat → Nat} {F : Nat → Nat → Rat} {f y Bv : Nat → Rat}

end

/- CheckResult and CheckOptimum of the program. -/

/-- An optimum that proves itself: the three kinds. -/
def OP0 (m mb : Nat) (N : Nat → Nat) (F : Nat → Nat → Rat) (Bv : Nat → Rat) (nx ny : Nat) (y : Nat → Rat) (nr : Nat) (val : Rat) : Prop := FK m mb N F Bv ny y ∧ nx = 0 ∧ nr = 0 ∧ val = 0
def OP1 (m mb : Nat) (N : Nat → Nat) (F : Nat → Nat → Rat) (Bv kc : Nat → Rat) (nx : Nat) (f : Nat → Rat) (ny nr : Nat) (r : Nat → Rat) (val : Rat) : Prop :=
 PT m mb N F Bv nx f ∧ SV m (N 0) nr F r (fun _ => 0) ∧ sm (N 0) (fun j => kc j * r j) < 0 ∧ ny = 0 ∧ val = 0
def OP2 (m mb : Nat) (N : Nat → Nat) (F : Nat → Nat → Rat) (Bv kc : Nat → Rat) (nx : Nat) (f : Nat → Rat) (ny : Nat) (y : Nat → Rat) (nr : Nat) (val : Rat) : Prop :=
 PT m mb N F Bv nx f ∧ (ny = m ∧ ∀ j, j < N 0 → ¬ kc j < sm m (fun i => y i * F i j)) ∧ nr = 0 ∧ sm (N 0) (fun j => kc j * f j) = val ∧ sm m (fun i => y i * Bv i) = val
def OP (kind : Int) (m mb : Nat) (N : Nat → Nat) (F : Nat → Nat → Rat) (Bv : Nat → Rat) (nc : Nat) (kc : Nat → Rat) (nx : Nat) (f : Nat → Rat) (ny : Nat) (y : Nat → Rat) (nr : Nat) (r : Nat → Rat) (val : Rat) : Prop :=
 VS m mb N ∧ nc = N 0 ∧ ((kind = 0 ∧ OP0 m mb N F Bv nx ny y nr val) ∨ (kind = 1 ∧ OP1 m mb N F Bv kc nx f ny nr r val) ∨ (kind = 2 ∧ OP2 m mb N F Bv kc nx f ny y nr val))

section
variable {m mb nx ny nr nc k : Nat} {N : Nat → Nat} {F : Nat → Nat → Rat} {f y r Bv kc : Nat → Rat} {val : Rat}

end
end Go.Proofs.YtbdcjhoedhhabaaGreat

/- The plain laws of linear systems: certificates exclude each other, the kinds and values of optima are one. -/
namespace Go.Proofs.YtbdcjhoedhhabaaGreat

section
variable {m n : Nat} {F : Nat → Nat → Rat} {f y Bv kc : Nat → Rat}
/-- A vector times the equations. -/
theorem times_rows (y f : Nat → Rat) (h : ∀ i, i < m → sm n (fun j => F i j * f j) = Bv i) : sm m (fun i => y i * Bv i) = sm n (fun j => f j * sm m (fun i => y i * F i j)) := by
 rw [sm_congr (g := fun i => sm n (fun j => f j * (y i * F i j))) (fun i hi => by
  rw [← h i hi, ← sm_mul]
  exact sm_congr (fun j _ => by grind)), sm_swap]
 exact sm_congr (fun j _ => by rw [sm_mul])
theorem sm_mono {f g : Nat → Rat} {m : Nat} (h : ∀ i, i < m → f i ≤ g i) : sm m f ≤ sm m g := by
 have h1 : 0 ≤ sm m (fun i => g i - f i) := sm_nonneg (fun i hi => by have := h i hi; grind)
 rw [sm_sub] at h1
 grind
/-- Weak duality. -/
theorem weak (hf : ∀ j, j < n → ¬ f j < 0) (h : ∀ i, i < m → sm n (fun j => F i j * f j) = Bv i) (hy : ∀ j, j < n → ¬ kc j < sm m (fun i => y i * F i j)) : sm m (fun i => y i * Bv i) ≤ sm n (fun j => kc j * f j) := by
 rw [times_rows y f h]
 refine sm_mono (fun j hj => ?_)
 have h1 := hf j hj
 have h2 := hy j hj
 rw [Rat.mul_comm (kc j)]
 exact Rat.mul_le_mul_of_nonneg_left (by grind) (by grind)
end

section
variable {m nx ny nr nc nx' ny' nr' : Nat} {N N' : Nat → Nat} {F F' : Nat → Nat → Rat} {f y r Bv Bv' kc f' y' r' : Nat → Rat} {val val' : Rat} {k k' : Int}
/-- No system has both a point and a Farkas vector. -/
theorem not_both (hp : PT m m N F Bv nx f) (hk : FK m m N F Bv ny y) : False := by
 obtain ⟨-, e, hf, hs⟩ := hp
 obtain ⟨-, -, hn, hy⟩ := hk
 rw [e] at hf
 have h := weak (kc := fun _ => 0) (y := fun i => -y i) hf hs (fun j hj => by
  have := hy j hj
  rw [sm_congr (g := fun i => -(y i * F i j)) (fun i _ => by grind), sm_neg]; grind)
 rw [sm_congr (f := fun i => -y i * Bv i) (g := fun i => -(y i * Bv i)) (fun i _ => by grind), sm_neg, sm_zero (f := fun j => 0 * f j) (fun j _ => by grind)] at h
 grind
theorem no_ray (hr : SV m (N 0) nr F r (fun _ => 0)) (hc : sm (N 0) (fun j => kc j * r j) < 0) (hy : ∀ j, j < N 0 → ¬ kc j < sm m (fun i => y i * F i j)) : False := by
 obtain ⟨e, hf, hs⟩ := hr
 rw [e] at hf
 have h := weak hf hs hy
 rw [sm_zero (f := fun i => y i * 0) (fun i _ => by grind)] at h
 grind
theorem val_le (hp : PT m m N F Bv nx f) (hy : ∀ j, j < N 0 → ¬ kc j < sm m (fun i => y i * F i j)) : sm m (fun i => y i * Bv i) ≤ sm (N 0) (fun j => kc j * f j) := by
 obtain ⟨-, e, hf, hs⟩ := hp
 rw [e] at hf
 exact weak hf hs hy
/-- The kind and the value of an optimum are one. -/
theorem OP.uniq (h : OP k m m N F Bv nc kc nx f ny y nr r val) (h' : OP k' m m N F Bv nc kc nx' f' ny' y' nr' r' val') : k = k' ∧ val = val' := by
 obtain ⟨-, -, h⟩ := h
 obtain ⟨-, -, h'⟩ := h'
 rcases h with ⟨rfl, h⟩ | ⟨rfl, h⟩ | ⟨rfl, h⟩ <;> rcases h' with ⟨rfl, h'⟩ | ⟨rfl, h'⟩ | ⟨rfl, h'⟩
 ·exact ⟨rfl, by rw [h.2.2.2, h'.2.2.2]⟩
 ·exact (not_both h'.1 h.1).elim
 ·exact (not_both h'.1 h.1).elim
 ·exact (not_both h.1 h'.1).elim
 ·exact ⟨rfl, by rw [h.2.2.2.2, h'.2.2.2.2]⟩
 ·exact (no_ray h.2.1 h.2.2.1 h'.2.1.2).elim
 ·exact (not_both h.1 h'.1).elim
 ·exact (no_ray h'.2.1 h'.2.2.1 h.2.1.2).elim
 ·refine ⟨rfl, ?_⟩
  have h1 := val_le h.1 h'.2.1.2
  have h2 := val_le h'.1 h.2.1.2
  rw [h'.2.2.2.2, h.2.2.2.1] at h1
  rw [h.2.2.2.2, h'.2.2.2.1] at h2
  grind

/-- One equation more. -/
structure Ext (m : Nat) (N N' : Nat → Nat) (F F' : Nat → Nat → Rat) (Bv Bv' : Nat → Rat) : Prop where
 vs : VS (m + 1) (m + 1) N'
 n0 : N' 0 = N 0
 row : ∀ i, i < m → ∀ j, j < N 0 → F' i j = F i j
 rhs : ∀ i, i < m → Bv' i = Bv i
def ex (m : Nat) (y : Nat → Rat) : Nat → Rat := fun i => if i < m then y i else 0
theorem ex_sum (y g : Nat → Rat) : sm (m + 1) (fun i => ex m y i * g i) = sm m (fun i => y i * g i) := by
 rw [sm_succ, sm_congr (g := fun i => y i * g i) (fun i hi => by unfold ex; rw [if_pos hi])]
 unfold ex
 rw [if_neg (by omega)]; grind
theorem Ext.fk (e : Ext m N N' F F' Bv Bv') (h : FK m m N F Bv ny y) : FK (m + 1) (m + 1) N' F' Bv' (m + 1) (ex m y) := by
 refine ⟨e.vs, rfl, ?_, fun j hj => ?_⟩
 ·rw [ex_sum, sm_congr (g := fun i => y i * Bv i) (fun i hi => by rw [e.rhs i hi])]; exact h.2.2.1
 ·rw [e.n0] at hj
  rw [ex_sum, sm_congr (g := fun i => y i * F i j) (fun i hi => by rw [e.row i hi j hj])]; exact h.2.2.2 j hj
theorem Ext.du (e : Ext m N N' F F' Bv Bv') (hy : ∀ j, j < N 0 → ¬ kc j < sm m (fun i => y i * F i j)) : ∀ j, j < N' 0 → ¬ kc j < sm (m + 1) (fun i => ex m y i * F' i j) := fun j hj => by
 rw [e.n0] at hj
 rw [ex_sum, sm_congr (g := fun i => y i * F i j) (fun i hi => by rw [e.row i hi j hj])]; exact hy j hj
/-- A solution of the system with the equation more. -/
theorem Ext.sv (e : Ext m N N' F F' Bv Bv') {b b' : Nat → Rat} (hb : ∀ i, i < m → b' i = b i) (h : SV (m + 1) (N' 0) nx F' f b') : SV m (N 0) nx F f b := by
 obtain ⟨h1, h2, h3⟩ := h
 rw [e.n0] at h1 h3
 refine ⟨h1, h2, fun i hi => ?_⟩
 rw [← hb i hi, ← h3 i (by omega)]
 exact sm_congr (fun j hj => by rw [e.row i hi j hj])
theorem Ext.sv' (e : Ext m N N' F F' Bv Bv') {b b' : Nat → Rat} (hb : ∀ i, i < m → b' i = b i) (h : SV m (N 0) nx F f b) (hl : sm (N 0) (fun j => F' m j * f j) = b' m) : SV (m + 1) (N' 0) nx F' f b' := by
 obtain ⟨h1, h2, h3⟩ := h
 refine ⟨by rw [e.n0]; exact h1, h2, fun i hi => ?_⟩
 rw [e.n0]
 by_cases him : i < m
 ·rw [hb i him, ← h3 i him]
  exact sm_congr (fun j hj => by rw [e.row i him j hj])
 ·rw [show i = m by omega]; exact hl
/-- An equation that is a combination of two others changes nothing. -/
theorem Ext.same (e : Ext m N N' F F' Bv Bv') {a c : Nat} {t : Rat} (ha : a < m) (hc : c < m) (hrow : ∀ j, j < N 0 → F' m j = F a j + t * F c j) (hrhs : Bv' m = Bv a + t * Bv c)
 (h : OP k m m N F Bv nc kc nx f ny y nr r val) (h' : OP k' (m + 1) (m + 1) N' F' Bv' nc kc nx' f' ny' y' nr' r' val') : k = k' ∧ val = val' := by
 have comb : ∀ {g b b' : Nat → Rat} {ng : Nat}, SV m (N 0) ng F g b → b' m = b a + t * b c → sm (N 0) (fun j => F' m j * g j) = b' m := fun {g b b' ng} hs hb => by
  rw [sm_congr (g := fun j => F a j * g j + t * (F c j * g j)) (fun j hj => by rw [hrow j hj]; grind), sm_add, sm_mul, hs.2.2 a ha, hs.2.2 c hc, hb]
 have hpt : ∀ {g : Nat → Rat} {ng : Nat}, PT m m N F Bv ng g → PT (m + 1) (m + 1) N' F' Bv' ng g := fun hp => ⟨e.vs, e.sv' e.rhs hp.2 (comb hp.2 hrhs)⟩
 have h0 : ∃ ny2 y2, OP k (m + 1) (m + 1) N' F' Bv' nc kc nx f ny2 y2 nr r val := by
  obtain ⟨-, hn, h⟩ := h
  rcases h with ⟨rfl, h⟩ | ⟨rfl, h⟩ | ⟨rfl, h⟩
  ·exact ⟨_, _, e.vs, by rw [e.n0]; exact hn, .inl ⟨rfl, e.fk h.1, h.2⟩⟩
  ·refine ⟨ny, y, e.vs, by rw [e.n0]; exact hn, .inr (.inl ⟨rfl, hpt h.1, e.sv' (b' := fun _ => 0) (fun _ _ => rfl) h.2.1 (comb (b' := fun _ => 0) h.2.1 (by show (0 : Rat) = 0 + t * 0; grind)), by rw [e.n0]; exact h.2.2.1, h.2.2.2⟩)⟩
  ·refine ⟨_, ex m y, e.vs, by rw [e.n0]; exact hn, .inr (.inr ⟨rfl, hpt h.1, ⟨rfl, e.du h.2.1.2⟩, h.2.2.1, by rw [e.n0]; exact h.2.2.2.1, ?_⟩)⟩
   rw [ex_sum, sm_congr (g := fun i => y i * Bv i) (fun i hi => by rw [e.rhs i hi])]; exact h.2.2.2.2
 obtain ⟨ny2, y2, h0⟩ := h0
 exact h0.uniq h'
end

/- Refinement of channels, plainly: witnesses, gain functions, the two exclude each other, a Farkas vector gives a gain function. -/

structure Chan (m n : Nat) (C : Nat → Nat → Rat) (p : Rat) : Prop where
 m1 : 1 ≤ m
 n1 : 1 ≤ n
 non : ∀ x, x < m → ∀ y, y < n → 0 ≤ C x y
 row : ∀ x, x < m → sm n (C x) = p
 pos : 0 < p
/-- W post-processes C to D. -/
structure Wit (m n k : Nat) (C : Nat → Nat → Rat) (p : Rat) (D : Nat → Nat → Rat) (q : Rat) (W : Nat → Nat → Rat) : Prop where
 non : ∀ y, y < n → ∀ z, z < k → 0 ≤ W y z
 one : ∀ y, y < n → sm k (W y) = 1
 eq : ∀ x, x < m → ∀ z, z < k → q * sm n (fun y => C x y * W y z) = p * D x z
section
variable {m n k K : Nat} {C D W g : Nat → Nat → Rat} {p q : Rat}
theorem sm_mul_right (f : Nat → Rat) (c : Rat) : ∀ m, sm m (fun i => f i * c) = sm m f * c
 | 0 => by unfold sm; grind
 | m + 1 => by unfold sm; rw [sm_mul_right f c m]; grind
end

/- The system of a witness, plainly: its points are the witnesses, its Farkas vectors give gain functions. -/

section
variable {m n k : Nat} {C D W : Nat → Nat → Rat} {p q : Rat} {f : Nat → Rat}
/-- The product of two witnesses is a witness. -/
theorem Wit.chain {j : Nat} {E V : Nat → Nat → Rat} {r : Rat} (h : Wit m n k C p D q W) (h' : Wit m k j D q E r V) (hq : 0 < q) : Wit m n j C p E r (fun y z => sm k (fun u => W y u * V u z)) := by
 refine ⟨fun y hy z hz => sm_nonneg (fun u hu => Rat.mul_nonneg (h.non y hy u hu) (h'.non u hu z hz)), fun y hy => ?_, fun x hx z hz => ?_⟩
 ·rw [sm_swap, sm_congr (g := fun u => W y u) (fun u hu => by rw [sm_mul, h'.one u hu]; grind)]
  exact h.one y hy
 ·have e1 : sm n (fun y => C x y * sm k (fun u => W y u * V u z)) = sm k (fun u => sm n (fun y => C x y * W y u) * V u z) := by
   rw [sm_congr (g := fun y => sm k (fun u => C x y * W y u * V u z)) (fun y _ => by rw [← sm_mul]; exact sm_congr (fun u _ => by grind)), sm_swap]
   exact sm_congr (fun u _ => by rw [sm_mul_right])
  have e2 : q * sm k (fun u => sm n (fun y => C x y * W y u) * V u z) = p * sm k (fun u => D x u * V u z) := by
   rw [← sm_mul, ← sm_mul]
   refine sm_congr (fun u hu => ?_)
   have := h.eq x hx u hu
   grind
  have e3 := h'.eq x hx z hz
  rw [e1]
  have hq0 : q ≠ 0 := by grind
  have : q * (r * sm k (fun u => sm n (fun y => C x y * W y u) * V u z)) = q * (p * E x z) := by
   rw [show q * (r * sm k (fun u => sm n (fun y => C x y * W y u) * V u z)) = r * (q * sm k (fun u => sm n (fun y => C x y * W y u) * V u z)) by grind, e2]
   rw [show r * (p * sm k (fun u => D x u * V u z)) = p * (r * sm k (fun u => D x u * V u z)) by grind, e3]
   grind
  grind
/-- Every channel refines itself. -/
theorem Wit.refl (hC : Chan m n C p) : Wit m n n C p C p (fun y z => if y = z then 1 else 0) := by
 refine ⟨fun y _ z _ => by split <;> grind, fun y hy => ?_, fun x hx z hz => ?_⟩
 ·rw [sm_one _ y hy (fun z hz hne => by rw [if_neg (fun e => hne e.symm)]), if_pos rfl]
 ·rw [sm_one _ z hz (fun y hy hne => by rw [if_neg hne]; grind), if_pos rfl]; grind
end
end Go.Proofs.YtbdcjhoedhhabaaGreat

/- Lists of integers in memory; channels, plainly. -/
namespace Go.Proofs.YtbdcjhoedhhabaaGreat
open Go.RowKit

/-- A list of integers that is read. -/
def IntsV (w : World) (v : Value) (zs : List Int) : Prop :=
 ∃ A cap, v = .slice A zs.length cap ∧ zs.length ≤ cap ∧ cap ≤ maxLen ∧ (zs.length ≠ 0 → ∃ a, A = some a ∧ a.block < w.heap.size ∧ ∀ i z, zs[i]? = some z → w.cell? (a.add i) = some (.int .i64 z)) ∧ ∀ z ∈ zs, -9223372036854775808 ≤ z ∧ z ≤ 9223372036854775807
/-- A list of lists of integers that is read. -/
def IMat (w : World) (v : Value) (L : List (List Int)) : Prop :=
 ∃ A cap, v = .slice A L.length cap ∧ L.length ≤ cap ∧ cap ≤ maxLen ∧ (L.length ≠ 0 → ∃ a, A = some a ∧ a.block < w.heap.size ∧ ∀ i l, L[i]? = some l → ∃ B c, w.cell? (a.add i) = some (.slice B l.length c) ∧ IntsV w (.slice B l.length c) l)
section
variable {w w' : World} {v : Value} {zs : List Int} {L : List (List Int)}
theorem IntsV.keep (h : IntsV w v zs) (hk : Keep (fun _ => False) w w') : IntsV w' v zs := by
 obtain ⟨A, cap, hv, h1, h2, h3, h4⟩ := h
 refine ⟨A, cap, hv, h1, h2, fun hn => ?_, h4⟩
 obtain ⟨a, ha, hb, hc⟩ := h3 hn
 exact ⟨a, ha, Nat.lt_of_lt_of_le hb hk.size, fun i z hz => cell_keep (hc i z hz) (by rw [add_block]; exact hb) id hk⟩
theorem IntsV.op (h : IntsV w v zs) : ∃ (A : Option Addr) (cap : Nat), v = .slice A zs.length cap ∧ IntsV w (.slice A zs.length cap) zs ∧ zs.length ≤ cap ∧ cap ≤ maxLen := by
 have h0 := h
 obtain ⟨A, cap, rfl, h1, h2, -⟩ := h
 exact ⟨A, cap, rfl, h0, h1, h2⟩
theorem IntsV.at {A : Option Addr} {n cap : Nat} (h : IntsV w (.slice A n cap) zs) {i : Nat} {z : Int} (hz : zs[i]? = some z) : ∃ a : Addr, A = some a ∧ a.block < w.heap.size ∧ w.cell? (a.add i) = some (.int .i64 z) ∧ -9223372036854775808 ≤ z ∧ z ≤ 9223372036854775807 := by
 obtain ⟨A', cap', hv, h1, h2, h3, h4⟩ := h
 injection hv with e1 e2 e3
 subst e1
 obtain ⟨a, ha, hb, hc⟩ := h3 (by have := (List.getElem?_eq_some_iff.1 hz).1; omega)
 exact ⟨a, ha, hb, hc i z hz, h4 z (List.mem_of_getElem? hz)⟩
theorem IMat.keep (h : IMat w v L) (hk : Keep (fun _ => False) w w') : IMat w' v L := by
 obtain ⟨A, cap, hv, h1, h2, h3⟩ := h
 refine ⟨A, cap, hv, h1, h2, fun hn => ?_⟩
 obtain ⟨a, ha, hb, hc⟩ := h3 hn
 refine ⟨a, ha, Nat.lt_of_lt_of_le hb hk.size, fun i l hl => ?_⟩
 obtain ⟨B, c, h4, h5⟩ := hc i l hl
 exact ⟨B, c, cell_keep h4 (by rw [add_block]; exact hb) id hk, h5.keep hk⟩
theorem IMat.op (h : IMat w v L) : ∃ (A : Option Addr) (cap : Nat), v = .slice A L.length cap ∧ IMat w (.slice A L.length cap) L ∧ L.length ≤ cap ∧ cap ≤ maxLen := by
 have h0 := h
 obtain ⟨A, cap, rfl, h1, h2, -⟩ := h
 exact ⟨A, cap, rfl, h0, h1, h2⟩
theorem IMat.at {A : Option Addr} {n cap : Nat} (h : IMat w (.slice A n cap) L) {i : Nat} {l : List Int} (he : L[i]? = some l) : ∃ (a : Addr) (B : Option Addr) (c : Nat), A = some a ∧ a.block < w.heap.size ∧ w.cell? (a.add i) = some (.slice B l.length c) ∧ IntsV w (.slice B l.length c) l ∧ l.length ≤ c ∧ c ≤ maxLen := by
 obtain ⟨A', cap', hv, h1, h2, h3⟩ := h
 injection hv with e1 e2 e3
 subst e1
 obtain ⟨a, ha, hb, hc⟩ := h3 (by have := (List.getElem?_eq_some_iff.1 he).1; omega)
 obtain ⟨B, c, h4, h5⟩ := hc i l he
 obtain ⟨A2, c2, h6, -, h7, h8⟩ := h5.op
 injection h6 with e1 e2 e3
 subst e1 e3
 exact ⟨a, B, c, ha, hb, h4, h5, h7, h8⟩
end

end Go.Proofs.YtbdcjhoedhhabaaGreat

