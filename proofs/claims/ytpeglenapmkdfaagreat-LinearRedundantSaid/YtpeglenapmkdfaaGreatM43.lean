/- Contracts of the functions that the statements reach, part 43. -/
import Derived.Test.YtpeglenapmkdfaaGreatRows
import Derived.Test.YtpeglenapmkdfaaGreatM21
import Derived.Test.YtpeglenapmkdfaaGreatM32
import Derived.Test.YtpeglenapmkdfaaGreatM33
import Derived.Test.YtpeglenapmkdfaaGreatM36
import Derived.Test.YtpeglenapmkdfaaGreatM40
set_option linter.unusedSimpArgs false
set_option linter.unusedVariables false

/- The plain laws of linear systems: certificates exclude each other, the kinds and values of optima are one. -/
namespace Go.Proofs.YtpeglenapmkdfaaGreat

section
variable {m n : Nat} {F : Nat → Nat → Rat} {f y Bv kc : Nat → Rat}
/-- A vector times the equations. -/
theorem times_rows (y f : Nat → Rat) (h : ∀ i, i < m → sm n (fun j => F i j * f j) = Bv i) : sm m (fun i => y i * Bv i) = sm n (fun j => f j * sm m (fun i => y i * F i j)) := by
  rw [sm_congr (g := fun i => sm n (fun j => f j * (y i * F i j))) (fun i hi => by
    rw [← h i hi, ← sm_mul]
    exact sm_congr (fun j _ => by grind)), sm_swap]
  exact sm_congr (fun j _ => by rw [sm_mul])
theorem sm_mono {f g : Nat → Rat} {m : Nat} (h : ∀ i, i < m → f i ≤ g i) : sm m f ≤ sm m g := by
  have h1 : 0 ≤ sm m (fun i => g i - f i) := sm_nonneg (fun i hi => by have := h i hi; grind)
  rw [sm_sub] at h1
  grind
/-- Weak duality. -/
theorem weak (hf : ∀ j, j < n → ¬ f j < 0) (h : ∀ i, i < m → sm n (fun j => F i j * f j) = Bv i) (hy : ∀ j, j < n → ¬ kc j < sm m (fun i => y i * F i j)) : sm m (fun i => y i * Bv i) ≤ sm n (fun j => kc j * f j) := by
  rw [times_rows y f h]
  refine sm_mono (fun j hj => ?_)
  have h1 := hf j hj
  have h2 := hy j hj
  rw [Rat.mul_comm (kc j)]
  exact Rat.mul_le_mul_of_nonneg_left (by grind) (by grind)
end

section
variable {m nx ny nr nc nx' ny' nr' : Nat} {N N' : Nat → Nat} {F F' : Nat → Nat → Rat} {f y r Bv Bv' kc f' y' r' : Nat → Rat} {val val' : Rat} {k k' : Int}
/-- No system has both a point and a Farkas vector. -/
theorem not_both (hp : PT m m N F Bv nx f) (hk : FK m m N F Bv ny y) : False := by
  obtain ⟨-, e, hf, hs⟩ := hp
  obtain ⟨-, -, hn, hy⟩ := hk
  rw [e] at hf
  have h := weak (kc := fun _ => 0) (y := fun i => -y i) hf hs (fun j hj => by
    have := hy j hj
    rw [sm_congr (g := fun i => -(y i * F i j)) (fun i _ => by grind), sm_neg]; grind)
  rw [sm_congr (f := fun i => -y i * Bv i) (g := fun i => -(y i * Bv i)) (fun i _ => by grind), sm_neg, sm_zero (f := fun j => 0 * f j) (fun j _ => by grind)] at h
  grind
theorem no_ray (hr : SV m (N 0) nr F r (fun _ => 0)) (hc : sm (N 0) (fun j => kc j * r j) < 0) (hy : ∀ j, j < N 0 → ¬ kc j < sm m (fun i => y i * F i j)) : False := by
  obtain ⟨e, hf, hs⟩ := hr
  rw [e] at hf
  have h := weak hf hs hy
  rw [sm_zero (f := fun i => y i * 0) (fun i _ => by grind)] at h
  grind
theorem val_le (hp : PT m m N F Bv nx f) (hy : ∀ j, j < N 0 → ¬ kc j < sm m (fun i => y i * F i j)) : sm m (fun i => y i * Bv i) ≤ sm (N 0) (fun j => kc j * f j) := by
  obtain ⟨-, e, hf, hs⟩ := hp
  rw [e] at hf
  exact weak hf hs hy
/-- The kind and the value of an optimum are one. -/
theorem OP.uniq (h : OP k m m N F Bv nc kc nx f ny y nr r val) (h' : OP k' m m N F Bv nc kc nx' f' ny' y' nr' r' val') : k = k' ∧ val = val' := by
  obtain ⟨-, -, h⟩ := h
  obtain ⟨-, -, h'⟩ := h'
  rcases h with ⟨rfl, h⟩ | ⟨rfl, h⟩ | ⟨rfl, h⟩ <;> rcases h' with ⟨rfl, h'⟩ | ⟨rfl, h'⟩ | ⟨rfl, h'⟩
  · exact ⟨rfl, by rw [h.2.2.2, h'.2.2.2]⟩
  · exact (not_both h'.1 h.1).elim
  · exact (not_both h'.1 h.1).elim
  · exact (not_both h.1 h'.1).elim
  · exact ⟨rfl, by rw [h.2.2.2.2, h'.2.2.2.2]⟩
  · exact (no_ray h.2.1 h.2.2.1 h'.2.1.2).elim
  · exact (not_both h.1 h'.1).elim
  · exact (no_ray h'.2.1 h'.2.2.1 h.2.1.2).elim
  · refine ⟨rfl, ?_⟩
    have h1 := val_le h.1 h'.2.1.2
    have h2 := val_le h'.1 h.2.1.2
    rw [h'.2.2.2.2, h.2.2.2.1] at h1
    rw [h.2.2.2.2, h'.2.2.2.1] at h2
    grind

/-- One equation more. -/
structure Ext (m : Nat) (N N' : Nat → Nat) (F F' : Nat → Nat → Rat) (Bv Bv' : Nat → Rat) : Prop where
  vs : VS (m + 1) (m + 1) N'
  n0 : N' 0 = N 0
  row : ∀ i, i < m → ∀ j, j < N 0 → F' i j = F i j
  rhs : ∀ i, i < m → Bv' i = Bv i
def ex (m : Nat) (y : Nat → Rat) : Nat → Rat := fun i => if i < m then y i else 0
theorem ex_sum (y g : Nat → Rat) : sm (m + 1) (fun i => ex m y i * g i) = sm m (fun i => y i * g i) := by
  rw [sm_succ, sm_congr (g := fun i => y i * g i) (fun i hi => by unfold ex; rw [if_pos hi])]
  unfold ex
  rw [if_neg (by omega)]; grind
theorem Ext.fk (e : Ext m N N' F F' Bv Bv') (h : FK m m N F Bv ny y) : FK (m + 1) (m + 1) N' F' Bv' (m + 1) (ex m y) := by
  refine ⟨e.vs, rfl, ?_, fun j hj => ?_⟩
  · rw [ex_sum, sm_congr (g := fun i => y i * Bv i) (fun i hi => by rw [e.rhs i hi])]; exact h.2.2.1
  · rw [e.n0] at hj
    rw [ex_sum, sm_congr (g := fun i => y i * F i j) (fun i hi => by rw [e.row i hi j hj])]; exact h.2.2.2 j hj
theorem Ext.du (e : Ext m N N' F F' Bv Bv') (hy : ∀ j, j < N 0 → ¬ kc j < sm m (fun i => y i * F i j)) : ∀ j, j < N' 0 → ¬ kc j < sm (m + 1) (fun i => ex m y i * F' i j) := fun j hj => by
  rw [e.n0] at hj
  rw [ex_sum, sm_congr (g := fun i => y i * F i j) (fun i hi => by rw [e.row i hi j hj])]; exact hy j hj
/-- A solution of the system with the equation more. -/
theorem Ext.sv (e : Ext m N N' F F' Bv Bv') {b b' : Nat → Rat} (hb : ∀ i, i < m → b' i = b i) (h : SV (m + 1) (N' 0) nx F' f b') : SV m (N 0) nx F f b := by
  obtain ⟨h1, h2, h3⟩ := h
  rw [e.n0] at h1 h3
  refine ⟨h1, h2, fun i hi => ?_⟩
  rw [← hb i hi, ← h3 i (by omega)]
  exact sm_congr (fun j hj => by rw [e.row i hi j hj])
theorem Ext.sv' (e : Ext m N N' F F' Bv Bv') {b b' : Nat → Rat} (hb : ∀ i, i < m → b' i = b i) (h : SV m (N 0) nx F f b) (hl : sm (N 0) (fun j => F' m j * f j) = b' m) : SV (m + 1) (N' 0) nx F' f b' := by
  obtain ⟨h1, h2, h3⟩ := h
  refine ⟨by rw [e.n0]; exact h1, h2, fun i hi => ?_⟩
  rw [e.n0]
  by_cases him : i < m
  · rw [hb i him, ← h3 i him]
    exact sm_congr (fun j hj => by rw [e.row i him j hj])
  · rw [show i = m by omega]; exact hl
/-- An equation that is a combination of two others changes nothing. -/
theorem Ext.same (e : Ext m N N' F F' Bv Bv') {a c : Nat} {t : Rat} (ha : a < m) (hc : c < m) (hrow : ∀ j, j < N 0 → F' m j = F a j + t * F c j) (hrhs : Bv' m = Bv a + t * Bv c)
    (h : OP k m m N F Bv nc kc nx f ny y nr r val) (h' : OP k' (m + 1) (m + 1) N' F' Bv' nc kc nx' f' ny' y' nr' r' val') : k = k' ∧ val = val' := by
  have comb : ∀ {g b b' : Nat → Rat} {ng : Nat}, SV m (N 0) ng F g b → b' m = b a + t * b c → sm (N 0) (fun j => F' m j * g j) = b' m := fun {g b b' ng} hs hb => by
    rw [sm_congr (g := fun j => F a j * g j + t * (F c j * g j)) (fun j hj => by rw [hrow j hj]; grind), sm_add, sm_mul, hs.2.2 a ha, hs.2.2 c hc, hb]
  have hpt : ∀ {g : Nat → Rat} {ng : Nat}, PT m m N F Bv ng g → PT (m + 1) (m + 1) N' F' Bv' ng g := fun hp => ⟨e.vs, e.sv' e.rhs hp.2 (comb hp.2 hrhs)⟩
  have h0 : ∃ ny2 y2, OP k (m + 1) (m + 1) N' F' Bv' nc kc nx f ny2 y2 nr r val := by
    obtain ⟨-, hn, h⟩ := h
    rcases h with ⟨rfl, h⟩ | ⟨rfl, h⟩ | ⟨rfl, h⟩
    · exact ⟨_, _, e.vs, by rw [e.n0]; exact hn, .inl ⟨rfl, e.fk h.1, h.2⟩⟩
    · refine ⟨ny, y, e.vs, by rw [e.n0]; exact hn, .inr (.inl ⟨rfl, hpt h.1, e.sv' (b' := fun _ => 0) (fun _ _ => rfl) h.2.1 (comb (b' := fun _ => 0) h.2.1 (by show (0 : Rat) = 0 + t * 0; grind)), by rw [e.n0]; exact h.2.2.1, h.2.2.2⟩)⟩
    · refine ⟨_, ex m y, e.vs, by rw [e.n0]; exact hn, .inr (.inr ⟨rfl, hpt h.1, ⟨rfl, e.du h.2.1.2⟩, h.2.2.1, by rw [e.n0]; exact h.2.2.2.1, ?_⟩)⟩
      rw [ex_sum, sm_congr (g := fun i => y i * Bv i) (fun i hi => by rw [e.rhs i hi])]; exact h.2.2.2.2
  obtain ⟨ny2, y2, h0⟩ := h0
  exact h0.uniq h'
/-- With one equation more the least cost does not fall. -/
theorem Ext.less (e : Ext m N N' F F' Bv Bv') (h : OP k m m N F Bv nc kc nx f ny y nr r val) (h' : OP k' (m + 1) (m + 1) N' F' Bv' nc kc nx' f' ny' y' nr' r' val') :
    (k = 0 → k' = 0) ∧ (k = 2 → k' ≠ 1) ∧ (k = 2 → k' = 2 → val ≤ val') := by
  obtain ⟨-, -, h⟩ := h
  obtain ⟨-, -, h'⟩ := h'
  refine ⟨fun h0 => ?_, fun h2 h1 => ?_, fun h2 h3 => ?_⟩
  · subst h0
    rcases h with ⟨-, h⟩ | ⟨h, -⟩ | ⟨h, -⟩
    · rcases h' with ⟨h', -⟩ | ⟨-, h'⟩ | ⟨-, h'⟩
      · exact h'
      · exact (not_both h'.1 (e.fk h.1)).elim
      · exact (not_both h'.1 (e.fk h.1)).elim
    · exact absurd h (by decide)
    · exact absurd h (by decide)
  · subst h2
    subst h1
    rcases h with ⟨h, -⟩ | ⟨h, -⟩ | ⟨-, h⟩
    · exact absurd h (by decide)
    · exact absurd h (by decide)
    rcases h' with ⟨h', -⟩ | ⟨-, h'⟩ | ⟨h', -⟩
    · exact absurd h' (by decide)
    · exact no_ray h'.2.1 h'.2.2.1 (e.du h.2.1.2)
    · exact absurd h' (by decide)
  · subst h2
    subst h3
    rcases h with ⟨h, -⟩ | ⟨h, -⟩ | ⟨-, h⟩
    · exact absurd h (by decide)
    · exact absurd h (by decide)
    rcases h' with ⟨h', -⟩ | ⟨h', -⟩ | ⟨-, h'⟩
    · exact absurd h' (by decide)
    · exact absurd h' (by decide)
    have hp : PT m m N F Bv nx' f' := ⟨h.1.1, e.sv e.rhs h'.1.2⟩
    have h1 := val_le hp h.2.1.2
    rw [h.2.2.2.2, ← e.n0, h'.2.2.2.1] at h1
    exact h1
end
end Go.Proofs.YtpeglenapmkdfaaGreat

/- What small systems give. -/
namespace Go.Proofs.YtpeglenapmkdfaaGreat
open Go.RowKit

theorem Tells.eq {P : Prop} {e : Ending} {b : Bool} (h : Tells P e) (hb : b = true ↔ P) : e = .returned (.bool b) := by
  obtain ⟨c, rfl, hc⟩ := h
  have : c = b := by
    have h1 := hc.out.trans hb.symm
    cases c <;> cases b <;> simp_all
  rw [this]
theorem tell (P : Prop) : ∃ b : Bool, Hid (b = true ↔ P) := by
  rcases Classical.em P with h | h
  · exact ⟨true, fun _ => h, fun _ => rfl⟩
  · exact ⟨false, fun h' => (by cases h'), fun h' => absurd h' h⟩
section
variable {w : World} {v0 v1 : Value} {L : List (List RF)} {l : List RF}
theorem FewS.mat (h : FewS L l) (hA : RMat w v0 L) : Mat 2 w (fun _ => False) v0 L.length (lens L) (qm L) := hA.mat (fun i r hr j e he => (h.2.2 i r hr).2 j e he)
theorem FewS.rhs (h : FewS L l) (hB : Rats w (fun _ => False) v1 l) : Nums 2 w (fun _ => False) v1 l.length (qs l) := hB.nums h.2.1.2
theorem NB.nums {k : Nat} (h : NB l k) (hB : Rats w (fun _ => False) v1 l) : Nums 2 w (fun _ => False) v1 l.length (qs l) := hB.nums h.2
theorem FewS.sys (h : FewS L l) (hA : RMat w v0 L) (hB : Rats w (fun _ => False) v1 l) : Sys 2 w (.agg #[v0, v1]) L.length l.length (lens L) (qm L) (qs l) := by
  obtain ⟨A, cA, rfl, hA', la1, la2⟩ := hA.op
  obtain ⟨B, cB, rfl, hB', lb1, lb2⟩ := hB.op
  exact ⟨_, _, _, _, rfl, h.mat hA', h.rhs hB'⟩
theorem FewS.len8 (h : FewS L l) : ∀ i, i < L.length → lens L i ≤ 8 := fun i hi => by
  have he := List.getElem?_eq_getElem hi
  rw [lens_get he]
  exact (h.2.2 i _ he).1
end
/-- The sizes K1 and K2 for numbers of two words. -/
theorem FewS.sz1 {w : World} {v : Value} {L : List (List RF)} {l : List RF} (h : FewS L l) (hS : Sys 2 w v L.length l.length (lens L) (qm L) (qs l)) : VS L.length l.length (lens L) → Szk 126 779 L.length (lens L 0) (t0 L.length (lens L 0) (qm L) (qs l)) (d1 L.length (lens L 0)) := hS.sz1 (by decide) h.1 h.len8 (by decide) (by decide)
theorem FewS.sz2 {w w2 : World} {v vc : Value} {L : List (List RF)} {l : List RF} {nc : Nat} {kc : Nat → Rat} (h : FewS L l) (hS : Sys 2 w v L.length l.length (lens L) (qm L) (qs l)) (hc : Nums 2 w2 (fun _ => False) vc nc kc) : VS L.length l.length (lens L) → nc = lens L 0 → Szk 126 779 L.length (lens L 0) (t0 L.length (lens L 0) (qm L) (qs l)) (d2 (lens L 0) kc) := hS.sz2 hc (by decide) h.1 h.len8 (by decide) (by decide)
theorem FewS.sz1x {w : World} {v : Value} {L : List (List RF)} {l : List RF} {nc : Nat} (h : FewS L l) (hS : Sys 2 w v L.length l.length (lens L) (qm L) (qs l)) : VS L.length l.length (lens L) → nc = lens L 0 → Szk 126 779 L.length (lens L 0) (t0 L.length (lens L 0) (qm L) (qs l)) (d1 L.length (lens L 0)) := fun hv _ => h.sz1 hS hv
section
variable {m mb nx ny nx' ny' : Nat} {N : Nat → Nat} {F : Nat → Nat → Rat} {f y Bv f' y' : Nat → Rat} {b : Bool}
theorem not_bothS (hp : PT m mb N F Bv nx f) (hk : FK m mb N F Bv ny y) : False := by
  obtain rfl := hp.1.2.2.1
  exact not_both hp hk
theorem rs_fk (h : RS b m mb N F Bv nx f ny y) (hk : FK m mb N F Bv ny' y') : b = false := by
  rcases h with ⟨_, _, h⟩ | ⟨h, _, _⟩
  · exact (not_bothS h hk).elim
  · exact h
theorem rs_pt (h : RS b m mb N F Bv nx f ny y) (hp : PT m mb N F Bv nx' f') : b = true := by
  rcases h with ⟨h, _, _⟩ | ⟨_, _, h⟩
  · exact h
  · exact (not_bothS hp h).elim
end
end Go.Proofs.YtpeglenapmkdfaaGreat

/- The chapter's examples of linear systems, plainly. -/
namespace Go.Proofs.YtpeglenapmkdfaaGreat
/-- Integers as fractions. -/
def zi (zs : List Int) : Nat → Rat := fun i => ((zs.getD i 0 : Int) : Rat)
def kA : Nat → Nat → Rat := fun i => if i = 0 then zi [1, 1] else zi [1, -1]
theorem k_vs : VS 2 2 (fun _ => 2) := ⟨by decide, by decide, rfl, by decide, by decide, fun _ _ => rfl⟩
theorem two_of {p : Nat → Prop} (h0 : p 0) (h1 : p 1) : ∀ i, i < 2 → p i := fun i hi => by
  rcases (show i = 0 ∨ i = 1 by omega) with rfl | rfl
  · exact h0
  · exact h1
theorem one_of {p : Nat → Prop} (h0 : p 0) : ∀ i, i < 1 → p i := fun i hi => by
  obtain rfl : i = 0 := by omega
  exact h0
theorem k_pt : PT 2 2 (fun _ => 2) kA (zi [3, 1]) 2 (zi [2, 1]) := ⟨k_vs, rfl, two_of (by decide +kernel) (by decide +kernel), two_of (by decide +kernel) (by decide +kernel)⟩
theorem k_npt : ¬ PT 2 2 (fun _ => 2) kA (zi [3, 1]) 2 (zi [1, 2]) := fun ⟨_, _, _, h⟩ => absurd (h 1 (by decide)) (by decide +kernel)
theorem k_vs1 : VS 1 1 (fun _ => 1) := ⟨by decide, by decide, rfl, by decide, by decide, fun _ _ => rfl⟩
theorem k_fk : FK 1 1 (fun _ => 1) (fun _ => zi [1]) (zi [-1]) 1 (zi [1]) := ⟨k_vs1, rfl, by decide +kernel, one_of (by decide +kernel)⟩
theorem k_nfk : ¬ FK 1 1 (fun _ => 1) (fun _ => zi [1]) (zi [-1]) 1 (zi [0]) := fun ⟨_, _, h, _⟩ => absurd h (by decide +kernel)
theorem k_un {nx : Nat} {f : Nat → Rat} (h : PT 2 2 (fun _ => 2) kA (zi [3, 1]) nx f) : nx = 2 ∧ ∀ i, i < 2 → f i = zi [2, 1] i := by
  obtain ⟨_, h1, _, h⟩ := h
  have a := h 0 (by decide)
  have b := h 1 (by decide)
  simp only [sm] at a b
  rw [show kA 0 0 = 1 by decide +kernel, show kA 0 1 = 1 by decide +kernel, show zi [3, 1] 0 = 3 by decide +kernel] at a
  rw [show kA 1 0 = 1 by decide +kernel, show kA 1 1 = -1 by decide +kernel, show zi [3, 1] 1 = 1 by decide +kernel] at b
  refine ⟨h1, two_of ?_ ?_⟩
  · rw [show zi [2, 1] 0 = 2 by decide +kernel]; grind
  · rw [show zi [2, 1] 1 = 1 by decide +kernel]; grind
theorem k_vs2 : VS 1 1 (fun _ => 2) := ⟨by decide, by decide, rfl, by decide, by decide, fun _ _ => rfl⟩
theorem k_op : OP 2 1 1 (fun _ => 2) (fun _ => zi [1, 1]) (zi [3]) 2 (zi [2, 1]) 2 (zi [0, 3]) 1 (zi [1]) 0 (fun _ => 0) 3 :=
  ⟨k_vs2, rfl, .inr (.inr ⟨rfl, ⟨k_vs2, rfl, two_of (by decide +kernel) (by decide +kernel), one_of (by decide +kernel)⟩, ⟨rfl, two_of (by decide +kernel) (by decide +kernel)⟩, rfl, by decide +kernel, by decide +kernel⟩)⟩
/-- Solve of the example: the point. -/
theorem k_rs {b : Bool} {nx ny : Nat} {f y : Nat → Rat} (h : RS b 2 2 (fun _ => 2) kA (zi [3, 1]) nx f ny y) : b = true ∧ nx = 2 ∧ ∀ i, i < 2 → f i = zi [2, 1] i := by
  rcases h with ⟨h1, _, h⟩ | ⟨_, _, h⟩
  · exact ⟨h1, k_un h⟩
  · exact (not_both k_pt h).elim
end Go.Proofs.YtpeglenapmkdfaaGreat

/- whole, row, same. -/
namespace Go.Proofs.YtpeglenapmkdfaaGreat
open Go.RowKit
attribute [local go_sem ↓] Go.wp_at_zero Go.wp_at_succ

set_option maxRecDepth 100000 in
set_option maxHeartbeats 4000000 in
theorem rwholeN_any (w : World) (z : Int) (h0 : -9223372036854775808 ≤ z) (h1 : z ≤ 9223372036854775807) :
    Calls Tryz.prog 23 #[.int .i64 z] w fun e w' => ∃ v', e = .returned v' ∧ RatV w' (Old w) v' (z : Rat) ∧ Below w.heap.size w w' := by
  have L := made1 w #[.bool false, .slice none 0 0, .bool false, .slice none 0 0] 44
  go_enter Tryz.func23, Tryz.ntmps23
  go_wp2_with fail
  refine (rratof_any _ z 1 (by decide) h0 h1 (by decide) (by decide)).mono ?_
  rintro e w1 ⟨v1, rfl, i1, hb1⟩
  rw [divInt_int] at i1
  obtain ⟨b1, A1, m1, c1, b1', A1', m1', c1', rfl, i1, -, -⟩ := i1.op
  have z1 := sz1 hb1
  have M := made1 w1 #[.bool b1, .slice A1 m1 c1, .bool b1', .slice A1' m1' c1'] 44
  obtain ⟨e4, g4, -⟩ := L.all (w' := w1.alloc (.cells #[.bool b1, .slice A1 m1 c1, .bool b1', .slice A1' m1' c1'] 44))
  obtain ⟨e6, g6, l6⟩ := L.all (w' := w1)
  obtain ⟨e5, g5, -⟩ := M.all (w' := w1.alloc (.cells #[.bool b1, .slice A1 m1 c1, .bool b1', .slice A1' m1' c1'] 44))
  have LF := Loc.fill4 (u := .bool b1) (v := .slice A1 m1 c1) (x := .bool b1') (y := .slice A1' m1' c1') (L.to (w' := w1))
  obtain ⟨e8, g8, -⟩ := LF.all (w' := ((((w1.setCell ⟨w.heap.size, 0, none⟩ (.bool b1)).setCell ⟨w.heap.size, 1, none⟩ (.slice A1 m1 c1)).setCell ⟨w.heap.size, 2, none⟩ (.bool b1')).setCell ⟨w.heap.size, 3, none⟩ (.slice A1' m1' c1')).alloc (.cells #[.bool b1, .slice A1 m1 c1, .bool b1', .slice A1' m1' c1'] 44))
  go_wp2_with fail
  refine bodyPost_ret (by simp [results, Tryz.results23, go_sem, e8, g8] <;> rfl) rfl ⟨_, rfl, RatV.out i1, bel⟩

set_option maxRecDepth 100000 in
set_option maxHeartbeats 4000000 in
theorem row_any (w : World) (g : Nat) (t : TypeId) (zs : List Int) (L : Loc w g t (zs.map (Value.int .i64)).toArray) (hz : ∀ z ∈ zs, -9223372036854775808 ≤ z ∧ z ≤ 9223372036854775807) (hn : zs.length ≤ 100) :
    Calls Tryz.prog 36 #[.slice (some ⟨g, 0, none⟩) zs.length zs.length] w fun e w' => ∃ v', e = .returned v' ∧ Nums 2 w' (fun _ => False) v' zs.length (zi zs) ∧ Below w.heap.size w w' := by
  obtain ⟨n, hnn⟩ : ∃ n, zs.length = n := ⟨_, rfl⟩
  rw [hnn] at hn
  rw [hnn]
  have HN := Lib.hid hnn
  have HZ := Lib.hid hz
  have HL := Lib.hid L
  have hgl := L.lt
  clear hnn hz L
  go_enter Tryz.func36, Tryz.ntmps36
  go_wp2_with fail
  go_loopw [3, 8] (fun v i wr => ∃ (c : Nat) (rs : List R4), c ≤ n ∧ i = .int .i64 c ∧ OwnR wr w.heap.size v rs ∧ rs.length = c ∧ ValL 2 wr (fun b => v.ownBlock = some b) rs (zi zs) ∧ Below w.heap.size w wr) (fun _ i _ => n - (intOf i).toNat)
  case atStart => exact ⟨0, [], by omega, rfl, OwnR.nil _ _, rfl, fun i r hr => by simp at hr, bel⟩
  case round =>
    obtain ⟨c, rs, hc, rfl, hown, hrl, hv, hB⟩ := hrel
    obtain ⟨wo, rfl⟩ : ∃ wo : World, wo = wr := ⟨_, rfl⟩
    have y5 := hB.size; (try simp only [World.size_alloc, size_set, size_drew, size_drewN] at y5)
    by_cases hlt : c < n
    · obtain ⟨z, he⟩ : ∃ z, zs[c]? = some z := ⟨_, List.getElem?_eq_getElem (by rw [HN.out]; exact hlt)⟩
      have x0 : wo.cell? ⟨g, c, none⟩ = some (.int .i64 z) := cell_keep (X := fun _ => False) (by rw [Loc.cell HL.out]; simp [he]) hgl id (.of_below hB)
      have hzz := HZ.out z (List.mem_of_getElem? he)
      have hq : zi zs c = (z : Rat) := by unfold zi; rw [List.getD_eq_getElem?_getD, he]; rfl
      have HQ := Lib.hid hq
      have k0 : (0 : Int) ≤ (c : Int) := by omega
      have k1 : (c : Int) < (n : Int) := by omega
      clear he hq
      go_wp2_with fail
      refine (rwholeN_any _ z hzz.1 hzz.2).mono ?_
      rintro e w3 ⟨v3, rfl, i3, hb3⟩
      obtain ⟨b3, A3, m3, c3, b3', A3', m3', c3', rfl, i3, -, -⟩ := i3.op
      have y3 := hb3.size; (try simp only [World.size_alloc, size_set, size_drew, size_drewN] at y3)
      have hbo : Below wo.heap.size wo (w3.alloc (.cells #[.bool b3, .slice A3 m3 c3, .bool b3', .slice A3' m3' c3'] 44)) := bel
      have hown7 : Hid (∀ b, u3.ownBlock = some b → b < wo.heap.size) := fun b hb => (hown.lt hb).1
      have hvv : ValL 2 (w3.alloc (.cells #[.bool b3, .slice A3 m3 c3, .bool b3', .slice A3' m3' c3'] 44)) (fun b => u3.ownBlock = some b) rs (zi zs) := hv.keep (Keep.of_below hbo)
      have hrr : RatL 2 (w3.alloc (.cells #[.bool b3, .slice A3 m3 c3, .bool b3', .slice A3' m3' c3'] 44)) (fun b => u3.ownBlock = some b) (R4.v ⟨b3, A3, m3, c3, b3', A3', m3', c3'⟩) (zi zs rs.length) := by
        rw [hrl, HQ.out]
        exact RatL.keep (RatL.weak (i3.len (rsz_int hzz.1 hzz.2)) (fun b _ hb => by have := hown7.out b hb; show b < _; omega)) kp
      go_wp2_with (at_builtin; refine wpList_pushR _ rfl _ _ rfl w.heap.size _ rs rfl (hown.below hbo) _ ⟨b3, A3, m3, c3, b3', A3', m3', c3'⟩ rfl (heap_alloc_new w3 _) (by omega) (by simp only [World.size_alloc]; omega) ?_)
      intro g5 cap w2 hown2 hg2 ho2 hl2
      have hb2 : Below w.heap.size w w2 := below_own (bel : Below w.heap.size w (w3.alloc (.cells #[.bool b3, .slice A3 m3 c3, .bool b3', .slice A3' m3' c3'] 44))) (hown.below hbo) hg2 (Nat.le_refl _) (by simp only [World.size_alloc]; omega)
      have hg3 := ValL.grow hvv hrr hg2 (ho2.imp id fun h => by rw [h, World.size_alloc])
      clear hvv hrr hbo hb3
      go_wp2_with fail
      go_roundw
      case rel =>
        refine ⟨c + 1, rs ++ [⟨b3, A3, m3, c3, b3', A3', m3', c3'⟩], by omega, by go_num, hown2, by simp [hrl], hg3.weak (fun b _ hb => ?_), hb2⟩
        injection hb with hb
        exact hb.symm
      case measure => simp only [intOf]; omega
    · obtain rfl : c = n := by omega
      go_wp2_with fail
      go_ret
      subst hrl
      exact ⟨_, rfl, hown.nums hv (fun _ _ h => h.elim) (fun _ _ h => h), hB⟩

set_option maxRecDepth 100000 in
set_option maxHeartbeats 4000000 in
theorem equalF_any (w : World) (v1 v2 : Value) (n1 n2 k : Nat) (f q : Nat → Rat) (h1 : Nums k w (fun _ => False) v1 n1 f) (h2 : Nums k w (fun _ => False) v2 n2 q) (hk : k ≤ 1000000) :
    Calls Tryz.prog 68 #[v1, v2, .func (Fn.func 27) #[] #[]] w fun e w' => Tells (n1 = n2 ∧ ∀ i, i < n1 → f i = q i) e ∧ Below w.heap.size w w' := by
  have H1 := Lib.hid h1
  have H2 := Lib.hid h2
  obtain ⟨A, c1, rfl, h1, l1, l2⟩ := h1.op
  obtain ⟨B, c2, rfl, h2, l3, l4⟩ := h2.op
  have lm : n1 ≤ 9223372036854775807 := by unfold maxLen at l2; omega
  clear h1 h2
  by_cases hne : n1 ≠ n2
  · have HV : Hid (¬ (n1 = n2 ∧ ∀ i, i < n1 → f i = q i)) := fun h => hne h.1
    have h4 : ((n1 : Int) == (n2 : Int)) = false := beq_eq_false_iff_ne.2 (by omega)
    have h5 : ((n1 : Int) != (n2 : Int)) = true := bne_iff_ne.2 (by omega)
    go_enter Tryz.func68, Tryz.ntmps68
    go_wp2_with fail
    go_ret
    exact ⟨Tells.no HV.out, bel⟩
  obtain rfl : n1 = n2 := Classical.not_not.1 hne
  clear hne
  go_enter Tryz.func68, Tryz.ntmps68
  go_wp2_with fail
  go_loopw [17] (fun i wr => ∃ (c : Nat), c ≤ n1 ∧ i = .int .i64 c ∧ Hid (∀ i, i < c → f i = q i) ∧ Below w.heap.size w wr) (fun i _ => n1 - (intOf i).toNat)
  case atStart => exact ⟨0, by omega, rfl, Lib.hid (fun i hi => absurd hi (by omega)), bel⟩
  case round =>
    obtain ⟨c, hc, rfl, hall, hB⟩ := hrel
    obtain ⟨wo, rfl⟩ : ∃ wo : World, wo = wr := ⟨_, rfl⟩
    have y5 := hB.size; (try simp only [World.size_alloc, size_set, size_drew, size_drewN] at y5)
    by_cases hlt : c < n1
    · obtain ⟨a, b3, A3, m3, c3, b3', A3', m3', c3', rfl, ha, -, x0, x1, x2, x3, r3⟩ := Nums.at (Nums.keep H1.out (.of_below hB)) hlt
      obtain ⟨a', b4, A4, m4, c4, b4', A4', m4', c4', rfl, ha', ha'', s0, s1, s2, s3, r4⟩ := Nums.at (Nums.keep H2.out (.of_below hB)) hlt
      replace x1 : wo.cell? ⟨(a.add (c * 4)).block, (a.add (c * 4)).off + 1, none⟩ = _ := x1
      replace x2 : wo.cell? ⟨(a.add (c * 4)).block, (a.add (c * 4)).off + 2, none⟩ = _ := x2
      replace x3 : wo.cell? ⟨(a.add (c * 4)).block, (a.add (c * 4)).off + 3, none⟩ = _ := x3
      have k0 : (0 : Int) ≤ (c : Int) := by omega
      have k1 : (c : Int) < (n1 : Int) := by omega
      clear s0 s1 s2 s3 r4 ha' ha''
      go_upto_region 5 with fail
      go_cut [7, 8] from 19 to 22 (fun p q W => p = .int .i64 c ∧ ∃ g, q = .pointer (some ⟨g, 0, none⟩) ∧ wo.heap.size ≤ g ∧ Loc W g 44 #[.bool b3, .slice A3 m3 c3, .bool b3', .slice A3' m3' c3'] ∧ Below wo.heap.size wo W)
      case first =>
        have M1 := made1 wo #[.bool b3, .slice A3 m3 c3, .bool b3', .slice A3' m3' c3'] 44
        go_wp2_with fail
        go_meet
        exact ⟨rfl, _, rfl, Nat.le_refl _, M1, bel⟩
      case rest =>
        obtain ⟨rfl, g8, rfl, hg8, M1, hB8⟩ := hcut
        obtain ⟨w8, rfl⟩ : ∃ w8 : World, w8 = wc := ⟨_, rfl⟩
        have y8 := hB8.size; (try simp only [World.size_alloc, size_set, size_drew, size_drewN] at y8)
        obtain ⟨a', b4, A4, m4, c4, b4', A4', m4', c4', e9, ha', ha'', s0, s1, s2, s3, r4⟩ := Nums.at (Nums.keep H2.out (.of_below (hB.trans (hB8.mono y5)))) hlt
        injection e9 with e9
        subst e9
        replace s1 : w8.cell? ⟨(a'.add (c * 4)).block, (a'.add (c * 4)).off + 1, none⟩ = _ := s1
        replace s2 : w8.cell? ⟨(a'.add (c * 4)).block, (a'.add (c * 4)).off + 2, none⟩ = _ := s2
        replace s3 : w8.cell? ⟨(a'.add (c * 4)).block, (a'.add (c * 4)).off + 3, none⟩ = _ := s3
        clear x0 x1 x2 x3
        have M2 := made1 w8 #[.bool b4, .slice A4 m4 c4, .bool b4', .slice A4' m4' c4'] 44
        have g8l := M1.lt
        have M1b : Loc (w8.alloc (.cells #[.bool b4, .slice A4 m4 c4, .bool b4', .slice A4' m4' c4'] 44)) g8 44 _ := M1.to
        obtain ⟨e1, f1, t1⟩ := M1b.all
        obtain ⟨e2, f2, t2⟩ := M2.all
        go_wp2_with fail
        refine (equal_any _ (fun _ => False) _ _ (f c) (q c) ((RatL.to r3).mono hk) ((RatL.to r4).mono hk)).mono ?_
        rintro e w9 ⟨he, hb9⟩
        have y9 := hb9.size; (try simp only [World.size_alloc, size_set, size_drew, size_drewN] at y9)
        have HLT := Lib.hid hlt
        by_cases hfq : f c = q c
        · have he := he.eq (b := true) ⟨fun _ => hfq, fun _ => rfl⟩
          have HFQ := Lib.hid hfq
          subst he
          clear hfq
          go_wp2_with fail
          go_roundw
          case rel =>
            refine ⟨c + 1, (by have h9 := HLT.out; omega), by go_num, Lib.hid (fun i hi => ?_), bel⟩
            by_cases hic : i < c
            · exact hall.out i hic
            · obtain rfl : i = c := by omega
              exact HFQ.out
          case measure => have h9 := HLT.out; simp only [intOf]; omega
        · have he := he.eq (b := false) ⟨fun h => (by cases h), fun h => absurd h hfq⟩
          have HFQ : Hid (¬ f c = q c) := hfq
          subst he
          clear hfq
          go_wp2_with fail
          go_ret
          exact ⟨Tells.no (fun h => HFQ.out (h.2 c HLT.out)), bel⟩
    · obtain rfl : c = n1 := by omega
      go_wp2_with fail
      go_ret
      exact ⟨Tells.yes ⟨by first | rfl | trivial, hall.out⟩, hB⟩
end Go.Proofs.YtpeglenapmkdfaaGreat

