/- Contracts of the functions that the statements reach, part 41. -/
import Derived.Test.YtdambnieminnfaaGreatRows
import Derived.Test.YtdambnieminnfaaGreatY18
import Derived.Test.YtdambnieminnfaaGreatY22
import Derived.Test.YtdambnieminnfaaGreatY25
import Derived.Test.YtdambnieminnfaaGreatY26
import Derived.Test.YtdambnieminnfaaGreatY31
import Derived.Test.YtdambnieminnfaaGreatY40
set_option linter.unusedSimpArgs false
set_option linter.unusedVariables false

/- refinement.Chain. -/
namespace Go.Proofs.YtdambnieminnfaaGreat
open Go.RowKit
attribute [local go_sem ↓] Go.wp_at_zero Go.wp_at_succ

/-- A list of canonical fractions that is read. -/
def NumsV (w : World) (X : Nat → Prop) (v : Value) (n : Nat) (f : Nat → Rat) : Prop :=
 ∃ (rs : List R4) (A : Option Addr) (cap : Nat), rs.length = n ∧ v = .slice A n cap ∧ n ≤ cap ∧ cap ≤ maxLen ∧
   (n ≠ 0 → ∃ a : Addr, A = some a ∧ a.block < w.heap.size ∧ ¬ X a.block ∧ ∀ i r, rs[i]? = some r →
    w.cell? (a.add (i * 4)) = some (.bool r.b) ∧ w.cell? ((a.add (i * 4)).add 1) = some (.slice r.A r.m r.c) ∧ w.cell? ((a.add (i * 4)).add 2) = some (.bool r.b') ∧ w.cell? ((a.add (i * 4)).add 3) = some (.slice r.A' r.m' r.c')) ∧ ValV w X rs f
/-- A list of such lists. -/
def MatV (w : World) (X : Nat → Prop) (v : Value) (m n : Nat) (F : Nat → Nat → Rat) : Prop :=
 ∃ (us : List Value) (A : Option Addr) (cap : Nat), us.length = m ∧ v = .slice A m cap ∧ m ≤ cap ∧ cap ≤ maxLen ∧
   (m ≠ 0 → ∃ a : Addr, A = some a ∧ a.block < w.heap.size ∧ ¬ X a.block ∧ ∀ i u, us[i]? = some u → w.cell? (a.add i) = some u) ∧ ∀ i u, us[i]? = some u → NumsV w X u n (F i)
section
variable {w w' W W2 : World} {k n m : Nat} {X Y : Nat → Prop} {v : Value} {f f' : Nat → Rat} {F F' : Nat → Nat → Rat} {rs : List R4} {q : Rat}
theorem NumsV.nums (h : NumsV w X v n f) (hs : ∀ i, i < n → Rsz k (f i)) : Nums k w X v n f := by
 obtain ⟨rs, A, cap, h1, h2, h3, h4, h5, h6⟩ := h
 exact ⟨rs, A, cap, h1, h2, h3, h4, h5, h6.len (fun i hi => hs i (by omega))⟩
theorem NumsV.keep (h : NumsV w X v n f) (hk : Keep X w w') : NumsV w' X v n f := by
 obtain ⟨rs, A, cap, h1, h2, h3, h4, h5, h6⟩ := h
 refine ⟨rs, A, cap, h1, h2, h3, h4, fun hn => ?_, h6.keep hk⟩
 obtain ⟨a, ea, hb, hX, hc⟩ := h5 hn
 refine ⟨a, ea, Nat.lt_of_lt_of_le hb hk.size, hX, fun i r hr => ?_⟩
 obtain ⟨c0, c1, c2, c3⟩ := hc i r hr
 have key : ∀ (p : Addr) (u : Value), p.block = a.block → w.cell? p = some u → w'.cell? p = some u := fun p u hp hu => cell_keep hu (by rw [hp]; exact hb) (by rw [hp]; exact hX) hk
 refine ⟨key _ _ ?_ c0, key _ _ ?_ c1, key _ _ ?_ c2, key _ _ ?_ c3⟩ <;> simp only [add_block]
theorem NumsV.weak (h : NumsV w X v n f) (hY : ∀ b, b < w.heap.size → Y b → X b) : NumsV w Y v n f := by
 obtain ⟨rs, A, cap, h1, h2, h3, h4, h5, h6⟩ := h
 refine ⟨rs, A, cap, h1, h2, h3, h4, fun hn => ?_, h6.weak hY⟩
 obtain ⟨a, ea, hb, hX, hc⟩ := h5 hn
 exact ⟨a, ea, hb, fun hy => hX (hY _ hb hy), hc⟩
theorem NumsV.congr (h : NumsV w X v n f) (hf : ∀ i, i < n → f' i = f i) : NumsV w X v n f' := by
 obtain ⟨rs, A, cap, h1, h2, h3, h4, h5, h6⟩ := h
 exact ⟨rs, A, cap, h1, h2, h3, h4, h5, h6.congr (by rw [h1]; exact hf)⟩
theorem NumsV.turn (h : NumsV W X v n f) (hk : Keep X W W2) (hY : ∀ b, b < W.heap.size → Y b → X b) : NumsV W2 Y v n f :=
 ((h.weak (Y := fun b => X b ∨ Y b) (fun b hb h => h.elim id (hY b hb))).keep hk.both).weak (fun _ _ h => .inr h)
theorem ValV.turn (h : ValV W X rs f) (hk : Keep X W W2) (hY : ∀ b, b < W.heap.size → Y b → X b) : ValV W2 Y rs f :=
 ((h.weak (Y := fun b => X b ∨ Y b) (fun b hb h => h.elim id (hY b hb))).keep hk.both).weak (fun _ _ h => .inr h)
theorem MatV.mat (h : MatV w X v m n F) (hs : ∀ i, i < m → ∀ j, j < n → Rsz k (F i j)) : Mat k w X v m (fun _ => n) F := by
 obtain ⟨us, A, cap, h1, h2, h3, h4, h5, h6⟩ := h
 exact ⟨us, A, cap, h1, h2, h3, h4, h5, fun i u hu => (h6 i u hu).nums (hs i (by rw [← h1]; exact (List.getElem?_eq_some_iff.1 hu).1))⟩
theorem MatV.keep (h : MatV w X v m n F) (hk : Keep X w w') : MatV w' X v m n F := by
 obtain ⟨us, A, cap, h1, h2, h3, h4, h5, h6⟩ := h
 refine ⟨us, A, cap, h1, h2, h3, h4, fun hn => ?_, fun i u hu => (h6 i u hu).keep hk⟩
 obtain ⟨a, ea, hb, hX, hc⟩ := h5 hn
 exact ⟨a, ea, Nat.lt_of_lt_of_le hb hk.size, hX, fun i u hu => cell_keep (hc i u hu) (by rw [add_block]; exact hb) (by rw [add_block]; exact hX) hk⟩
end
end Go.Proofs.YtdambnieminnfaaGreat

/- Witnesses of channels: every channel has one of itself, and two chain. Plain. -/
namespace Go.Proofs.YtdambnieminnfaaGreat

theorem wit_in {L1 L2 : List (List Int)} {F : Nat → Nat → Rat} (v1 : VC L1) (v2 : VC L2) (hl : L1.length = L2.length) (hw : Wit L1.length (wid L1) (wid L2) (ce L1) ((tot L1 : Int) : Rat) (ce L2) ((tot L2 : Int) : Rat) F) : WIT L1 L2 (wid L1) (fun _ => wid L2) F := by
 refine ⟨v1, v2, hl, ⟨⟨v1.2.2.1, v2.2.2.1, fun i hi => ⟨rfl, fun j hj hn => ?_⟩⟩, fun i hi => hw.one i hi⟩, rfl, rfl, fun x hx z hz => hw.eq x hx z hz⟩
 have := hw.non i hi j hj
 grind
theorem SM.code {L1 L2 : List (List Int)} (h1 : SM L1) (h2 : SM L2) (hl : L1.length = L2.length) {code : Int} {b : Bool} {m Kn : Nat} {F G : Nat → Nat → Rat} (h : DecSays L1 L2 code b m F Kn G) : code = 0 :=
 h1.1.code h2.1 h h1.2.1 h2.2.1 hl

/- A channel observed through another one, plainly. -/

/-- A sum of integers. -/
def isg : Nat → (Nat → Int) → Int
 | 0, _ => 0
 | n + 1, f => isg n f + f n
theorem isg_congr {f g : Nat → Int} : ∀ n, (∀ i, i < n → f i = g i) → isg n f = isg n g
 | 0, _ => rfl
 | n + 1, h => by simp only [isg]; rw [isg_congr n (fun i hi => h i (by omega)), h n (by omega)]
theorem isg_first (f : Nat → Int) : ∀ n, isg (n + 1) f = f 0 + isg n (fun i => f (i + 1))
 | 0 => by simp [isg]
 | n + 1 => by
   have := isg_first f n
   rw [show isg (n + 1 + 1) f = isg (n + 1) f + f (n + 1) from rfl, this]
   show _ = f 0 + (isg n (fun i => f (i + 1)) + f (n + 1))
   omega
theorem isum_isg : ∀ (l : List Int), isum l = isg l.length (fun i => l.getD i 0)
 | [] => rfl
 | z :: l => by
   rw [List.length_cons, isg_first]
   simp only [isum]
   rw [isum_isg l]
   rfl
theorem rsumA_of : ∀ (l : List Int) (t : Int), (∀ z ∈ l, 0 ≤ z) → t + isum l ≤ 1048576 → rsumA t l = t + isum l
 | [], t, _, _ => by simp [rsumA, isum]
 | z :: l, t, h, hs => by
   have h0 : ∀ l : List Int, (∀ z ∈ l, 0 ≤ z) → 0 ≤ isum l := by
    intro l hl
    induction l with
    | nil => simp [isum]
    | cons z l ih =>
      have := ih (fun y hy => hl y (List.mem_cons_of_mem _ hy))
      have := hl z (List.mem_cons_self)
      simp only [isum]
      omega
   have h1 := h0 l (fun y hy => h y (List.mem_cons_of_mem _ hy))
   have h2 := h z (List.mem_cons_self)
   simp only [isum] at hs
   unfold rsumA
   rw [if_neg (by omega), rsumA_of l (t + z) (fun y hy => h y (List.mem_cons_of_mem _ hy)) (by omega)]
   simp only [isum]
   omega
section
variable {L1 L2 : List (List Int)}
end

/- Deterministic channels, plainly. -/

section
variable {n : Nat} {a b : Nat → Nat} {t u : Int}
theorem sm_at (f : Nat → Rat) (c : Nat) : ∀ n, sm n (fun y => (if y = c then f y else 0)) = if c < n then f c else 0
 | 0 => by rw [if_neg (Nat.not_lt_zero c)]; rfl
 | n + 1 => by
   rw [sm_succ, sm_at f c n]
   by_cases h : c < n
   ·rw [if_pos h, if_neg (by omega : ¬ n = c), if_pos (by omega : c < n + 1)]; grind
   ·by_cases e : n = c
    ·subst e
     rw [if_neg (Nat.lt_irrefl n), if_pos rfl, if_pos (by omega)]; grind
    ·rw [if_neg h, if_neg e, if_neg (by omega)]; grind
end
end Go.Proofs.YtdambnieminnfaaGreat

/- Lists of integers that a call makes; lists of these that grow by append. -/
namespace Go.Proofs.YtdambnieminnfaaGreat
open Go.RowKit

/-- A block of integers. -/
def RowI (w : World) (g : Nat) (zs : List Int) : Prop := Loc w g 3 (zs.map (Value.int .i64)).toArray
/-- A list of integers that is a block of its own. -/
def IntsO (w : World) (u : Value) (zs : List Int) : Prop := ∃ g, u = .slice (some ⟨g, 0, none⟩) zs.length zs.length ∧ RowI w g zs ∧ ∀ z ∈ zs, -9223372036854775808 ≤ z ∧ z ≤ 9223372036854775807
section
variable {w w' : World} {g base : Nat} {u v : Value} {zs : List Int} {us : List Value} {L : List (List Int)}
theorem add0 (g i : Nat) : (⟨g, 0, none⟩ : Addr).add i = ⟨g, i, none⟩ := by simp [Addr.add]; intro h; omega
theorem RowI.cell (h : RowI w g zs) {i : Nat} {z : Int} (hz : zs[i]? = some z) : w.cell? ⟨g, i, none⟩ = some (.int .i64 z) := by
 rw [Loc.cell h, List.getElem?_toArray, List.getElem?_map, hz]
 rfl
theorem RowI.lt (h : RowI w g zs) : g < w.heap.size := Loc.lt h
theorem RowI.below (h : RowI w g zs) (hb : Below w.heap.size w w') : RowI w' g zs := Loc.below h hb
theorem RowI.set (h : RowI w g zs) (i : Nat) (z : Int) : RowI (w.setCell ⟨g, i, none⟩ (.int .i64 z)) g (zs.set i z) := by
 have := Loc.set h i (.int .i64 z)
 unfold RowI
 rw [List.map_set, ← List.setIfInBounds_toArray]
 exact this
theorem IntsO.vals (h : IntsO w u zs) (hl : zs.length ≤ maxLen) : IntsV w u zs := by
 obtain ⟨g, rfl, hr, hz⟩ := h
 exact ⟨_, _, rfl, Nat.le_refl _, hl, fun _ => ⟨_, rfl, hr.lt, fun i z h => by rw [add0]; exact hr.cell h⟩, hz⟩
theorem IntsO.below (h : IntsO w u zs) (hb : Below w.heap.size w w') : IntsO w' u zs := by
 obtain ⟨g, rfl, hr, hz⟩ := h
 exact ⟨g, rfl, hr.below hb, hz⟩
theorem IntsO.other (h : IntsO w u zs) (hown : Own1 w base 38 v us) (hg : w.grownBy w' v.ownBlock) : IntsO w' u zs := by
 obtain ⟨g, rfl, hr, hz⟩ := h
 exact ⟨g, rfl, loc_other hown hg hr (by decide), hz⟩
theorem loc_ne {w : World} {g h : Nat} {t t' : TypeId} {cs cs' : Array Value} (L : Loc w g t cs) (L' : Loc w h t' cs') (hne : t ≠ t') : g ≠ h := fun e => by
 subst e
 unfold Loc at L L'
 rw [L] at L'
 injection L' with L'
 injection L' with e1 e2
 exact hne e2
theorem IntsO.far {t : TypeId} {cs : Array Value} {h0 : Nat} (h : IntsO w u zs) (L : Loc w h0 t cs) (ht : 3 ≠ t) (i : Nat) (x : Value) : IntsO (w.setCell ⟨h0, i, none⟩ x) u zs := by
 obtain ⟨g, rfl, hr, hz⟩ := h
 exact ⟨g, rfl, Loc.far hr (p := ⟨h0, i, none⟩) (loc_ne hr L ht) x, hz⟩
theorem Own1.far {h0 : Nat} {e : TypeId} (h : Own1 w base e v us) (hb : h0 < base) (i : Nat) (x : Value) : Own1 (w.setCell ⟨h0, i, none⟩ x) base e v us :=
 Own1.keep h ((Keep.refl (fun b => b = h0) w).set (.inl rfl) _) (fun g hg e => by have := (Own1.lt h hg).2; omega)
/-- A list of such lists. -/
theorem Own1.imat (h : Own1 w base 38 v us) (hl : us.length = L.length) (hm : L.length ≤ maxLen) (hu : ∀ (i : Nat) (u : Value) (l : List Int), us[i]? = some u → L[i]? = some l → IntsO w u l ∧ l.length ≤ maxLen) : IMat w v L := by
 have h0 := h.1
 rcases h.2 with ⟨rfl, hn⟩ | ⟨g, cap, cur, rfl, h3, hg, h1, h2, hsz, htake⟩
 ·refine ⟨none, 0, by rw [← hl, hn], by omega, Nat.zero_le _, fun h => absurd ?_ h⟩
  omega
 ·refine ⟨_, _, by rw [← hl], by omega, h2, fun _ => ⟨_, rfl, (Array.getElem?_eq_some_iff.1 hg).1, fun i l he => ?_⟩⟩
  have hi := (List.getElem?_eq_some_iff.1 he).1
  have hui := List.getElem?_eq_getElem (l := us) (i := i) (by omega)
  obtain ⟨ho, hlm⟩ := hu i _ l hui he
  have hc := World.ownsRow.cellAt h i (by omega)
  obtain ⟨gi, e, hr, hz⟩ := ho
  refine ⟨some ⟨gi, 0, none⟩, l.length, ?_, IntsO.vals ⟨gi, rfl, hr, hz⟩ hlm⟩
  rw [add0, hc, hui, e]
/-- A list of lists of integers that a call has made. -/
def IMatO (w : World) (v : Value) (L : List (List Int)) : Prop :=
 ∃ (base : Nat) (us : List Value), Own1 w base 38 v us ∧ us.length = L.length ∧ L.length ≤ maxLen ∧ ∀ (i : Nat) (u : Value) (l : List Int), us[i]? = some u → L[i]? = some l → IntsO w u l ∧ l.length ≤ maxLen
theorem IMatO.imat (h : IMatO w v L) : IMat w v L := by
 obtain ⟨base, us, h1, h2, h3, h4⟩ := h
 exact h1.imat h2 h3 h4
theorem IMatO.op (h : IMatO w v L) : ∃ (A : Option Addr) (cap : Nat), v = .slice A L.length cap ∧ IMatO w (.slice A L.length cap) L := by
 obtain ⟨A, cap, rfl, -⟩ := h.imat.op
 exact ⟨A, cap, rfl, h⟩
theorem IMatO.below (h : IMatO w v L) (hb : Below w.heap.size w w') : IMatO w' v L := by
 obtain ⟨base, us, h1, h2, h3, h4⟩ := h
 exact ⟨base, us, h1.below hb, h2, h3, fun i u l hu hl => ⟨(h4 i u l hu hl).1.below hb, (h4 i u l hu hl).2⟩⟩
theorem IMatO.far {t : TypeId} {cs : Array Value} {h0 : Nat} (h : IMatO w v L) (L0 : Loc w h0 t cs) (ht : 3 ≠ t) (ht2 : 38 ≠ t) (i : Nat) (x : Value) : IMatO (w.setCell ⟨h0, i, none⟩ x) v L := by
 obtain ⟨base, us, h1, h2, h3, h4⟩ := h
 refine ⟨base, us, Own1.keep h1 ((Keep.refl (fun b => b = h0) w).set (.inl rfl) _) (fun g hg e => ?_), h2, h3, fun j u l hu hl => ⟨(h4 j u l hu hl).1.far L0 ht i x, (h4 j u l hu hl).2⟩⟩
 rcases h1.2 with ⟨h', _⟩ | ⟨g', cap', cur, h', _, hg', _⟩
 ·rw [h'] at hg; cases hg
 ·rw [h'] at hg
  injection hg with hg
  subst hg
  exact loc_ne hg' L0 ht2 e
end
/-- make([]int, n). -/
theorem rowI_zeros {w : World} {base g n : Nat} (h : w.ownsRow base 3 1 (.slice (some ⟨g, 0, none⟩) n n) n (List.replicate n (.int .i64 0))) : RowI w g (List.replicate n 0) := by
 have hl := h.1
 rcases h.2 with ⟨h', _⟩ | ⟨g', cap', cur, h', _, hg, _, _, hsz, htake⟩
 ·simp at h'
 ·simp only [Value.slice.injEq, Option.some.injEq, Addr.mk.injEq, and_true, true_and] at h'
  obtain ⟨rfl, rfl⟩ := h'
  have : cur.toList = List.replicate n (.int .i64 0) := by
   rw [← htake, List.take_of_length_le (by simp; omega)]
  unfold RowI Loc
  rw [hg, List.map_replicate, ← this]

/- Channels of one row with one number, plainly. -/

def unit (n i : Nat) : List Int := (List.replicate n 0).set i 1
theorem unit_len (n i : Nat) : (unit n i).length = n := by simp [unit]
theorem unit_getD {n i y : Nat} (hi : i < n) (hy : y < n) : (unit n i).getD y 0 = if y = i then 1 else 0 := by
 unfold unit
 rw [List.getD_eq_getElem?_getD, List.getElem?_set]
 by_cases h : i = y
 ·subst h; simp [hi]
 ·rw [if_neg h, if_neg (fun e => h e.symm), List.getElem?_replicate, if_pos hy]; rfl
theorem unit_mem {n i : Nat} {z : Int} (h : z ∈ unit n i) : z = 0 ∨ z = 1 := by
 unfold unit at h
 rcases List.mem_or_eq_of_mem_set h with h | h
 ·exact .inl (List.eq_of_mem_replicate h)
 ·exact .inr h
theorem isg_at (c : Nat) : ∀ n, isg n (fun y => (if y = c then (1 : Int) else 0)) = if c < n then 1 else 0
 | 0 => by rw [if_neg (Nat.not_lt_zero c)]; rfl
 | n + 1 => by
   simp only [isg]
   rw [isg_at c n]
   by_cases h : c < n
   ·rw [if_pos h, if_neg (by omega : ¬ n = c), if_pos (by omega : c < n + 1)]; rfl
   ·by_cases e : n = c
    ·rw [if_neg h, if_pos e, if_pos (by omega)]; rfl
    ·rw [if_neg h, if_neg e, if_neg (by omega)]; rfl
theorem unit_sum {n i : Nat} (hi : i < n) : isum (unit n i) = 1 := by
 rw [isum_isg, unit_len, isg_congr (g := fun y => if y = i then (1 : Int) else 0) n (fun y hy => unit_getD hi hy), isg_at, if_pos hi]
theorem unit_rsum {n i : Nat} (hi : i < n) : rsumA 0 (unit n i) = 1 := by
 rw [rsumA_of _ _ (fun z hz => by rcases unit_mem hz with h | h <;> omega) (by rw [unit_sum hi]; decide), unit_sum hi]; rfl
section
variable {n i n2 j : Nat}
theorem uni_wid : wid [unit n i] = n := unit_len n i
theorem uni_tot (hi : i < n) : tot [unit n i] = 1 := unit_rsum hi
theorem uni_vc (hi : i < n) (hn : n ≤ 256) : VC [unit n i] := by
 refine ⟨Nat.le_refl 1, Nat.le_of_ble_eq_true rfl, ?_, ?_, ?_, fun l hl => ?_⟩
 ·show 1 ≤ (unit n i).length; rw [unit_len]; omega
 ·show (unit n i).length ≤ 256; rw [unit_len]; omega
 ·show 1 ≤ rsumA 0 (unit n i); rw [unit_rsum hi]; decide
 ·rw [List.mem_singleton.1 hl]; exact ⟨rfl, rfl⟩
theorem uni_ce (hi : i < n) {y : Nat} (hy : y < n) : ce [unit n i] 0 y = if y = i then 1 else 0 := by
 have e : ce [unit n i] 0 y = (((unit n i).getD y 0 : Int) : Rat) := rfl
 rw [e, unit_getD hi hy]
 split <;> rfl
theorem uni_en (hi : i < n) {x y : Nat} (hx : x < 1) (hy : y < n) : en [unit n i] x y ≤ 1 := by
 obtain rfl : x = 0 := by omega
 have e : en [unit n i] 0 y = (unit n i).getD y 0 := rfl
 rw [e, unit_getD hi hy]
 split <;> decide
theorem uni_sz (hi : i < n) (hj : j < n2) : SZ [unit n i] [unit n2 j] := fun _ _ _ _ hM =>
 ⟨1, by decide, fun x y hx hy => by rw [uni_tot hj, Int.one_mul]; exact uni_en hi hx (by rw [uni_wid] at hy; exact hy), fun x y hx hy => by rw [uni_tot hi, Int.one_mul]; exact uni_en hj hx (by rw [uni_wid] at hy; exact hy), by
  refine pow_bits (e := 8) (k := 44) ?_ (by omega)
  have : 2 * ((neq [unit n i] [unit n2 j] + 1) * 1) ≤ 2 * 81 := by omega
  exact Nat.le_trans this (by decide)⟩
theorem uni_wit (hi : i < n) (hn : n ≤ 256) (hj : j < n2) (hn2 : n2 ≤ 256) : WIT [unit n i] [unit n2 j] (wid [unit n i]) (fun _ => wid [unit n2 j]) (fun _ z => if z = j then 1 else 0) := by
 refine wit_in (uni_vc hi hn) (uni_vc hj hn2) rfl ?_
 rw [uni_wid, uni_wid, uni_tot hi, uni_tot hj]
 refine ⟨fun y hy z hz => by split <;> grind, fun y hy => ?_, fun x hx z hz => ?_⟩
 ·rw [sm_at (fun _ => (1 : Rat)), if_pos hj]
 ·obtain rfl : x = 0 := by simp at hx; exact hx
  rw [uni_ce hj hz, sm_congr (g := fun y => if y = i then (if z = j then (1 : Rat) else 0) else 0) (fun y hy => by rw [uni_ce hi hy]; split <;> grind), sm_at (fun _ => (if z = j then (1 : Rat) else 0)), if_pos hi]
theorem uni_neq : neq [unit n i] [unit n2 j] = n2 + n := by
 unfold neq
 rw [uni_wid, uni_wid]
 simp
/-- What Decide answers. -/
theorem uni_dec (hi : i < n) (hn : n ≤ 256) (hj : j < n2) (hn2 : n2 ≤ 256) {code : Int} {q : Bool} {m Kn : Nat} {F G : Nat → Nat → Rat} (h : DecSays [unit n i] [unit n2 j] code q m F Kn G) :
 (80 < n * n2 ∨ 80 < n + n2 → code = 4 ∧ q = false) ∧ (¬ (80 < n * n2 ∨ 80 < n + n2) → code = 0 ∧ q = true ∧ m = n ∧ WIT [unit n i] [unit n2 j] m (fun _ => n2) F) := by
 have v1 := uni_vc hi hn
 have v2 := uni_vc hj hn2
 refine ⟨fun hb => ?_, fun hb => ?_⟩
 ·have hc := h.2.2.1 ⟨v1, v2⟩ rfl (by rw [uni_wid, uni_wid, uni_neq]; omega)
  exact ⟨hc, (h.2.2.2.2.2 (by omega)).1⟩
 ·have hc := h.2.2.2.1 ⟨v1, v2⟩ rfl (by rw [uni_wid, uni_wid, uni_neq]; omega)
  subst hc
  have hq := dec_true h (uni_wit hi hn hj hn2)
  refine ⟨rfl, hq, ?_, ?_⟩
  ·have := (h.2.2.2.2.1 rfl).2.1 hq
   rw [uni_wid] at this
   exact this
  ·rcases (h.2.2.2.2.1 rfl).1 with h | h
   ·have := h.2.2
    rw [uni_wid] at this
    exact this
   ·rw [hq] at h; cases h.1
/-- A channel of one row in memory. -/
theorem imat_one {w : World} {gl gr : Nat} {l : List Int} (h1 : Loc w gl 38 #[.slice (some ⟨gr, 0, none⟩) l.length l.length]) (h2 : RowI w gr l) (hm : l.length ≤ maxLen) (hz : ∀ z ∈ l, -9223372036854775808 ≤ z ∧ z ≤ 9223372036854775807) : IMat w (.slice (some ⟨gl, 0, none⟩) 1 1) [l] := by
 refine ⟨_, _, rfl, Nat.le_refl _, by unfold maxLen; simp, fun _ => ⟨_, rfl, h1.lt, fun i l' hl => ?_⟩⟩
 match i, hl with
 | 0, hl =>
   simp at hl
   subst hl
   exact ⟨_, _, by rw [add0]; exact Loc.cell h1 0, IntsO.vals ⟨gr, rfl, h2, hz⟩ hm⟩
end
end Go.Proofs.YtdambnieminnfaaGreat

/- The law's side of layer 40: stochastic. -/
namespace Go.Proofs.YtdambnieminnfaaGreat
open Go.RowKit
attribute [local go_sem ↓] Go.wp_at_zero Go.wp_at_succ

theorem z4_any (k : Nat) (w : World) (X : Nat → Prop) : RatL k w X (.agg #[.bool false, .slice none 0 0, .bool false, .slice none 0 0]) 0 :=
 ⟨false, [], false, [], ⟨none, 0, none, 0, rfl, ⟨_, rfl, Words.nil _ _⟩, ⟨_, rfl, Words.nil _ _⟩⟩, Nat.zero_le _, Nat.zero_le _, rfl⟩

set_option maxRecDepth 100000 in
set_option maxHeartbeats 16000000 in
theorem lstochastic_any (w : World) (v : Value) (m k : Nat) (N : Nat → Nat) (F : Nat → Nat → Rat) (h : Mat k w (fun _ => False) v m N F) (hm : m ≤ 200) (hN : ∀ i, i < m → N i ≤ 200) (hk1 : 1 ≤ k) (hk2 : k ≤ 2000) :
 Calls Tryz.prog 32 #[v] w fun e w' => Tells (STO m N F) e ∧ Below w.heap.size w w' := by
 have H := Lib.hid h
 have HNN := Lib.hid hN
 have HFZ := Lib.hid (h.rsz hk1)
 obtain ⟨A, cA, rfl, -, l1, l2⟩ := h.op
 by_cases hm0 : m = 0
 case pos =>
  have HV : Hid (¬ STO m N F) := fun h => by have := h.1.1; omega
  have d1 : ((m : Int) == 0) = true := beq_iff_eq.2 (by omega)
  clear h hN hm0
  go_enter Tryz.func32, Tryz.ntmps32
  go_wp2_with fail
  go_ret
  exact ⟨Tells.no HV.out, bel⟩
 have hm1 : 0 < m := by omega
 have d1 : ((m : Int) == 0) = false := beq_eq_false_iff_ne.2 (by omega)
 have i1 : (0 : Int) < (m : Int) := by omega
 obtain ⟨a0, D0, d0, rfl, hab0, -, hcell0, -, lc0, -⟩ := Mat.at h hm1
 rw [addr_zero] at hcell0
 obtain ⟨n0, hn0⟩ : ∃ n0, N 0 = n0 := ⟨_, rfl⟩
 rw [hn0] at hcell0 lc0
 have HN0 := Lib.hid hn0
 have hn200 : n0 ≤ 200 := by rw [← hn0]; exact hN 0 hm1
 clear h hN hn0 hm0
 by_cases hz : n0 = 0
 case pos =>
  have HV : Hid (¬ STO m N F) := fun h => by have := h.1.2.1; rw [HN0.out] at this; omega
  have d2 : ((n0 : Int) == 0) = true := beq_iff_eq.2 (by omega)
  clear hz
  go_enter Tryz.func32, Tryz.ntmps32
  go_wp2_with fail
  go_ret
  exact ⟨Tells.no HV.out, bel⟩
 have d2 : ((n0 : Int) == 0) = false := beq_eq_false_iff_ne.2 (by omega)
 have HSTO : Hid (STO m N F ↔ ∀ i, i < m → N i = n0 ∧ (∀ j, j < N i → ¬ F i j < 0) ∧ sm (N i) (F i) = 1) := by
  show _ ↔ _
  unfold STO MX
  rw [HN0.out]
  exact ⟨fun h i hi => ⟨(h.1.2.2 i hi).1, (h.1.2.2 i hi).2, h.2 i hi⟩, fun h => ⟨⟨hm1, by omega, fun i hi => ⟨(h i hi).1, (h i hi).2.1⟩⟩, fun i hi => (h i hi).2.2⟩⟩
 clear hz
 go_enter Tryz.func32, Tryz.ntmps32
 go_wp2_with fail
 have HC0 : Hid (∀ W, Below w.heap.size w W → W.cell? a0 = some (.slice D0 n0 d0)) := fun W hW => cell_keep (X := fun _ => False) hcell0 hab0 id (.of_below hW)
 clear hcell0
 go_loopw [20] (fun i wr => ∃ (c : Nat), c ≤ m ∧ i = .int .i64 c ∧ Hid (∀ i, i < c → N i = n0 ∧ (∀ j, j < N i → ¬ F i j < 0) ∧ sm (N i) (F i) = 1) ∧ Below w.heap.size w wr) (fun i _ => m - (intOf i).toNat)
 case atStart => exact ⟨0, by omega, rfl, Lib.hid (fun i hi => absurd hi (by omega)), bel⟩
 case round =>
  obtain ⟨c, hc, rfl, hall, hB⟩ := hrel
  obtain ⟨wo, rfl⟩ : ∃ wo : World, wo = wr := ⟨_, rfl⟩
  have yo := hB.size; (try simp only [zs] at yo)
  by_cases hlt : c < m
  ·obtain ⟨a1, D1, e1, ea, hab1, -, hcell1, hnum1, lc1, lm1⟩ := Mat.at (Mat.keep H.out (.of_below hB)) hlt
   injection ea with ea
   subst ea
   obtain ⟨n1, hn1⟩ : ∃ n1, N c = n1 := ⟨_, rfl⟩
   obtain ⟨f1, hf1⟩ : ∃ f, F c = f := ⟨_, rfl⟩
   have hn2 : n1 ≤ 200 := by rw [← hn1]; exact HNN.out c hlt
   have HF1 : Hid (∀ j, j < n1 → Rsz k (f1 j)) := by
    show ∀ j, _ → _
    rw [← hf1, ← hn1]
    exact HFZ.out c hlt
   rw [hn1] at hcell1 lc1 hnum1
   rw [hf1] at hnum1
   have HN1 := Lib.hid hn1
   have HF := Lib.hid hf1
   have HNUM := Lib.hid hnum1
   have HSZ : Hid (∀ i, i ≤ n1 → Rsz 900000 (sm i f1)) := fun i hi => (sum_rsz HF1.out i hi).mono (by
    have : (k + 1) * i ≤ 2001 * 200 := Nat.mul_le_mul (by omega) (by omega)
    omega)
   have k0 : (0 : Int) ≤ (c : Int) := by omega
   have k1 : (c : Int) < (m : Int) := by omega
   have HBO := Lib.hid hB
   have M := made1 wo #[.bool false, .slice none 0 0, .bool false, .slice none 0 0] 60
   clear hn1 hf1 hnum1 hB
   go_wp2_with fail
   clear hcell1
   go_loopw [27] (fun i wr => ∃ (j : Nat) (q : R4), j ≤ n1 ∧ i = .int .i64 j ∧ Hid (∀ i, i < j → ¬ f1 i < 0) ∧ Loc wr wo.heap.size 60 #[.bool q.b, .slice q.A q.m q.c, .bool q.b', .slice q.A' q.m' q.c'] ∧ RatL 900000 wr (fun b => b = wo.heap.size) q.v (sm j f1) ∧ Below wo.heap.size wo wr) (fun i _ => n1 - (intOf i).toNat)
   case atStart => exact ⟨0, zR4, by omega, rfl, Lib.hid (fun i hi => absurd hi (by omega)), M, z4_any _ _ _, bel⟩
   case round =>
    obtain ⟨j, q, hj, rfl, hallj, T, s1, hBj⟩ := hrel
    obtain ⟨wj, rfl⟩ : ∃ wj : World, wj = wr := ⟨_, rfl⟩
    obtain ⟨b2, A2, m2, c2, b2', A2', m2', c2'⟩ := q
    unfold R4.v at s1
    dsimp only at T s1
    clear M
    have yj := hBj.size; (try simp only [zs] at yj)
    have q1 := T.lt
    by_cases hltj : j < n1
    ·obtain ⟨a8, b8, A8, m8, c8, b8', A8', m8', c8', rfl, hab8, -, x0, x1, x2, x3, r8⟩ := Nums.at (Nums.keep HNUM.out (.of_below hBj)) hltj
     replace x1 : wj.cell? ⟨(a8.add (j * 4)).block, (a8.add (j * 4)).off + 1, none⟩ = _ := x1
     replace x2 : wj.cell? ⟨(a8.add (j * 4)).block, (a8.add (j * 4)).off + 2, none⟩ = _ := x2
     replace x3 : wj.cell? ⟨(a8.add (j * 4)).block, (a8.add (j * 4)).off + 3, none⟩ = _ := x3
     have k2 : (0 : Int) ≤ (j : Int) := by omega
     have k3 : (j : Int) < (n1 : Int) := by omega
     obtain ⟨sg, hsg⟩ : ∃ s, (f1 j).num.sign = s := ⟨_, rfl⟩
     have HSG := Lib.hid hsg
     have HNEG : Hid (sg < 0 ↔ f1 j < 0) := by show _ ↔ _; rw [← hsg]; exact sign_neg_iff _
     have HE : Hid (sm (j + 1) f1 = sm j f1 + f1 j) := sm_succ _ _
     have HS1 := Lib.hid (HSZ.out (j + 1) (by omega))
     have T5 := made1 wj #[.bool b8, .slice A8 m8 c8, .bool b8', .slice A8' m8' c8'] 60
     clear hsg
     go_wp2_with fail
     refine (rsign_rat _ (fun _ => False) _ (f1 j) (RatL.to (r8.mono (by omega)))).mono ?_
     rintro e u1 ⟨he, hb1⟩
     rw [HSG.out] at he
     subst he
     have y1 := hb1.size; (try simp only [zs] at y1)
     clear x0 x1 x2 x3
     by_cases hs : sg < 0
     ·have HV : Hid (¬ STO m N F) := fun h => ((HSTO.out.1 h c hlt).2.1 j (by rw [HN1.out]; exact hltj)) (by rw [HF.out]; exact HNEG.out.1 hs)
      have d3 : decide (sg < 0) = true := decide_eq_true hs
      have HBF : Hid (Below w.heap.size w u1) := HBO.out.trans ((bel : Below wo.heap.size wo u1).mono yo)
      clear HNEG hs
      go_wp2_with fail
      go_ret
      exact ⟨Tells.no HV.out, HBF.out⟩
     ·have HV : Hid (¬ f1 j < 0) := fun h => hs (HNEG.out.2 h)
      have d3 : decide (sg < 0) = false := decide_eq_false hs
      have T1 : Loc u1 wo.heap.size _ _ := T.to
      have T6 : Loc u1 wj.heap.size _ _ := T5.to
      obtain ⟨e7, f7, l7⟩ := T1.all (w' := u1)
      obtain ⟨e8, f8, l8⟩ := T6.all (w' := u1)
      clear HNEG hs
      go_wp2_with fail
      refine (radd_rat _ (fun _ => False) _ _ (sm j f1) (f1 j) (RatL.to (s1.mono (by omega))) (RatL.to (r8.mono (by omega)))).mono ?_
      rintro e u2 ⟨v2, rfl, i2, hb2⟩
      rw [← HE.out] at i2
      have y2 := hb2.size; (try simp only [zs] at y2)
      obtain ⟨b9, A9, m9, c9, b9', A9', m9', c9', rfl, i2, -, -⟩ := i2.op
      clear e7 f7 e8 f8
      have T2 : Loc u2 wo.heap.size _ _ := T1.to
      obtain ⟨e7, f7, l7'⟩ := T2.all (w' := u2)
      go_wp2_with fail
      go_roundw
      case rel =>
       refine ⟨j + 1, ⟨b9, A9, m9, c9, b9', A9', m9', c9'⟩, by omega, by go_num, Lib.hid (fun i hi => ?_), Loc.fill4 T2, RatV.len (RatV.out i2) HS1.out, bel⟩
       by_cases hij : i < j
       ·exact hallj.out i hij
       ·obtain rfl : i = j := by omega
        exact HV.out
      case measure => simp only [intOf]; omega
    ·obtain rfl : j = n1 := by omega
     have HSS : Hid (∀ W, Below wj.heap.size wj W → W.cell? a0 = some (.slice D0 n0 d0) ∧ (W.cell? ⟨wo.heap.size, 0, none⟩ = some (.bool b2) ∧ W.cell? ⟨wo.heap.size, 1, none⟩ = some (.slice A2 m2 c2)) ∧ W.cell? ⟨wo.heap.size, 2, none⟩ = some (.bool b2') ∧ W.cell? ⟨wo.heap.size, 3, none⟩ = some (.slice A2' m2' c2')) := fun W hW =>
      ⟨HC0.out W (HBO.out.trans ((hBj.trans (hW.mono yj)).mono yo)), ⟨Loc.cell (T.below hW) 0, Loc.cell (T.below hW) 1⟩, Loc.cell (T.below hW) 2, Loc.cell (T.below hW) 3⟩
     have HBF : Hid (∀ W, Below wj.heap.size wj W → Below w.heap.size w W) := fun W hW => HBO.out.trans ((hBj.trans (hW.mono yj)).mono yo)
     by_cases hne : j = n0
     case neg =>
      have HV : Hid (¬ STO m N F) := fun h => hne (by rw [← HN1.out]; exact (HSTO.out.1 h c hlt).1)
      have d3 : ((j : Int) == (n0 : Int)) = false := beq_eq_false_iff_ne.2 (by omega)
      have d4 : ((j : Int) != (n0 : Int)) = true := bne_iff_ne.2 (by omega)
      clear hne
      go_wp2_with fail
      refine wp_region_noPanic ?_
      refine wp_region_held_drew (S := (fun W => W.cell? a0 = some (.slice D0 n0 d0) ∧ (W.cell? ⟨wo.heap.size, 0, none⟩ = some (.bool b2) ∧ W.cell? ⟨wo.heap.size, 1, none⟩ = some (.slice A2 m2 c2)) ∧ W.cell? ⟨wo.heap.size, 2, none⟩ = some (.bool b2') ∧ W.cell? ⟨wo.heap.size, 3, none⟩ = some (.slice A2' m2' c2'))) (by kernel_rfl) ?_ (fun hHeld => ?_)
      ·exact HSS.out _ bel
      refine takeT 0 hHeld ?_
      (try simp only [Act.put, ly])
      refine takeT 1 hHeld ?_
      (try simp only [Act.put, ly])
      refine takeT 2 hHeld ?_
      (try simp only [Act.put, ly])
      refine takeT 3 hHeld ?_
      (try simp only [Act.put, ly])
      refine takeT 4 hHeld ?_
      (try simp only [Act.put, ly])
      refine takeT 5 hHeld ?_
      (try simp only [Act.put, ly])
      refine takeT 6 hHeld ?_
      (try simp only [Act.put, ly])
      refine takeT 7 hHeld ?_
      (try simp only [Act.put, ly])
      refine offT 8 hHeld ?_
      refine offT 9 hHeld ?_
      refine offT 10 hHeld ?_
      refine offT 11 hHeld ?_
      (try simp only [Act.put, ly])
      refine takeT 12 hHeld ?_
      (try simp only [Act.put, ly])
      refine wpAnyH_done (by kernel_rfl) ?_ _
      refine NoPanic.normal ?_
      go_wp2_with fail
      go_ret
      exact ⟨Tells.no HV.out, HBF.out _ bel⟩
     have HNE := Lib.hid hne
     have d3 : ((j : Int) == (n0 : Int)) = true := beq_iff_eq.2 (by omega)
     have d4 : ((j : Int) != (n0 : Int)) = false := by simp only [bne, d3]; rfl
     obtain ⟨q, hq⟩ : ∃ q, rcmp (sm j f1) ((1 : Int) : Rat) = q := ⟨_, rfl⟩
     have HQ := Lib.hid hq
     have HZ : Hid (q = 0 ↔ sm j f1 = 1) := by show _ ↔ _; rw [← hq]; exact rcmp_zero _ _
     clear hne hq
     go_upto_region 14 with fail
     go_cut [50] from 38 to 51 (fun v W => v = .bool (q != 0) ∧ Below wj.heap.size wj W)
     case first =>
      go_wp2_with fail
      refine wp_region_noPanic ?_
      refine wp_region_held_drew (S := (fun W => W.cell? a0 = some (.slice D0 n0 d0) ∧ (W.cell? ⟨wo.heap.size, 0, none⟩ = some (.bool b2) ∧ W.cell? ⟨wo.heap.size, 1, none⟩ = some (.slice A2 m2 c2)) ∧ W.cell? ⟨wo.heap.size, 2, none⟩ = some (.bool b2') ∧ W.cell? ⟨wo.heap.size, 3, none⟩ = some (.slice A2' m2' c2'))) (by kernel_rfl) ?_ (fun hHeld => ?_)
      ·exact HSS.out _ bel
      refine takeT 0 hHeld ?_
      (try simp only [Act.put, ly])
      refine takeT 1 hHeld ?_
      (try simp only [Act.put, ly])
      refine takeT 2 hHeld ?_
      (try simp only [Act.put, ly])
      refine takeT 3 hHeld ?_
      (try simp only [Act.put, ly])
      refine takeT 4 hHeld ?_
      (try simp only [Act.put, ly])
      refine takeT 5 hHeld ?_
      (try simp only [Act.put, ly])
      refine takeT 6 hHeld ?_
      (try simp only [Act.put, ly])
      refine takeT 7 hHeld ?_
      (try simp only [Act.put, ly])
      refine takeT 8 hHeld ?_
      (try simp only [Act.put, ly])
      refine wpAnyH_ready (rs := [9]) (by kernel_rfl) (by simp) ?_
      refine AllReadyH.cons rfl (fun K hK => ?_) AllReadyH.nil
      go_simp
      refine (lwhole_any _ 1 (by decide) (by decide)).mono ?_
      rintro e u1 ⟨v1, rfl, j1, hb1⟩
      obtain ⟨b11, A11, m11, c11, b11', A11', m11', c11', rfl, j1, -, -⟩ := j1.op
      have y11 := hb1.size; (try simp only [zs] at y11)
      (try go_wp2_with fail)
      refine hK.out _ _ ?_ (fun hHeld => ?_)
      ·(try dsimp only)
       exact HSS.out _ bel
      clear hK K
      (try simp only [Act.put, ly])
      refine wpAnyH_ready (rs := [10]) (by kernel_rfl) (by simp) ?_
      refine AllReadyH.cons rfl (fun K hK => ?_) AllReadyH.nil
      go_simp
      refine (rcompare_rat _ (fun _ => False) _ _ (sm j f1) ((1 : Int) : Rat) (RatL.to (s1.mono (by omega))) (RatL.to (j1.len ((rsz_int (z := 1) (by decide) (by decide)).mono (by omega))))).mono ?_
      rintro e u2 ⟨he, hb2⟩
      rw [HQ.out] at he
      subst he
      have y12 := hb2.size; (try simp only [zs] at y12)
      (try go_wp2_with fail)
      refine hK.out _ _ ?_ (fun hHeld => ?_)
      ·(try dsimp only)
       exact HSS.out _ bel
      clear hK K
      (try simp only [Act.put, ly])
      refine takeT 11 hHeld ?_
      (try simp only [Act.put, ly])
      refine takeT 12 hHeld ?_
      (try simp only [Act.put, ly])
      refine wpAnyH_done (by kernel_rfl) ?_ _
      refine NoPanic.normal ?_
      go_wp2_with fail
      go_meet
      exact ⟨rfl, bel⟩
     case rest =>
      obtain ⟨rfl, hB9⟩ := hcut
      obtain ⟨w9, rfl⟩ : ∃ w9 : World, w9 = wc := ⟨_, rfl⟩
      have HB9 := Lib.hid (HBF.out _ hB9)
      by_cases h0 : q = 0
      ·have HV := Lib.hid (HZ.out.1 h0)
       have d5 : (q == 0) = true := beq_iff_eq.2 h0
       have d6 : (q != 0) = false := by simp only [bne, d5]; rfl
       clear HZ h0
       go_wp2_with fail
       go_roundw
       case rel =>
        refine ⟨c + 1, by omega, by go_num, Lib.hid (fun i hi => ?_), HB9.out⟩
        by_cases hic : i < c
        ·exact hall.out i hic
        ·obtain rfl : i = c := by omega
         rw [HN1.out, HF.out]
         exact ⟨HNE.out, hallj.out, HV.out⟩
       case measure => simp only [intOf]; omega
      ·have HV : Hid (¬ STO m N F) := fun h => h0 (HZ.out.2 (by have := (HSTO.out.1 h c hlt).2.2; rw [HN1.out, HF.out] at this; exact this))
       have d5 : (q == 0) = false := beq_eq_false_iff_ne.2 h0
       have d6 : (q != 0) = true := bne_iff_ne.2 h0
       clear HZ h0
       go_wp2_with fail
       go_ret
       exact ⟨Tells.no HV.out, HB9.out⟩
  ·obtain rfl : c = m := by omega
   have HV : Hid (STO c N F) := HSTO.out.2 hall.out
   go_wp2_with fail
   go_ret
   exact ⟨Tells.yes HV.out, hB⟩
end Go.Proofs.YtdambnieminnfaaGreat

