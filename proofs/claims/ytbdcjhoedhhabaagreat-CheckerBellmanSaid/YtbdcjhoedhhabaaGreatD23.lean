/- Contracts of the functions that the statements reach, part 23. -/
import Derived.Test.YtbdcjhoedhhabaaGreatRows
import Derived.Test.YtbdcjhoedhhabaaGreatD21
import Derived.Test.YtbdcjhoedhhabaaGreatD22
set_option linter.unusedSimpArgs false
set_option linter.unusedVariables false

/- Lists of one-cell elements that grow by append. -/
namespace Go.Proofs.YtbdcjhoedhhabaaGreat
open Go.RowKit

/-- A list of one-cell elements that lies in a block of its own, at or above base. -/
def Own1 (w : World) (base : Nat) (e : TypeId) (v : Value) (us : List Value) : Prop := w.ownsRow base e 1 v us.length us

section
variable {w w' : World} {base : Nat} {v : Value} {us : List Value} {X : Nat → Prop} {e : TypeId}
theorem Own1.nil (w : World) (base : Nat) (e : TypeId) : Own1 w base e (.slice none 0 0) [] := World.ownsRow_nil _ _ _ _
theorem Own1.lt (h : Own1 w base e v us) {g : Nat} (hg : v.ownBlock = some g) : g < w.heap.size ∧ base ≤ g := by
 rcases h.2 with ⟨h', _⟩ | ⟨g', cap', cur, h', hb, hg', _, _, hsz, htake⟩
 ·rw [h'] at hg; cases hg
 ·rw [h'] at hg; injection hg with hg; subst hg
  exact ⟨(Array.getElem?_eq_some_iff.1 hg').1, hb⟩
theorem Own1.below (h : Own1 w base e v us) (hb : Below w.heap.size w w') : Own1 w' base e v us := by
 refine ⟨h.1, ?_⟩
 rcases h.2 with ⟨h', hn⟩ | ⟨g', cap', cur, h', h3, hg', h1, h2, hsz, htake⟩
 ·exact .inl ⟨h', hn⟩
 ·exact .inr ⟨g', cap', cur, h', h3, by rw [hb.block g' (Array.getElem?_eq_some_iff.1 hg').1]; exact hg', h1, h2, hsz, htake⟩
theorem Own1.keep (h : Own1 w base e v us) (hb : Keep X w w') (hX : ∀ g, v.ownBlock = some g → ¬ X g) : Own1 w' base e v us := by
 refine ⟨h.1, ?_⟩
 rcases h.2 with ⟨h', hn⟩ | ⟨g', cap', cur, h', h3, hg', h1, h2, hsz, htake⟩
 ·exact .inl ⟨h', hn⟩
 ·exact .inr ⟨g', cap', cur, h', h3, by rw [hb.block g' (Array.getElem?_eq_some_iff.1 hg').1 (hX g' (by rw [h']; rfl))]; exact hg', h1, h2, hsz, htake⟩
/-- The shape of such a list that is not empty. -/
theorem Own1.op (h : Own1 w base e v us) : (v = .slice none 0 0 ∧ us = []) ∨ ∃ (g cap : Nat) (cur : Array Value), v = .slice (some ⟨g, 0, none⟩) us.length cap ∧ base ≤ g ∧ us.length ≤ cap ∧ Loc w g e cur ∧ ∀ (i : Nat) (u : Value), us[i]? = some u → cur[i]? = some u := by
 have hl := h.1
 rcases h.2 with ⟨h', hn⟩ | ⟨g', cap', cur, h', h3, hg', h1, h2, hsz, htake⟩
 ·exact .inl ⟨h', List.length_eq_zero_iff.1 hn⟩
 ·refine .inr ⟨g', cap', cur, h', h3, h1, hg', fun i u hu => ?_⟩
  have hi := (List.getElem?_eq_some_iff.1 hu).1
  rw [← htake, List.getElem?_take] at hu
  split at hu
  ·simpa using hu
  ·cases hu
end

theorem ValL.up {k j : Nat} {w : World} {X : Nat → Prop} {rs : List R4} {f : Nat → Rat} (h : ValL k w X rs f) (hj : k ≤ j) : ValL j w X rs f := fun i r hr => (h i r hr).mono hj
/-- The first d values are canonical. -/
def ValP (d : Nat) (w : World) (X : Nat → Prop) (rs : List R4) (f : Nat → Rat) : Prop := ∀ i r, i < d → rs[i]? = some r → RatV w X r.v (f i)
theorem ValP.keep {d : Nat} {w w' : World} {X : Nat → Prop} {rs : List R4} {f : Nat → Rat} (h : ValP d w X rs f) (hk : Keep X w w') : ValP d w' X rs f := fun i r hi hr => (h i r hi hr).keep hk
theorem ValP.zero (w : World) (X : Nat → Prop) (rs : List R4) (f : Nat → Rat) : ValP 0 w X rs f := fun i r hi _ => absurd hi (Nat.not_lt_zero i)
theorem ValP.set {d : Nat} {w : World} {X : Nat → Prop} {rs : List R4} {f : Nat → Rat} (h : ValP d w X rs f) {r : R4} (hr : RatV w X r.v (f d)) : ValP (d + 1) w X (rs.set d r) f := fun j q hj hq => by
 by_cases hjd : j = d
 ·subst hjd
  rw [List.getElem?_set] at hq
  split at hq
  ·split at hq
   ·injection hq with hq; subst hq; exact hr
   ·simp at hq
  ·exact absurd rfl ‹_›
 ·rw [List.getElem?_set_ne (fun e => hjd e.symm)] at hq
  exact h j q (by omega) hq
theorem ValP.all {d : Nat} {w : World} {X : Nat → Prop} {rs : List R4} {f : Nat → Rat} (h : ValP d w X rs f) (hd : rs.length = d) : ValV w X rs f := fun i r hr => h i r (by rw [← hd]; exact (List.getElem?_eq_some_iff.1 hr).1) hr

/-- One element appended. -/
theorem wp_push1 {o : Oper} {a : Act} {K : Act → World → Prop} {Q : Exit → Act → World → Prop} {t e : TypeId} {z : Value} {bytes : Nat} (w : World) (s x : Operand) (ho : o.op = .call { callee := .builtin .append, args := #[s, x], argTypes := #[t, t] })
 (ht : Tryz.prog.underlying t = some (.slice e)) (hE : (Tryz.prog.info? e).map (fun i => (i.zero, i.size, i.bytes)) = some (some z, 1, bytes)) (hzs : z.cells.size = 1) (hb : bytes ≤ 64)
 (base : Nat) (v : Value) (us : List Value) (hs : a.eval s = v) (hown : Own1 w base e v us) (H : Nat) (u : Value) (hx : a.eval x = .slice (some ⟨H, 0, none⟩) 1 1) (hH : w.heap[H]? = some (.cells #[u] e (0, 0))) (hu : u.oneCell' = true)
 (hn : us.length ≤ 1000) (hbase : base ≤ w.heap.size)
 (h : ∀ g cap w', Own1 w' base e (.slice (some ⟨g, 0, none⟩) (us.length + 1) cap) (us ++ [u]) → w.grownBy w' v.ownBlock → (v.ownBlock = some g ∨ g = w.heap.size) → g < w'.heap.size → K (a.put o.dst (.slice (some ⟨g, 0, none⟩) (us.length + 1) cap)) w') :
 Oper.wp Tryz.prog o a w K Q := by
 obtain ⟨i, hi, hz0, hz1, hz2⟩ := info_parts hE
 refine wp_append_lies w s x t ho base e i z 1 bytes ht hi hz0 hz1 hz2 hzs (by omega) v us.length us hs hown ⟨H, 0, none⟩ 1 1 [u] hx (by simp) (fun j u' hu' => World.news_of_block hH j u' (by simpa using hu')) (by simpa using hu) (by omega) (by unfold maxLen; omega) (by have := Nat.mul_le_mul (show us.length + 1 ≤ 1001 by omega) hb; omega) hbase _ rfl ?_
 intro g cap w' h1 h2 h3 h4
 refine h g cap w' ?_ h2 h3 h4
 unfold Own1
 rw [List.length_append]
 exact h1
theorem info_int1 : (Tryz.prog.info? 3).map (fun i => (i.zero, i.size, i.bytes)) = some (some (.int .i64 0), 1, 8) := by kernel_rfl

/- A block that holds no words, and that is no list's own, is no part of a list of fractions. -/

/-- No word of 32 bits. -/
def noW (u : Value) : Prop := ∀ z : Int, u ≠ .int .u32 z
/-- The list's own block, if it has one, is at or above B. -/
def Fr (B : Nat) (v : Value) : Prop := ∀ (a : Addr) (n c : Nat), v = .slice (some a) n c → B ≤ a.block

section
variable {w : World} {X : Nat → Prop} {g k n B : Nat} {t : TypeId} {cs : Array Value} {v : Value} {q : Rat} {f : Nat → Rat} {xs : List Nat} {neg : Bool}
theorem Loc.mem (L : Loc w g t cs) {a : Addr} {u : Value} (h : w.cell? a = some u) (ha : a.block = g) : u ∈ cs := by
 unfold World.cell? at h
 rw [ha, L] at h
 dsimp only at h
 split at h
 ·cases h
 ·exact Array.mem_of_getElem? h
theorem Words.off (h : Words w X v xs) (L : Loc w g t cs) (hc : ∀ u ∈ cs, noW u) : Words w (fun b => X b ∨ b = g) v xs := by
 obtain ⟨⟨A, c, hv, h1, h2, h3, h4⟩, h5⟩ := h
 refine ⟨⟨A, c, hv, h1, h2, h3, fun hn => ?_⟩, h5⟩
 obtain ⟨a, hA, hlt, hx, hcell⟩ := h4 hn
 refine ⟨a, hA, hlt, fun hy => ?_, hcell⟩
 rcases hy with hy | hy
 ·exact hx hy
 ·have h0 := hcell 0 _ (nums_get (k := .u32) (xs := xs) (i := 0) hn)
  have := L.mem h0 (by rw [addr_block]; exact hy)
  exact hc _ this _ rfl
theorem IntR.off (h : IntR w X v neg xs) (L : Loc w g t cs) (hc : ∀ u ∈ cs, noW u) : IntR w (fun b => X b ∨ b = g) v neg xs := by
 obtain ⟨a, b, h⟩ := h
 exact ⟨a, b, h.off L hc⟩
theorem RatL.off (h : RatL k w X v q) (L : Loc w g t cs) (hc : ∀ u ∈ cs, noW u) : RatL k w (fun b => X b ∨ b = g) v q := by
 obtain ⟨n1, xs, n2, ys, ⟨A, c, B, d, e, h1, h2⟩, h3⟩ := h
 exact ⟨n1, xs, n2, ys, ⟨A, c, B, d, e, h1.off L hc, h2.off L hc⟩, h3⟩
theorem Nums.off (h : Nums k w X v n f) (L : Loc w g t cs) (hc : ∀ u ∈ cs, noW u) (hf : Fr B v) (hg : g < B) : Nums k w (fun b => X b ∨ b = g) v n f := by
 obtain ⟨rs, A, cap, h1, h2, h3, h4, h5, h6⟩ := h
 refine ⟨rs, A, cap, h1, h2, h3, h4, fun hn => ?_, fun i r hr => (h6 i r hr).off L hc⟩
 obtain ⟨a, ea, hb, hX, hcell⟩ := h5 hn
 refine ⟨a, ea, hb, fun hy => ?_, hcell⟩
 rcases hy with hy | hy
 ·exact hX hy
 ·have := hf a n cap (by rw [h2, ea])
  omega
theorem Fr.nil (B : Nat) : Fr B (.slice none 0 0) := fun a n c h => by cases h
theorem Fr.own {g c : Nat} {A : Option Nat} (h : B ≤ g) : Fr B (.slice (some ⟨g, 0, A⟩) n c) := fun a n' c' e => by injection e with e; injection e with e; rw [← e]; exact h
theorem Fr.mono {B' : Nat} (h : Fr B v) (hB : B' ≤ B) : Fr B' v := fun a n c e => Nat.le_trans hB (h a n c e)
end

/- Lists of lists that grow; blocks of different types; facts whose kept-out blocks are told anew (as in Nl9, Nl11, which serve layer 8). -/

/-- A list of lists that lies in a block of its own, at or above base. -/
def OwnL (w : World) (base : Nat) (v : Value) (us : List Value) : Prop := w.ownsRow base 71 1 v us.length us
def isL (u : Value) : Prop := ∃ B p c, u = .slice B p c
theorem isL.one {u : Value} (h : isL u) : u.oneCell' = true := by
 obtain ⟨B, p, c, rfl⟩ := h; rfl
theorem OwnL.below {w w' : World} {base : Nat} {v : Value} {us : List Value} (h : OwnL w base v us) (hb : Below w.heap.size w w') : OwnL w' base v us := by
 refine ⟨h.1, ?_⟩
 rcases h.2 with ⟨h', hn⟩ | ⟨g', cap', cur, h', h3, hg', h1, h2, hsz, htake⟩
 ·exact .inl ⟨h', hn⟩
 ·exact .inr ⟨g', cap', cur, h', h3, by rw [hb.block g' (Array.getElem?_eq_some_iff.1 hg').1]; exact hg', h1, h2, hsz, htake⟩
section
variable {W W1 : World} {h base base2 sz sz2 n n2 k B : Nat} {t e e2 : TypeId} {cs : Array Value} {v v2 : Value} {xs xs2 : List Value} {rs : List R4} {f : Nat → Rat}
theorem loc_other (hown : W.ownsRow base e sz v n xs) (hg : W.grownBy W1 v.ownBlock) (L : Loc W h t cs) (hne : t ≠ e) : Loc W1 h t cs := by
 refine (hg.block h L.lt (fun eq => ?_)).trans L
 rcases hown.2 with ⟨rfl, _⟩ | ⟨g, cap, cur, rfl, _, hgg, _⟩
 ·cases eq
 ·injection eq with eq
  simp at eq
  subst eq
  unfold Loc at L
  rw [hgg] at L
  injection L with L
  injection L with e1 e2 e3
  exact hne e2.symm
end

section
variable {k n : Nat} {W W2 : World} {X Y : Nat → Prop} {v : Value} {q : Rat} {f : Nat → Rat} {rs : List R4}
theorem Keep.both (h : Keep X W W2) : Keep (fun b => X b ∨ Y b) W W2 := h.weak (fun _ _ h => .inl h)
theorem OwnL.keep {base : Nat} {us : List Value} (h : OwnL W base v us) (hb : Keep X W W2) (hX : ∀ g, v.ownBlock = some g → ¬ X g) : OwnL W2 base v us := by
 refine ⟨h.1, ?_⟩
 rcases h.2 with ⟨h', hn⟩ | ⟨g', cap', cur, h', h3, hg', h1, h2, hsz, htake⟩
 ·exact .inl ⟨h', hn⟩
 ·exact .inr ⟨g', cap', cur, h', h3, by rw [hb.block g' (Array.getElem?_eq_some_iff.1 hg').1 (hX g' (by rw [h']; rfl))]; exact hg', h1, h2, hsz, htake⟩
end

/- Lists of integers that a call makes; lists of these that grow by append. -/

/-- A block of integers. -/
def RowI (w : World) (g : Nat) (zs : List Int) : Prop := Loc w g 3 (zs.map (Value.int .i64)).toArray
/-- A list of integers that is a block of its own. -/
def IntsO (w : World) (u : Value) (zs : List Int) : Prop := ∃ g, u = .slice (some ⟨g, 0, none⟩) zs.length zs.length ∧ RowI w g zs ∧ ∀ z ∈ zs, -9223372036854775808 ≤ z ∧ z ≤ 9223372036854775807
section
variable {w w' : World} {g base : Nat} {u v : Value} {zs : List Int} {us : List Value} {L : List (List Int)}
theorem add0 (g i : Nat) : (⟨g, 0, none⟩ : Addr).add i = ⟨g, i, none⟩ := by simp [Addr.add]; intro h; omega
theorem RowI.cell (h : RowI w g zs) {i : Nat} {z : Int} (hz : zs[i]? = some z) : w.cell? ⟨g, i, none⟩ = some (.int .i64 z) := by
 rw [Loc.cell h, List.getElem?_toArray, List.getElem?_map, hz]
 rfl
theorem RowI.lt (h : RowI w g zs) : g < w.heap.size := Loc.lt h
theorem RowI.below (h : RowI w g zs) (hb : Below w.heap.size w w') : RowI w' g zs := Loc.below h hb
theorem RowI.set (h : RowI w g zs) (i : Nat) (z : Int) : RowI (w.setCell ⟨g, i, none⟩ (.int .i64 z)) g (zs.set i z) := by
 have := Loc.set h i (.int .i64 z)
 unfold RowI
 rw [List.map_set, ← List.setIfInBounds_toArray]
 exact this
theorem IntsO.vals (h : IntsO w u zs) (hl : zs.length ≤ maxLen) : IntsV w u zs := by
 obtain ⟨g, rfl, hr, hz⟩ := h
 exact ⟨_, _, rfl, Nat.le_refl _, hl, fun _ => ⟨_, rfl, hr.lt, fun i z h => by rw [add0]; exact hr.cell h⟩, hz⟩
theorem IntsO.below (h : IntsO w u zs) (hb : Below w.heap.size w w') : IntsO w' u zs := by
 obtain ⟨g, rfl, hr, hz⟩ := h
 exact ⟨g, rfl, hr.below hb, hz⟩
theorem IntsO.other (h : IntsO w u zs) (hown : Own1 w base 27 v us) (hg : w.grownBy w' v.ownBlock) : IntsO w' u zs := by
 obtain ⟨g, rfl, hr, hz⟩ := h
 exact ⟨g, rfl, loc_other hown hg hr (by decide), hz⟩
theorem loc_ne {w : World} {g h : Nat} {t t' : TypeId} {cs cs' : Array Value} (L : Loc w g t cs) (L' : Loc w h t' cs') (hne : t ≠ t') : g ≠ h := fun e => by
 subst e
 unfold Loc at L L'
 rw [L] at L'
 injection L' with L'
 injection L' with e1 e2
 exact hne e2
theorem IntsO.far {t : TypeId} {cs : Array Value} {h0 : Nat} (h : IntsO w u zs) (L : Loc w h0 t cs) (ht : 3 ≠ t) (i : Nat) (x : Value) : IntsO (w.setCell ⟨h0, i, none⟩ x) u zs := by
 obtain ⟨g, rfl, hr, hz⟩ := h
 exact ⟨g, rfl, Loc.far hr (p := ⟨h0, i, none⟩) (loc_ne hr L ht) x, hz⟩
theorem Own1.far {h0 : Nat} {e : TypeId} (h : Own1 w base e v us) (hb : h0 < base) (i : Nat) (x : Value) : Own1 (w.setCell ⟨h0, i, none⟩ x) base e v us :=
 Own1.keep h ((Keep.refl (fun b => b = h0) w).set (.inl rfl) _) (fun g hg e => by have := (Own1.lt h hg).2; omega)
/-- A list of such lists. -/
theorem Own1.imat (h : Own1 w base 27 v us) (hl : us.length = L.length) (hm : L.length ≤ maxLen) (hu : ∀ (i : Nat) (u : Value) (l : List Int), us[i]? = some u → L[i]? = some l → IntsO w u l ∧ l.length ≤ maxLen) : IMat w v L := by
 have h0 := h.1
 rcases h.2 with ⟨rfl, hn⟩ | ⟨g, cap, cur, rfl, h3, hg, h1, h2, hsz, htake⟩
 ·refine ⟨none, 0, by rw [← hl, hn], by omega, Nat.zero_le _, fun h => absurd ?_ h⟩
  omega
 ·refine ⟨_, _, by rw [← hl], by omega, h2, fun _ => ⟨_, rfl, (Array.getElem?_eq_some_iff.1 hg).1, fun i l he => ?_⟩⟩
  have hi := (List.getElem?_eq_some_iff.1 he).1
  have hui := List.getElem?_eq_getElem (l := us) (i := i) (by omega)
  obtain ⟨ho, hlm⟩ := hu i _ l hui he
  have hc := World.ownsRow.cellAt h i (by omega)
  obtain ⟨gi, e, hr, hz⟩ := ho
  refine ⟨some ⟨gi, 0, none⟩, l.length, ?_, IntsO.vals ⟨gi, rfl, hr, hz⟩ hlm⟩
  rw [add0, hc, hui, e]
/-- A list of lists of integers that a call has made. -/
def IMatO (w : World) (v : Value) (L : List (List Int)) : Prop :=
 ∃ (base : Nat) (us : List Value), Own1 w base 27 v us ∧ us.length = L.length ∧ L.length ≤ maxLen ∧ ∀ (i : Nat) (u : Value) (l : List Int), us[i]? = some u → L[i]? = some l → IntsO w u l ∧ l.length ≤ maxLen
theorem IMatO.imat (h : IMatO w v L) : IMat w v L := by
 obtain ⟨base, us, h1, h2, h3, h4⟩ := h
 exact h1.imat h2 h3 h4
theorem IMatO.op (h : IMatO w v L) : ∃ (A : Option Addr) (cap : Nat), v = .slice A L.length cap ∧ IMatO w (.slice A L.length cap) L := by
 obtain ⟨A, cap, rfl, -⟩ := h.imat.op
 exact ⟨A, cap, rfl, h⟩
theorem IMatO.below (h : IMatO w v L) (hb : Below w.heap.size w w') : IMatO w' v L := by
 obtain ⟨base, us, h1, h2, h3, h4⟩ := h
 exact ⟨base, us, h1.below hb, h2, h3, fun i u l hu hl => ⟨(h4 i u l hu hl).1.below hb, (h4 i u l hu hl).2⟩⟩
theorem IMatO.far {t : TypeId} {cs : Array Value} {h0 : Nat} (h : IMatO w v L) (L0 : Loc w h0 t cs) (ht : 3 ≠ t) (ht2 : 27 ≠ t) (i : Nat) (x : Value) : IMatO (w.setCell ⟨h0, i, none⟩ x) v L := by
 obtain ⟨base, us, h1, h2, h3, h4⟩ := h
 refine ⟨base, us, Own1.keep h1 ((Keep.refl (fun b => b = h0) w).set (.inl rfl) _) (fun g hg e => ?_), h2, h3, fun j u l hu hl => ⟨(h4 j u l hu hl).1.far L0 ht i x, (h4 j u l hu hl).2⟩⟩
 rcases h1.2 with ⟨h', _⟩ | ⟨g', cap', cur, h', _, hg', _⟩
 ·rw [h'] at hg; cases hg
 ·rw [h'] at hg
  injection hg with hg
  subst hg
  exact loc_ne hg' L0 ht2 e
end
/-- make([]int, n). -/
theorem rowI_zeros {w : World} {base g n : Nat} (h : w.ownsRow base 3 1 (.slice (some ⟨g, 0, none⟩) n n) n (List.replicate n (.int .i64 0))) : RowI w g (List.replicate n 0) := by
 have hl := h.1
 rcases h.2 with ⟨h', _⟩ | ⟨g', cap', cur, h', _, hg, _, _, hsz, htake⟩
 ·simp at h'
 ·simp only [Value.slice.injEq, Option.some.injEq, Addr.mk.injEq, and_true, true_and] at h'
  obtain ⟨rfl, rfl⟩ := h'
  have : cur.toList = List.replicate n (.int .i64 0) := by
   rw [← htake, List.take_of_length_le (by simp; omega)]
  unfold RowI Loc
  rw [hg, List.map_replicate, ← this]
end Go.Proofs.YtbdcjhoedhhabaaGreat

/- Parts of a set of secrets by a view, plainly; the operations on bits. -/
namespace Go.Proofs.YtbdcjhoedhhabaaGreat
open Go.RowKit
attribute [local go_sem ↓] Go.wp_at_zero Go.wp_at_succ

theorem bits_and {x y : Nat} (hx : x < 9223372036854775808) (hy : y < 9223372036854775808) : bits .and .i64 (x : Int) (y : Int) = ((x &&& y : Nat) : Int) := by
 have e1 : BitVec.ofInt IntKind.i64.bits (x : Int) = BitVec.ofNat 64 x := BitVec.ofInt_natCast 64 x
 have e2 : BitVec.ofInt IntKind.i64.bits (y : Int) = BitVec.ofNat 64 y := BitVec.ofInt_natCast 64 y
 have e3 : (BitVec.ofNat 64 x &&& BitVec.ofNat 64 y).toNat = x &&& y := by
  rw [BitVec.toNat_and, BitVec.toNat_ofNat, BitVec.toNat_ofNat, Nat.mod_eq_of_lt (by omega), Nat.mod_eq_of_lt (by omega)]
 have hb : x &&& y < 9223372036854775808 := Nat.lt_of_le_of_lt Nat.and_le_left hx
 unfold bits
 rw [e1, e2]
 show IntKind.i64.wrap ((BitVec.ofNat 64 x &&& BitVec.ofNat 64 y).toNat : Int) = _
 rw [e3, IntKind.wrap_i64]
 omega
theorem bits_or {x y : Nat} (hx : x < 9223372036854775808) (hy : y < 9223372036854775808) : bits .or .i64 (x : Int) (y : Int) = ((x ||| y : Nat) : Int) := by
 have e1 : BitVec.ofInt IntKind.i64.bits (x : Int) = BitVec.ofNat 64 x := BitVec.ofInt_natCast 64 x
 have e2 : BitVec.ofInt IntKind.i64.bits (y : Int) = BitVec.ofNat 64 y := BitVec.ofInt_natCast 64 y
 have e3 : (BitVec.ofNat 64 x ||| BitVec.ofNat 64 y).toNat = x ||| y := by
  rw [BitVec.toNat_or, BitVec.toNat_ofNat, BitVec.toNat_ofNat, Nat.mod_eq_of_lt (by omega), Nat.mod_eq_of_lt (by omega)]
 have hb : x ||| y < 9223372036854775808 := Nat.or_lt_two_pow (n := 63) hx hy
 unfold bits
 rw [e1, e2]
 show IntKind.i64.wrap ((BitVec.ofNat 64 x ||| BitVec.ofNat 64 y).toNat : Int) = _
 rw [e3, IntKind.wrap_i64]
 omega
theorem shl_one {c : Nat} (hc : c ≤ 62) : IntKind.i64.wrap (2 ^ c) = ((2 ^ c : Nat) : Int) := by
 have h1 : 2 ^ c < 9223372036854775808 := Nat.lt_of_le_of_lt (Nat.pow_le_pow_right (by decide) hc) (by decide)
 have e : ((2 : Int) ^ c) = ((2 ^ c : Nat) : Int) := by norm_cast
 rw [e]
 generalize 2 ^ c = p at h1
 rw [IntKind.wrap_i64]
 omega

/-- The part of S of the class k, among the first c members. -/
def pSet (view : List Int) (S : Nat) (k : Int) : Nat → Nat
 | 0 => 0
 | c + 1 => if view[c]? = some k then pSet view S k c ||| (S &&& 2 ^ c) else pSet view S k c

theorem pSet_bit (view : List Int) (S : Nat) (k : Int) : ∀ (c s : Nat), (pSet view S k c).testBit s = (decide (s < c ∧ view[s]? = some k) && S.testBit s)
 | 0, s => by simp [pSet]
 | c + 1, s => by
   have ih := pSet_bit view S k c s
   unfold pSet
   by_cases h : view[c]? = some k
   ·rw [if_pos h, Nat.testBit_or, Nat.testBit_and, Nat.testBit_two_pow, ih]
    by_cases e : c = s
    ·subst e
     simp [h]
    ·have e1 : (s < c + 1 ∧ view[s]? = some k) ↔ (s < c ∧ view[s]? = some k) := ⟨fun h => ⟨by omega, h.2⟩, fun h => ⟨by omega, h.2⟩⟩
     simp [e, e1]
   ·rw [if_neg h, ih]
    have e1 : (s < c + 1 ∧ view[s]? = some k) ↔ (s < c ∧ view[s]? = some k) := ⟨fun h' => by
     by_cases e : s = c
     ·subst e; exact absurd h'.2 h
     ·exact ⟨by omega, h'.2⟩, fun h => ⟨by omega, h.2⟩⟩
    simp [e1]
theorem pSet_le (view : List Int) (S : Nat) (k : Int) (c : Nat) : pSet view S k c ≤ S := by
 have e : pSet view S k c &&& S = pSet view S k c := by
  apply Nat.eq_of_testBit_eq
  intro s
  rw [Nat.testBit_and, pSet_bit]
  cases S.testBit s <;> simp
 rw [← e]
 exact Nat.and_le_right
theorem nz_bit {n : Nat} : n ≠ 0 ↔ ∃ s, n.testBit s = true := by
 constructor
 ·intro h
  exact Nat.exists_testBit_of_ne_zero h
 ·rintro ⟨s, hs⟩ rfl
  simp at hs
/-- A part is not empty if a member is of its class. -/
theorem pSet_nz (view : List Int) (S : Nat) (k : Int) (c : Nat) : pSet view S k c ≠ 0 ↔ ∃ s, s < c ∧ view[s]? = some k ∧ S.testBit s = true := by
 rw [nz_bit]
 constructor
 ·rintro ⟨s, hs⟩
  rw [pSet_bit] at hs
  simp at hs
  exact ⟨s, hs.1.1, hs.1.2, hs.2⟩
 ·rintro ⟨s, h1, h2, h3⟩
  exact ⟨s, by rw [pSet_bit]; simp [h1, h2, h3]⟩
/-- The list of parts, of the classes below n. -/
def parts (view : List Int) (S n c : Nat) : List Int := (List.range n).map fun (k : Nat) => ((pSet view S (k : Int) c : Nat) : Int)
theorem parts_len (view : List Int) (S n c : Nat) : (parts view S n c).length = n := by simp [parts]
theorem parts_get (view : List Int) (S c : Nat) {n k : Nat} (hk : k < n) : (parts view S n c)[k]? = some ((pSet view S (k : Int) c : Nat) : Int) := by
 unfold parts
 rw [List.getElem?_map, List.getElem?_range hk]
 rfl
theorem parts_zero (view : List Int) (S n : Nat) : parts view S n 0 = List.replicate n 0 := by
 apply List.ext_getElem?
 intro i
 by_cases hi : i < n
 ·rw [parts_get view S 0 hi, List.getElem?_replicate, if_pos hi]; rfl
 ·rw [List.getElem?_eq_none (by rw [parts_len]; omega), List.getElem?_eq_none (by simp; omega)]
theorem parts_set {view : List Int} {S n c k : Nat} (h : view[c]? = some (k : Int)) (hk : k < n) : (parts view S n c).set k (((pSet view S (k : Int) c ||| (S &&& 2 ^ c) : Nat)) : Int) = parts view S n (c + 1) := by
 apply List.ext_getElem?
 intro i
 by_cases hi : i < n
 ·by_cases e : i = k
  ·subst e
   rw [List.getElem?_set_self (by rw [parts_len]; exact hi), parts_get view S _ hi]
   unfold pSet
   rw [if_pos h]
   cases c <;> rfl
  ·rw [List.getElem?_set_ne (fun h => e h.symm), parts_get view S _ hi, parts_get view S _ hi]
   have hne : ¬ view[c]? = some (i : Int) := fun h' => by
    rw [h] at h'
    injection h' with h'
    omega
   have e2 : pSet view S (i : Int) (c + 1) = pSet view S (i : Int) c := by
    show (if view[c]? = some (i : Int) then _ else pSet view S (i : Int) c) = _
    rw [if_neg hne]
   rw [e2]
 ·rw [List.getElem?_eq_none (by rw [List.length_set, parts_len]; omega), List.getElem?_eq_none (by rw [parts_len]; omega)]

/- slices.ContainsFunc at integers, at losses, at tables, at gains: for any predicate. -/

set_option maxRecDepth 100000 in
set_option maxHeartbeats 4000000 in
theorem indexGa_any (w : World) (F : Nat) (caps : Array Value) (P : List Int → Prop) (v : Value) (L : List (List Int)) (h : IMat w v L) (hen : Enters F) (hF : TellsI w F caps P L) :
 Calls Tryz.prog 142 #[v, .func (Fn.func F) #[] caps] w fun e w' => ∃ r : Int, e = .returned (.int .i64 r) ∧ ((0 ≤ r ∧ ∃ l ∈ L, P l) ∨ (r < 0 ∧ ∀ l ∈ L, ¬ P l)) ∧ Below w.heap.size w w' := by
 have H := Lib.hid h
 have HF := Lib.hid hF
 have hen2 : ∀ (args : Array Value) (W : World), (callFunc F args).run Tryz.prog W = .ok (.enter F args) W := hen
 obtain ⟨A, cap, rfl, h, l1, l2⟩ := h.op
 have lm : L.length ≤ 9223372036854775807 := by unfold maxLen at l2; omega
 clear h hF
 obtain ⟨m, hm⟩ : ∃ m, L.length = m := ⟨_, rfl⟩
 rw [hm] at l1 lm
 rw [hm]
 have HM := Lib.hid hm
 clear hm
 go_enter Tryz.func142, Tryz.ntmps142
 go_wp2_with fail
 go_loopw [8] (fun i wr => ∃ (c : Nat), c ≤ m ∧ i = .int .i64 c ∧ Hid (∀ i l, i < c → L[i]? = some l → ¬ P l) ∧ Below w.heap.size w wr) (fun i _ => m - (intOf i).toNat)
 case atStart => exact ⟨0, by omega, rfl, Lib.hid (fun i l hi => absurd hi (by omega)), bel⟩
 case round =>
  obtain ⟨c, hc, rfl, hall, hB⟩ := hrel
  obtain ⟨wo, rfl⟩ : ∃ wo : World, wo = wr := ⟨_, rfl⟩
  have y5 := hB.size; (try simp only [zs] at y5)
  by_cases hlt : c < m
  ·obtain ⟨l, he⟩ : ∃ l, L[c]? = some l := ⟨_, List.getElem?_eq_getElem (by rw [HM.out]; exact hlt)⟩
   have hR := H.out.keep (.of_below hB)
   rw [HM.out] at hR
   obtain ⟨a, D, d, rfl, hab, hcell, hnum, l3, l4⟩ := hR.at he
   have HE := Lib.hid he
   have HNUM := Lib.hid hnum
   have k0 : (0 : Int) ≤ (c : Int) := by omega
   have k1 : (c : Int) < (m : Int) := by omega
   clear he hR hnum
   go_wp2_with fail
   refine (HF.out _ D d l hB HNUM.out (List.mem_of_getElem? HE.out)).mono ?_
   rintro e w2 ⟨⟨b, rfl, hb⟩, hb2⟩
   have y2 := hb2.size; (try simp only [zs] at y2)
   cases b
   ·have HGD : Hid (¬ P l) := fun h => by have := hb.out.2 h; cases this
    clear hb
    go_wp2_with fail
    go_roundw
    case rel =>
     refine ⟨c + 1, by omega, by go_num, Lib.hid (fun i l' hi hl' => ?_), bel⟩
     by_cases hic : i < c
     ·exact hall.out i l' hic hl'
     ·obtain rfl : i = c := by omega
      rw [HE.out] at hl'
      injection hl' with hl'
      subst hl'
      exact HGD.out
    case measure => simp only [intOf]; omega
   ·have HGD : Hid (P l) := hb.out.1 rfl
    clear hb
    go_wp2_with fail
    go_ret
    exact ⟨_, rfl, .inl ⟨by omega, l, List.mem_of_getElem? HE.out, HGD.out⟩, bel⟩
  ·obtain rfl : c = m := by omega
   have HALL : Hid (∀ l ∈ L, ¬ P l) := fun l hl => by
    obtain ⟨i, hi, rfl⟩ := List.mem_iff_getElem.1 hl
    exact hall.out i _ (by rw [← HM.out]; exact hi) (List.getElem?_eq_getElem hi)
   go_wp2_with fail
   go_ret
   exact ⟨_, rfl, .inr ⟨by decide, HALL.out⟩, hB⟩

set_option maxRecDepth 100000 in
set_option maxHeartbeats 4000000 in
theorem containsGa_any (w : World) (F : Nat) (caps : Array Value) (P : List Int → Prop) (v : Value) (L : List (List Int)) (h : IMat w v L) (hen : Enters F) (hF : TellsI w F caps P L) :
 Calls Tryz.prog 51 #[v, .func (Fn.func F) #[] caps] w fun e w' => Tells (∃ l ∈ L, P l) e ∧ Below w.heap.size w w' := by
 have H := Lib.hid h
 have HF := Lib.hid hF
 obtain ⟨A, cap, rfl, h, l1, l2⟩ := h.op
 clear h hF
 go_enter Tryz.func51, Tryz.ntmps51
 go_wp2_with fail
 refine (indexGa_any _ F caps P _ L H.out hen HF.out).mono ?_
 rintro e w1 ⟨r, rfl, hr, hb1⟩
 have y1 := hb1.size; (try simp only [zs] at y1)
 have HR := Lib.hid hr
 clear hr
 by_cases h0 : 0 ≤ r
 ·have HV : Hid (∃ l ∈ L, P l) := by
   rcases HR.out with ⟨_, h⟩ | ⟨h, _⟩
   ·exact h
   ·omega
  go_wp2_with fail
  go_ret
  exact ⟨Tells.yes HV.out, bel⟩
 ·have HV : Hid (¬ ∃ l ∈ L, P l) := by
   rcases HR.out with ⟨h, _⟩ | ⟨_, h⟩
   ·omega
   ·exact fun ⟨l, hl, hp⟩ => h l hl hp
  have hd : decide (0 ≤ r) = false := decide_eq_false h0
  go_wp2_with fail
  go_ret
  exact ⟨by first | exact Tells.no HV.out | (simp only [hd]; exact Tells.no HV.out), bel⟩

/-- A function that tells whether P, at integers of a list. -/
def TellsZ (w : World) (F : Nat) (caps : Array Value) (P : Int → Prop) (L : List Int) : Prop :=
 ∀ (W : World) (z : Int), Below w.heap.size w W → z ∈ L → Calls Tryz.prog F (#[.int .i64 z] ++ caps) W fun e w' => Tells (P z) e ∧ Below W.heap.size W w'

set_option maxRecDepth 100000 in
set_option maxHeartbeats 4000000 in
theorem indexZ_any (w : World) (F : Nat) (caps : Array Value) (P : Int → Prop) (v : Value) (L : List Int) (h : IntsV w v L) (hen : Enters F) (hF : TellsZ w F caps P L) :
 Calls Tryz.prog 216 #[v, .func (Fn.func F) #[] caps] w fun e w' => ∃ r : Int, e = .returned (.int .i64 r) ∧ ((0 ≤ r ∧ ∃ l ∈ L, P l) ∨ (r < 0 ∧ ∀ l ∈ L, ¬ P l)) ∧ Below w.heap.size w w' := by
 have H := Lib.hid h
 have HF := Lib.hid hF
 have hen2 : ∀ (args : Array Value) (W : World), (callFunc F args).run Tryz.prog W = .ok (.enter F args) W := hen
 obtain ⟨A, cap, rfl, h, l1, l2⟩ := h.op
 have lm : L.length ≤ 9223372036854775807 := by unfold maxLen at l2; omega
 clear h hF
 obtain ⟨m, hm⟩ : ∃ m, L.length = m := ⟨_, rfl⟩
 rw [hm] at l1 lm
 rw [hm]
 have HM := Lib.hid hm
 clear hm
 go_enter Tryz.func216, Tryz.ntmps216
 go_wp2_with fail
 go_loopw [8] (fun i wr => ∃ (c : Nat), c ≤ m ∧ i = .int .i64 c ∧ Hid (∀ i l, i < c → L[i]? = some l → ¬ P l) ∧ Below w.heap.size w wr) (fun i _ => m - (intOf i).toNat)
 case atStart => exact ⟨0, by omega, rfl, Lib.hid (fun i l hi => absurd hi (by omega)), bel⟩
 case round =>
  obtain ⟨c, hc, rfl, hall, hB⟩ := hrel
  obtain ⟨wo, rfl⟩ : ∃ wo : World, wo = wr := ⟨_, rfl⟩
  have y5 := hB.size; (try simp only [zs] at y5)
  by_cases hlt : c < m
  ·obtain ⟨l, he⟩ : ∃ l, L[c]? = some l := ⟨_, List.getElem?_eq_getElem (by rw [HM.out]; exact hlt)⟩
   have hR := H.out.keep (.of_below hB)
   rw [HM.out] at hR
   obtain ⟨a, rfl, hab, hcell, zb1, zb2⟩ := hR.at he
   have HE := Lib.hid he
   have k0 : (0 : Int) ≤ (c : Int) := by omega
   have k1 : (c : Int) < (m : Int) := by omega
   clear he hR
   go_wp2_with fail
   refine (HF.out _ l hB (List.mem_of_getElem? HE.out)).mono ?_
   rintro e w2 ⟨⟨b, rfl, hb⟩, hb2⟩
   have y2 := hb2.size; (try simp only [zs] at y2)
   cases b
   ·have HGD : Hid (¬ P l) := fun h => by have := hb.out.2 h; cases this
    clear hb
    go_wp2_with fail
    go_roundw
    case rel =>
     refine ⟨c + 1, by omega, by go_num, Lib.hid (fun i l' hi hl' => ?_), bel⟩
     by_cases hic : i < c
     ·exact hall.out i l' hic hl'
     ·obtain rfl : i = c := by omega
      rw [HE.out] at hl'
      injection hl' with hl'
      subst hl'
      exact HGD.out
    case measure => simp only [intOf]; omega
   ·have HGD : Hid (P l) := hb.out.1 rfl
    clear hb
    go_wp2_with fail
    go_ret
    exact ⟨_, rfl, .inl ⟨by omega, l, List.mem_of_getElem? HE.out, HGD.out⟩, bel⟩
  ·obtain rfl : c = m := by omega
   have HALL : Hid (∀ l ∈ L, ¬ P l) := fun l hl => by
    obtain ⟨i, hi, rfl⟩ := List.mem_iff_getElem.1 hl
    exact hall.out i _ (by rw [← HM.out]; exact hi) (List.getElem?_eq_getElem hi)
   go_wp2_with fail
   go_ret
   exact ⟨_, rfl, .inr ⟨by decide, HALL.out⟩, hB⟩

set_option maxRecDepth 100000 in
set_option maxHeartbeats 4000000 in
theorem containsZ_any (w : World) (F : Nat) (caps : Array Value) (P : Int → Prop) (v : Value) (L : List Int) (h : IntsV w v L) (hen : Enters F) (hF : TellsZ w F caps P L) :
 Calls Tryz.prog 90 #[v, .func (Fn.func F) #[] caps] w fun e w' => Tells (∃ l ∈ L, P l) e ∧ Below w.heap.size w w' := by
 have H := Lib.hid h
 have HF := Lib.hid hF
 obtain ⟨A, cap, rfl, h, l1, l2⟩ := h.op
 clear h hF
 go_enter Tryz.func90, Tryz.ntmps90
 go_wp2_with fail
 refine (indexZ_any _ F caps P _ L H.out hen HF.out).mono ?_
 rintro e w1 ⟨r, rfl, hr, hb1⟩
 have y1 := hb1.size; (try simp only [zs] at y1)
 have HR := Lib.hid hr
 clear hr
 by_cases h0 : 0 ≤ r
 ·have HV : Hid (∃ l ∈ L, P l) := by
   rcases HR.out with ⟨_, h⟩ | ⟨h, _⟩
   ·exact h
   ·omega
  go_wp2_with fail
  go_ret
  exact ⟨Tells.yes HV.out, bel⟩
 ·have HV : Hid (¬ ∃ l ∈ L, P l) := by
   rcases HR.out with ⟨h, _⟩ | ⟨_, h⟩
   ·omega
   ·exact fun ⟨l, hl, hp⟩ => h l hl hp
  have hd : decide (0 ≤ r) = false := decide_eq_false h0
  go_wp2_with fail
  go_ret
  exact ⟨by first | exact Tells.no HV.out | (simp only [hd]; exact Tells.no HV.out), bel⟩
end Go.Proofs.YtbdcjhoedhhabaaGreat

/- Answers that tell, settled (as in Nl5, which serves layer 8). -/
namespace Go.Proofs.YtbdcjhoedhhabaaGreat
open Go.RowKit
theorem Tells.eq {P : Prop} {e : Ending} {b : Bool} (h : Tells P e) (hb : b = true ↔ P) : e = .returned (.bool b) := by
 obtain ⟨c, rfl, hc⟩ := h
 have : c = b := by
  have h1 := hc.out.trans hb.symm
  cases c <;> cases b <;> simp_all
 rw [this]
theorem tell (P : Prop) : ∃ b : Bool, Hid (b = true ↔ P) := by
 rcases Classical.em P with h | h
 ·exact ⟨true, fun _ => h, fun _ => rfl⟩
 ·exact ⟨false, fun h' => (by cases h'), fun h' => absurd h' h⟩
end Go.Proofs.YtbdcjhoedhhabaaGreat

