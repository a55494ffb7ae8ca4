/- Contracts of the functions that the statements reach, part 25. -/
import Derived.Test.YtdambnieminnfaaGreatRows
import Derived.Test.YtdambnieminnfaaGreatZ13
import Derived.Test.YtdambnieminnfaaGreatZ14
import Derived.Test.YtdambnieminnfaaGreatZ17
import Derived.Test.YtdambnieminnfaaGreatZ18
import Derived.Test.YtdambnieminnfaaGreatZ21
import Derived.Test.YtdambnieminnfaaGreatZ24
set_option linter.unusedSimpArgs false
set_option linter.unusedVariables false

/- Arguments opened: lists of integers, channels, a refining. -/
namespace Go.Proofs.YtdambnieminnfaaGreat
open Go.ChangeShapes Go.WideShapes Go.ChangeAt Go.RowKit Go.Joins
theorem cellsInt1 : Tryz.prog.cellsOf 3 = 1 := by kernel_rfl
theorem cellsInts : Tryz.prog.cellsOf 38 = 1 := by kernel_rfl
theorem cellsIMat : Tryz.prog.cellsOf 22 = 1 := by kernel_rfl
theorem cellsChan : Tryz.prog.cellsOf 24 = 1 := by kernel_rfl
theorem open_Ints {H : Type} {enc : TypeId × Value → H} {W : World} {base : Nat} {fuel : Nat} {v : Value} {x : DataW H × List MemPlace}
 (h : DataW.trod enc Tryz.prog W base (fun _ => true) true fuel 38 [v] = some x) : ∃ zs, IntsV W v zs := by
 rcases open_ints Tryz.underlying38 Tryz.underlying3 cellsInt1 h with ⟨hcs, _⟩ | ⟨a, len, cap, zs, hcs, _, hl, hm, hz, _, hcell, hwz⟩
 ·simp at hcs
  subst hcs
  exact ⟨[], none, 0, rfl, Nat.le_refl _, Nat.zero_le _, fun h => absurd rfl h, fun z hz => by simp at hz⟩
 ·simp at hcs
  subst hcs
  have hz' : zs.length = cap := by simpa using hz
  have hlen : (zs.take len).length = len := by simp; omega
  refine ⟨zs.take len, _, _, by rw [hlen], by rw [hlen]; exact hl, hm, fun hn => ⟨a, rfl, ?_, fun j u hu => ?_⟩, fun z hz => ?_⟩
  ·rw [hlen] at hn
   have h0 := hcell 0 (by omega)
   rw [addr_zero] at h0
   exact World.block_lt_of_cell? W a h0
  ·have hj : j < len := by have := (List.getElem?_eq_some_iff.1 hu).1; simp at this; omega
   have hjz : j < zs.length := by omega
   rw [hcell j hjz]
   rw [List.getElem?_take, if_pos hj, List.getElem?_eq_getElem hjz] at hu
   injection hu with hu
   rw [← hu]
   simp [hjz]
  ·have := bounds_i64 (hwz z (List.mem_of_mem_take hz))
   omega

set_option maxRecDepth 100000 in
theorem open_IMat {H : Type} {enc : TypeId × Value → H} {W : World} {base : Nat} {fuel : Nat} {v : Value} {x : DataW H × List MemPlace}
 (h : DataW.trod enc Tryz.prog W base (fun _ => true) true fuel 22 [v] = some x) : ∃ L, IMat W v L := by
 rcases DataW.trod_slice Tryz.underlying22 h with ⟨hcs, _⟩ | ⟨a, len, cap, elems, rest, n, _, hcs, _, hb, hl, hm, hlen, hel, _⟩
 ·simp at hcs
  subst hcs
  exact ⟨[], none, 0, rfl, Nat.le_refl _, Nat.zero_le _, fun h => absurd rfl h⟩
 ·simp at hcs
  subst hcs
  have key : ∀ i, i < len → ∃ l, (∃ B c, W.cell? (a.add i) = some (.slice B l.length c) ∧ IntsV W (.slice B l.length c) l) ∧ a.block < W.heap.size := fun i hi => by
   have hq := hel i hi
   rw [cellsInts, List.getElem?_eq_getElem (l := elems) (i := i) (by omega), Option.bind_eq_some_iff, Nat.mul_one] at hq
   obtain ⟨cs, hcs, ht⟩ := hq
   obtain ⟨_, hn, hc⟩ := World.cells?_some hcs
   match cs, hn with
   | [c0], _ =>
     obtain ⟨l, hr⟩ := open_Ints ht
     have hbl0 := World.cells?_block hcs (show 0 < 1 by decide)
     have hbl : a.block < W.heap.size := by rw [add_block] at hbl0; exact hbl0
     obtain ⟨B, c, e, hr2, -, -⟩ := hr.op
     have h0 := hc 0 (by decide)
     rw [addr_zero] at h0
     refine ⟨l, ⟨B, c, ?_, hr2⟩, hbl⟩
     rw [← e]; exact h0
  obtain ⟨L, hl', hp⟩ := list_of _ len (fun i hi => key i hi)
  subst hl'
  refine ⟨L, some a, cap, rfl, hl, hm, fun hz => ⟨a, rfl, ?_, fun i e he => (hp i e he).1⟩⟩
  obtain ⟨e, he⟩ := key 0 (by omega)
  exact he.2

set_option maxRecDepth 100000 in
theorem open_Channel {H : Type} {enc : TypeId × Value → H} {W : World} {base : Nat} {r : Reach} {b0 : Nat} {v : Value} {d : DataW H} {p : List MemPlace}
 (hv : Value.okWide Tryz.prog W r b0 24 v) (h : DataW.Trod enc Tryz.prog W base (fun _ => true) true 24 v d p) : ∃ v0 L, v = .agg #[v0] ∧ IMat W v0 L := by
 obtain ⟨cs, rfl, hsz⟩ := okWide_struct Tryz.underlying24 hv
 obtain ⟨l⟩ := cs
 match l, hsz.trans cellsChan with
 | [c0], _ =>
   obtain ⟨fuel, hf⟩ := h
   obtain ⟨xs, n, _, _, _, hlen, hg⟩ := DataW.trod_struct Tryz.underlying24 hf
   match xs, hlen with
   | [y0], _ =>
     have g0 : DataW.trod enc Tryz.prog W base (fun _ => true) true n 22 (([c0].drop 0).take (Tryz.prog.cellsOf 22)) = [y0][0]? := hg 0 _ rfl
     rw [cellsIMat] at g0
     have h0 : DataW.trod enc Tryz.prog W base (fun _ => true) true n 22 [c0] = some y0 := g0
     obtain ⟨L, h2⟩ := open_IMat h0
     exact ⟨c0, L, rfl, h2⟩
end Go.Proofs.YtdambnieminnfaaGreat

/- slices.ContainsFunc at raw fractions; the law's tidy. -/
namespace Go.Proofs.YtdambnieminnfaaGreat
open Go.RowKit
attribute [local go_sem ↓] Go.wp_at_zero Go.wp_at_succ

/-- At most 6 rows of at most 6 numbers of at most two words. -/
def TI (L : List (List RF)) : Prop := L.length ≤ 6 ∧ ∀ l ∈ L, l.length ≤ 6 ∧ ∀ e ∈ l, e.few
/-- A tidy matrix is a matrix of short numbers. -/
theorem RMat.tidy {w : World} {v : Value} {L : List (List RF)} (h : RMat w v L) (ht : TI L) : Mat 2 w (fun _ => False) v L.length (lens L) (qm L) ∧ L.length ≤ 6 ∧ ∀ i, i < L.length → lens L i ≤ 6 :=
 ⟨h.mat (fun i l hl j e he => (ht.2 l (List.mem_of_getElem? hl)).2 e (List.mem_of_getElem? he)), ht.1, fun i hi => by
  have hl := List.getElem?_eq_getElem hi
  rw [lens_get hl]
  exact (ht.2 _ (List.mem_of_getElem? hl)).1⟩
end Go.Proofs.YtdambnieminnfaaGreat

/- A block that holds no words, and that is no list's own, is no part of a list of fractions. -/
namespace Go.Proofs.YtdambnieminnfaaGreat
open Go.RowKit

/-- No word of 32 bits. -/
def noW (u : Value) : Prop := ∀ z : Int, u ≠ .int .u32 z
/-- The list's own block, if it has one, is at or above B. -/
def Fr (B : Nat) (v : Value) : Prop := ∀ (a : Addr) (n c : Nat), v = .slice (some a) n c → B ≤ a.block

section
variable {w : World} {X : Nat → Prop} {g k n B : Nat} {t : TypeId} {cs : Array Value} {v : Value} {q : Rat} {f : Nat → Rat} {xs : List Nat} {neg : Bool}
theorem Loc.mem (L : Loc w g t cs) {a : Addr} {u : Value} (h : w.cell? a = some u) (ha : a.block = g) : u ∈ cs := by
 unfold World.cell? at h
 rw [ha, L] at h
 dsimp only at h
 split at h
 ·cases h
 ·exact Array.mem_of_getElem? h
theorem Words.off (h : Words w X v xs) (L : Loc w g t cs) (hc : ∀ u ∈ cs, noW u) : Words w (fun b => X b ∨ b = g) v xs := by
 obtain ⟨⟨A, c, hv, h1, h2, h3, h4⟩, h5⟩ := h
 refine ⟨⟨A, c, hv, h1, h2, h3, fun hn => ?_⟩, h5⟩
 obtain ⟨a, hA, hlt, hx, hcell⟩ := h4 hn
 refine ⟨a, hA, hlt, fun hy => ?_, hcell⟩
 rcases hy with hy | hy
 ·exact hx hy
 ·have h0 := hcell 0 _ (nums_get (k := .u32) (xs := xs) (i := 0) hn)
  have := L.mem h0 (by rw [addr_block]; exact hy)
  exact hc _ this _ rfl
theorem IntR.off (h : IntR w X v neg xs) (L : Loc w g t cs) (hc : ∀ u ∈ cs, noW u) : IntR w (fun b => X b ∨ b = g) v neg xs := by
 obtain ⟨a, b, h⟩ := h
 exact ⟨a, b, h.off L hc⟩
theorem RatL.off (h : RatL k w X v q) (L : Loc w g t cs) (hc : ∀ u ∈ cs, noW u) : RatL k w (fun b => X b ∨ b = g) v q := by
 obtain ⟨n1, xs, n2, ys, ⟨A, c, B, d, e, h1, h2⟩, h3⟩ := h
 exact ⟨n1, xs, n2, ys, ⟨A, c, B, d, e, h1.off L hc, h2.off L hc⟩, h3⟩
theorem Nums.off (h : Nums k w X v n f) (L : Loc w g t cs) (hc : ∀ u ∈ cs, noW u) (hf : Fr B v) (hg : g < B) : Nums k w (fun b => X b ∨ b = g) v n f := by
 obtain ⟨rs, A, cap, h1, h2, h3, h4, h5, h6⟩ := h
 refine ⟨rs, A, cap, h1, h2, h3, h4, fun hn => ?_, fun i r hr => (h6 i r hr).off L hc⟩
 obtain ⟨a, ea, hb, hX, hcell⟩ := h5 hn
 refine ⟨a, ea, hb, fun hy => ?_, hcell⟩
 rcases hy with hy | hy
 ·exact hX hy
 ·have := hf a n cap (by rw [h2, ea])
  omega
theorem Nums.off2 (h : Nums k w X v n f) (L : Loc w g t cs) (hc : ∀ u ∈ cs, noW u) (hap : n ≠ 0 → ∀ (a : Addr) (c : Nat), v = .slice (some a) n c → a.block ≠ g) : Nums k w (fun b => X b ∨ b = g) v n f := by
 obtain ⟨rs, A, cap, h1, h2, h3, h4, h5, h6⟩ := h
 refine ⟨rs, A, cap, h1, h2, h3, h4, fun hn => ?_, fun i r hr => (h6 i r hr).off L hc⟩
 obtain ⟨a, ea, hb, hX, hcell⟩ := h5 hn
 refine ⟨a, ea, hb, fun hy => ?_, hcell⟩
 rcases hy with hy | hy
 ·exact hX hy
 ·exact hap hn a cap (by rw [h2, ea]) hy
theorem Fr.nil (B : Nat) : Fr B (.slice none 0 0) := fun a n c h => by cases h
theorem Fr.own {g c : Nat} {A : Option Nat} (h : B ≤ g) : Fr B (.slice (some ⟨g, 0, A⟩) n c) := fun a n' c' e => by injection e with e; injection e with e; rw [← e]; exact h
theorem Fr.mono {B' : Nat} (h : Fr B v) (hB : B' ≤ B) : Fr B' v := fun a n c e => Nat.le_trans hB (h a n c e)
/-- Behind a store into a block that is none of its own. -/
theorem Nums.past {w' : World} (h : Nums k w (fun _ => False) v n f) (L : Loc w g t cs) (hc : ∀ u ∈ cs, noW u) (hf : Fr B v) (hg : g < B) (hk : Keep (fun b => b = g) w w') : Nums k w' (fun _ => False) v n f :=
 ((h.off L hc hf hg).keep (hk.weak (fun b _ hb => .inr hb))).weak (fun _ _ h => h.elim)
theorem RatL.past {w' : World} (h : RatL k w (fun _ => False) v q) (L : Loc w g t cs) (hc : ∀ u ∈ cs, noW u) (hk : Keep (fun b => b = g) w w') : RatL k w' (fun _ => False) v q :=
 ((h.off L hc).keep (hk.weak (fun b _ hb => .inr hb))).weak (fun _ _ h => h.elim)
end
theorem noW_bool (b : Bool) : noW (.bool b) := fun z h => by cases h
theorem noW_slice (A : Option Addr) (n c : Nat) : noW (.slice A n c) := fun z h => by cases h

/- Lists of lists that grow; blocks of different types; facts whose kept-out blocks are told anew (as in Nl9, Nl11, which serve layer 8). -/

theorem info_rats : (Tryz.prog.info? 55).map (fun i => (i.zero, i.size, i.bytes)) = some (some (.slice none 0 0), 1, 24) := by kernel_rfl
/-- A list of lists that lies in a block of its own, at or above base. -/
def OwnL (w : World) (base : Nat) (v : Value) (us : List Value) : Prop := w.ownsRow base 55 1 v us.length us
def isL (u : Value) : Prop := ∃ B p c, u = .slice B p c
theorem isL.one {u : Value} (h : isL u) : u.oneCell' = true := by
 obtain ⟨B, p, c, rfl⟩ := h; rfl
theorem OwnL.below {w w' : World} {base : Nat} {v : Value} {us : List Value} (h : OwnL w base v us) (hb : Below w.heap.size w w') : OwnL w' base v us := by
 refine ⟨h.1, ?_⟩
 rcases h.2 with ⟨h', hn⟩ | ⟨g', cap', cur, h', h3, hg', h1, h2, hsz, htake⟩
 ·exact .inl ⟨h', hn⟩
 ·exact .inr ⟨g', cap', cur, h', h3, by rw [hb.block g' (Array.getElem?_eq_some_iff.1 hg').1]; exact hg', h1, h2, hsz, htake⟩
theorem OwnL.mat {w : World} {base g k cap M : Nat} {us : List Value} {N : Nat → Nat} {F : Nat → Nat → Rat} (h : OwnL w base (.slice (some ⟨g, 0, none⟩) M cap) us) (hM : us.length = M) (hn : 0 < M) (hu : ∀ i u, us[i]? = some u → Nums k w (fun _ => False) u (N i) (F i)) :
 Mat k w (fun _ => False) (.slice (some ⟨g, 0, none⟩) M cap) M N F := by
 subst hM
 have hg := h.lt g rfl
 have h1 : us.length ≤ cap ∧ cap ≤ maxLen := by
  rcases h.2 with ⟨h', _⟩ | ⟨g', cap', cur, h', _, _, h1, h2, _⟩
  ·simp at h'
  ·simp only [Value.slice.injEq, Option.some.injEq, Addr.mk.injEq, and_true, true_and] at h'
   obtain ⟨rfl, rfl⟩ := h'
   exact ⟨h1, h2⟩
 refine ⟨us, _, _, rfl, rfl, h1.1, h1.2, fun _ => ⟨_, rfl, hg.2, id, fun i u hu => ?_⟩, hu⟩
 have e : (⟨g, 0, none⟩ : Addr).add i = ⟨g, i, none⟩ := by simp [Addr.add]; intro h; omega
 have hi := (List.getElem?_eq_some_iff.1 hu).1
 rw [e, World.ownsRow.cellAt h i (by omega)]
 exact hu
theorem wp_pushL {o : Oper} {a : Act} {K : Act → World → Prop} {Q : Exit → Act → World → Prop} (w : World) (s x : Operand) (ho : o.op = .call { callee := .builtin .append, args := #[s, x], argTypes := #[25, 25] })
 (base : Nat) (v : Value) (us : List Value) (hs : a.eval s = v) (hown : OwnL w base v us) (ad : Addr) (c m T : Nat) (news : List Value) (hx : a.eval x = .slice (some ad) m c) (hlen : news.length = m) (hT : us.length + m = T) (hnews : ∀ j u, news[j]? = some u → w.cell? (ad.add j) = some u)
 (h1 : ∀ u ∈ news, isL u) (hm : 0 < m) (hn : T ≤ 2000) (hbase : base ≤ w.heap.size)
 (h : ∀ g cap w', OwnL w' base (.slice (some ⟨g, 0, none⟩) T cap) (us ++ news) → w.grownBy w' v.ownBlock → (v.ownBlock = some g ∨ g = w.heap.size) → g < w'.heap.size → K (a.put o.dst (.slice (some ⟨g, 0, none⟩) T cap)) w') :
 Oper.wp Tryz.prog o a w K Q := by
 obtain ⟨i, hi, hz0, hz1, hz2⟩ := info_parts info_rats
 subst hT
 refine wp_append_lies w s x 25 ho base 55 i _ 1 24 Tryz.underlying25 hi hz0 hz1 hz2 rfl (by decide) v us.length us hs hown ad m c news hx (by omega) hnews (fun u hu => (h1 u hu).one) hm (by unfold maxLen; omega) (by omega) hbase _ rfl ?_
 intro g cap w' h1 h2 h3 h4
 refine h g cap w' ?_ h2 h3 h4
 unfold OwnL
 rw [List.length_append, hlen]
 exact h1
theorem step_pushL {ops : Array Oper} {o : Oper} {a : Act} {K : Act → World → Prop} {Q : Exit → Act → World → Prop} {E : Prop} (w : World) (hgd : o.guard = none) (s x : Operand) (ho : o.op = .call { callee := .builtin .append, args := #[s, x], argTypes := #[25, 25] })
 (base : Nat) (v : Value) (us : List Value) (hs : a.eval s = v) (hown : OwnL w base v us) (ad : Addr) (c m T : Nat) (news : List Value) (hx : a.eval x = .slice (some ad) m c) (hlen : news.length = m) (hT : us.length + m = T) (hnews : ∀ j u, news[j]? = some u → w.cell? (ad.add j) = some u)
 (h1 : ∀ u ∈ news, isL u) (hm : 0 < m) (hn : T ≤ 2000) (hbase : base ≤ w.heap.size)
 (h : ∀ g cap w', OwnL w' base (.slice (some ⟨g, 0, none⟩) T cap) (us ++ news) → w.grownBy w' v.ownBlock → (v.ownBlock = some g ∨ g = w.heap.size) → g < w'.heap.size → K (a.put o.dst (.slice (some ⟨g, 0, none⟩) T cap)) w') :
 if Region.wanted o (yielded ops a.tmps) = true then Oper.wp Tryz.prog o a w K Q else E := by
 have hw : Region.wanted o (yielded ops a.tmps) = true := by simp [Region.wanted, hgd]
 rw [if_pos hw]
 exact wp_pushL w s x ho base v us hs hown ad c m T news hx hlen hT hnews h1 hm hn hbase h

section
variable {W W1 : World} {h base base2 sz sz2 n n2 k B : Nat} {t e e2 : TypeId} {cs : Array Value} {v v2 : Value} {xs xs2 : List Value} {rs : List R4} {f : Nat → Rat}
theorem loc_other (hown : W.ownsRow base e sz v n xs) (hg : W.grownBy W1 v.ownBlock) (L : Loc W h t cs) (hne : t ≠ e) : Loc W1 h t cs := by
 refine (hg.block h L.lt (fun eq => ?_)).trans L
 rcases hown.2 with ⟨rfl, _⟩ | ⟨g, cap, cur, rfl, _, hgg, _⟩
 ·cases eq
 ·injection eq with eq
  simp at eq
  subst eq
  unfold Loc at L
  rw [hgg] at L
  injection L with L
  injection L with e1 e2 e3
  exact hne e2.symm
theorem own_other (hown : W.ownsRow base e sz v n xs) (hg : W.grownBy W1 v.ownBlock) (h2 : W.ownsRow base2 e2 sz2 v2 n2 xs2) (hne : e2 ≠ e) : W1.ownsRow base2 e2 sz2 v2 n2 xs2 := by
 refine h2.kept hg ?_
 rcases h2.2 with ⟨rfl, _⟩ | ⟨g, cap, cur, rfl, _, hgg, _⟩
 ·exact .inl rfl
 ·right
  intro eq
  rcases hown.2 with ⟨rfl, _⟩ | ⟨g', cap', cur', rfl, _, hgg', _⟩
  ·cases eq
  ·injection eq with eq
   simp at eq
   subst eq
   rw [hgg] at hgg'
   injection hgg' with L
   injection L with e1 e2 e3
   exact hne e2
end

section
variable {k n : Nat} {W W2 : World} {X Y : Nat → Prop} {v : Value} {q : Rat} {f : Nat → Rat} {rs : List R4}
theorem Keep.both (h : Keep X W W2) : Keep (fun b => X b ∨ Y b) W W2 := h.weak (fun _ _ h => .inl h)
theorem RatL.turn (h : RatL k W X v q) (hk : Keep X W W2) (hY : ∀ b, b < W.heap.size → Y b → X b) : RatL k W2 Y v q :=
 ((h.weak (Y := fun b => X b ∨ Y b) (fun b hb h => h.elim id (hY b hb))).keep hk.both).weak (fun _ _ h => .inr h)
theorem Nums.turn (h : Nums k W X v n f) (hk : Keep X W W2) (hY : ∀ b, b < W.heap.size → Y b → X b) : Nums k W2 Y v n f :=
 ((h.weak (Y := fun b => X b ∨ Y b) (fun b hb h => h.elim id (hY b hb))).keep hk.both).weak (fun _ _ h => .inr h)
theorem ValL.turn (h : ValL k W X rs f) (hk : Keep X W W2) (hY : ∀ b, b < W.heap.size → Y b → X b) : ValL k W2 Y rs f := fun i r hr => (h i r hr).turn hk hY
theorem OwnL.keep {base : Nat} {us : List Value} (h : OwnL W base v us) (hb : Keep X W W2) (hX : ∀ g, v.ownBlock = some g → ¬ X g) : OwnL W2 base v us := by
 refine ⟨h.1, ?_⟩
 rcases h.2 with ⟨h', hn⟩ | ⟨g', cap', cur, h', h3, hg', h1, h2, hsz, htake⟩
 ·exact .inl ⟨h', hn⟩
 ·exact .inr ⟨g', cap', cur, h', h3, by rw [hb.block g' (Array.getElem?_eq_some_iff.1 hg').1 (hX g' (by rw [h']; rfl))]; exact hg', h1, h2, hsz, htake⟩
theorem OwnL.ne {base g : Nat} {us : List Value} {t : TypeId} {cs : Array Value} (h : OwnL W base v us) (L : Loc W g t cs) (ht : t ≠ 55) : v.ownBlock ≠ some g := fun e => by
 rcases h.2 with ⟨h', _⟩ | ⟨g', cap', cur, h', _, hg', _⟩
 ·rw [h'] at e; cases e
 ·rw [h'] at e
  injection e with e
  simp at e
  subst e
  unfold Loc at L
  rw [hg'] at L
  injection L with L
  injection L with e1 e2
  exact ht e2.symm
theorem OwnR.ne {base g : Nat} {t : TypeId} {cs : Array Value} (h : OwnR W base v rs) (L : Loc W g t cs) (ht : t ≠ 60) : v.ownBlock ≠ some g := fun e => by
 rcases h.2 with ⟨h', _⟩ | ⟨g', cap', cur, h', _, hg', _⟩
 ·rw [h'] at e; cases e
 ·rw [h'] at e
  injection e with e
  simp at e
  subst e
  unfold Loc at L
  rw [hg'] at L
  injection L with L
  injection L with e1 e2
  exact ht e2.symm
end
end Go.Proofs.YtdambnieminnfaaGreat

