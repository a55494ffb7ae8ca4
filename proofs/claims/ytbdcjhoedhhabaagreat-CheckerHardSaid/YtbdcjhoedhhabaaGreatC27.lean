/- Contracts of the functions that the statements reach, part 27. -/
import Derived.Test.YtbdcjhoedhhabaaGreatRows
import Derived.Test.YtbdcjhoedhhabaaGreatC26
set_option linter.unusedSimpArgs false
set_option linter.unusedVariables false

/- partition.Of. -/
namespace Go.Proofs.YtbdcjhoedhhabaaGreat
open Go.RowKit
attribute [local go_sem ↓] Go.wp_at_zero Go.wp_at_succ

theorem MapF.grown {w w' : World} {k : TypeId} {b n c : Nat} {f : Lit → Option Int} {row : Option Nat} (h : MapF w k b n c f) (hg : w.grownBy w' row) (hne : some b ≠ row) : MapF w' k b n c f := by
 have hl := h.lt
 obtain ⟨D, h1, h2⟩ := h
 exact ⟨D, h1.kept hg hne, h2⟩

/-- A list of numbers that is written in place. -/
structure RowG (w : World) (g cap : Nat) (l : List Int) : Prop where
 le : l.length ≤ cap
 lc : cap ≤ maxLen
 cells : ∃ cur : Array Value, Loc w g 3 cur ∧ ∀ (i : Nat) (z : Int), l[i]? = some z → cur[i]? = some (.int .i64 z)
section
variable {w w' : World} {g cap : Nat} {l : List Int}
theorem RowG.lt (h : RowG w g cap l) : g < w.heap.size := by obtain ⟨cur, hl, -⟩ := h.cells; exact hl.lt
theorem RowG.drew (h : RowG w g cap l) : RowG w.drew g cap l := ⟨h.le, h.lc, h.cells⟩
theorem RowG.below (h : RowG w g cap l) (hb : Below w.heap.size w w') : RowG w' g cap l := by
 obtain ⟨cur, hl, hc⟩ := h.cells
 exact ⟨h.le, h.lc, cur, hl.below hb, hc⟩
theorem RowG.cell (h : RowG w g cap l) {i : Nat} {z : Int} (hz : l[i]? = some z) : w.cell? ⟨g, i, none⟩ = some (.int .i64 z) := by
 obtain ⟨cur, hl, hc⟩ := h.cells
 rw [Loc.cell hl, hc i z hz]
theorem RowG.frz (h : RowG w g cap l) (i : Nat) : w.frozen? ⟨g, i, none⟩ = false := by
 obtain ⟨cur, hl, -⟩ := h.cells
 exact Loc.frz hl i
theorem RowG.ne_loc {k : Nat} {t : TypeId} {cs : Array Value} (h : RowG w g cap l) (L : Loc w k t cs) (ht : 3 ≠ t) : g ≠ k := by
 obtain ⟨cur, hl, -⟩ := h.cells
 exact loc_ne hl L ht
theorem RowG.vals (h : RowG w g cap l) (hz : ∀ z ∈ l, -9223372036854775808 ≤ z ∧ z ≤ 9223372036854775807) : IntsV w (.slice (some ⟨g, 0, none⟩) l.length cap) l :=
 ⟨_, _, rfl, h.le, h.lc, fun _ => ⟨_, rfl, h.lt, fun i z hi => by rw [add0]; exact h.cell hi⟩, hz⟩
theorem RowG.set (h : RowG w g cap l) (x : Nat) (z : Int) : RowG (w.setCell ⟨g, x, none⟩ (.int .i64 z)) g cap (l.set x z) := by
 obtain ⟨cur, hl, hc⟩ := h.cells
 refine ⟨by simpa using h.le, h.lc, _, hl.set x (.int .i64 z), fun i y hy => ?_⟩
 by_cases hi : i = x
 ·subst hi
  have hlt : i < l.length := by have := (List.getElem?_eq_some_iff.1 hy).1; simpa using this
  rw [List.getElem?_set_self hlt] at hy
  injection hy with hy
  subst hy
  have hc' := hc i _ (List.getElem?_eq_getElem hlt)
  rw [Array.getElem?_setIfInBounds_self_of_lt (by exact (Array.getElem?_eq_some_iff.1 hc').1)]
 ·rw [List.getElem?_set_ne (fun e => hi e.symm)] at hy
  rw [Array.getElem?_setIfInBounds_ne (fun e => hi e.symm)]
  exact hc i y hy
theorem RowI.rowG {n : Nat} (h : RowI w g l) (hn : l.length = n) (hm : n ≤ maxLen) : RowG w g n l := ⟨by omega, hm, _, h, fun i z hz => by rw [List.getElem?_toArray, List.getElem?_map, hz]; rfl⟩
end

/-- The partition of the first c labels, by a map of k classes. -/
structure OfInv (zs xs : List Int) (c k : Nat) (f : Lit → Option Int) : Prop where
 len : xs.length = c
 at_ : ∀ (i : Nat) (z : Int), i < c → zs[i]? = some z → ∃ x, xs[i]? = some x ∧ f (.int .i64 z) = some x
 rng : ∀ z x, f (.int .i64 z) = some x → 0 ≤ x ∧ x < (k : Int)
 inj : ∀ z z' x, f (.int .i64 z) = some x → f (.int .i64 z') = some x → z = z'
 kc : k ≤ c
theorem OfInv.start (zs : List Int) : OfInv zs [] 0 0 (fun _ => none) := ⟨rfl, fun i z hi => absurd hi (by omega), fun z x h => (by cases h), fun z z' x h => (by cases h), Nat.le_refl _⟩
theorem OfInv.seen {zs xs : List Int} {c k : Nat} {f : Lit → Option Int} (h : OfInv zs xs c k f) {z x : Int} (hz : zs[c]? = some z) (hx : f (.int .i64 z) = some x) : OfInv zs (xs ++ [x]) (c + 1) k f := by
 refine ⟨by rw [List.length_append, h.len]; rfl, fun i y hi hy => ?_, h.rng, h.inj, by have := h.kc; omega⟩
 by_cases e : i < c
 ·obtain ⟨a, h1, h2⟩ := h.at_ i y e hy
  exact ⟨a, by rw [List.getElem?_append_left (by rw [h.len]; exact e)]; exact h1, h2⟩
 ·obtain rfl : i = c := by omega
  rw [hz] at hy
  injection hy with hy
  subst hy
  exact ⟨x, by rw [List.getElem?_append_right (by rw [h.len]; exact Nat.le_refl _), h.len, Nat.sub_self]; rfl, hx⟩
theorem OfInv.new {zs xs : List Int} {c k : Nat} {f : Lit → Option Int} (h : OfInv zs xs c k f) {z : Int} (hz : zs[c]? = some z) (hx : f (.int .i64 z) = none) : OfInv zs (xs ++ [(k : Int)]) (c + 1) (k + 1) (putL f (.int .i64 z) k) := by
 have hput : ∀ y, putL f (.int .i64 z) k (.int .i64 y) = if y = z then some (k : Int) else f (.int .i64 y) := fun y => by
  by_cases e : y = z
  ·subst e
   rw [putL_same, if_pos rfl]
  ·rw [putL_other f (fun e' => e (by injection e')), if_neg e]
 refine ⟨by rw [List.length_append, h.len]; rfl, fun i y hi hy => ?_, fun y x hy => ?_, fun y y' x hy hy' => ?_, by have := h.kc; omega⟩
 ·by_cases e : i < c
  ·obtain ⟨a, h1, h2⟩ := h.at_ i y e hy
   refine ⟨a, by rw [List.getElem?_append_left (by rw [h.len]; exact e)]; exact h1, ?_⟩
   rw [hput, if_neg (fun e' => by rw [e'] at h2; rw [hx] at h2; cases h2)]
   exact h2
  ·obtain rfl : i = c := by omega
   rw [hz] at hy
   injection hy with hy
   subst hy
   exact ⟨k, by rw [List.getElem?_append_right (by rw [h.len]; exact Nat.le_refl _), h.len, Nat.sub_self]; rfl, by rw [hput, if_pos rfl]⟩
 ·rw [hput] at hy
  by_cases e : y = z
  ·rw [if_pos e] at hy
   injection hy with hy
   omega
  ·rw [if_neg e] at hy
   have := h.rng y x hy
   omega
 ·rw [hput] at hy hy'
  by_cases e : y = z
  ·by_cases e' : y' = z
   ·rw [e, e']
   ·rw [if_pos e] at hy
    rw [if_neg e'] at hy'
    injection hy with hy
    have := h.rng y' x hy'
    omega
  ·by_cases e' : y' = z
   ·rw [if_pos e'] at hy'
    rw [if_neg e] at hy
    injection hy' with hy'
    have := h.rng y x hy
    omega
   ·rw [if_neg e] at hy
    rw [if_neg e'] at hy'
    exact h.inj y y' x hy hy'

/-- The same elements together, class numbers below the length. -/
def OfRes (zs xs : List Int) : Prop := xs.length = zs.length ∧ (∀ (i j : Nat) (x y a b : Int), zs[i]? = some x → zs[j]? = some y → xs[i]? = some a → xs[j]? = some b → (a = b ↔ x = y)) ∧ ∀ x ∈ xs, 0 ≤ x ∧ x < (zs.length : Int)
theorem OfInv.res {zs xs : List Int} {k n : Nat} {f : Lit → Option Int} (hn : zs.length = n) (h : OfInv zs xs n k f) : OfRes zs xs := by
 have key : ∀ (i : Nat) (x a : Int), zs[i]? = some x → xs[i]? = some a → f (.int .i64 x) = some a := fun i x a hx ha => by
  have := (List.getElem?_eq_some_iff.1 hx).1
  obtain ⟨y, h1, h2⟩ := h.at_ i x (by omega) hx
  rw [ha] at h1
  injection h1 with h1
  rw [h1]; exact h2
 refine ⟨by rw [h.len, hn], fun i j x y a b h1 h2 h3 h4 => ?_, fun a ha => ?_⟩
 ·have e1 := key i x a h1 h3
  have e2 := key j y b h2 h4
  constructor
  ·intro e
   subst e
   exact h.inj x y a e1 e2
  ·intro e
   subst e
   rw [e1] at e2
   injection e2
 ·obtain ⟨i, hi, rfl⟩ := List.getElem_of_mem ha
  have hi2 : i < zs.length := by rw [h.len] at hi; omega
  have := h.rng _ _ (key i _ _ (List.getElem?_eq_getElem hi2) (List.getElem?_eq_getElem hi))
  have := h.kc
  omega

set_option maxRecDepth 100000 in
set_option maxHeartbeats 8000000 in
theorem of_any' (w : World) (v : Value) (zs : List Int) (h : IntsV w v zs) (h1 : 1 ≤ zs.length) (hl : zs.length ≤ 62) :
 Calls Tryz.prog 364 #[v] w fun e w' => (∃ (g cap : Nat) (xs : List Int), e = .returned (.slice (some ⟨g, 0, none⟩) zs.length cap) ∧ w.heap.size ≤ g ∧ Hid (RowG w' g cap xs) ∧ Hid (OfRes zs xs)) ∧ Below w.heap.size w w' := by
 have H := Lib.hid h
 obtain ⟨A, cap, rfl, h, l1, l2⟩ := h.op
 clear h
 obtain ⟨n, hn⟩ : ∃ n, zs.length = n := ⟨_, rfl⟩
 have HN := Lib.hid hn
 have H2 : Hid (IntsV w (.slice A n cap) zs) := by have h9 := H.out; rw [hn] at h9; exact h9
 rw [hn] at l1 hl h1 ⊢
 clear hn H
 have hmk := run_makeMap (P := Tryz.prog) 186 w
 go_enter Tryz.func364, Tryz.ntmps364
 go_wp2_with (at_make; refine wpList_make0 _ rfl _ _ rfl Tryz.underlying27 info_int1 (w.heap.size + 1) n rfl rfl rfl (by omega) (by unfold maxLen; omega) (by simp only [World.size_alloc]; omega) ?_)
 intro w2 hown hg2
 have HB2 : Hid (Below w.heap.size w w2) := below_none ((Below.refl _ _).alloc (Nat.le_refl _) _) hg2 (by simp only [World.size_alloc]; omega)
 have hB2 := HB2.out
 have y2 := hB2.size; (try simp only [zs] at y2)
 have y3 := hg2.size
 (try simp only [World.size_alloc] at y3)
 have HM2 : Hid (MapF w2 3 w.heap.size 0 0 (fun _ => none)) := (MapF.made w 3).grown hg2 (by simp)
 have HO2 : Hid (Own1 w2 (w.heap.size + 1) 3 (.slice (some ⟨w.heap.size + 1, 0, none⟩) 0 n) (([] : List Int).map (Value.int .i64))) := hown
 clear hown hg2
 go_wp2_with fail
 go_loopw [4, 15] (fun ov i wr => ∃ (c k : Nat) (xs : List Int) (f : Lit → Option Int) (vo : Value), c ≤ n ∧ i = .int .i64 c ∧ ov = vo ∧ Hid (Own1 wr (w.heap.size + 1) 3 vo (xs.map (Value.int .i64))) ∧ Hid (MapF wr 3 w.heap.size c k f) ∧ Hid (OfInv zs xs c k f) ∧ Below w.heap.size w wr ∧ w.heap.size + 1 ≤ wr.heap.size) (fun _ i _ => n - (intOf i).toNat)
 case atStart => exact ⟨0, 0, [], _, _, by omega, rfl, rfl, HO2, HM2, OfInv.start zs, HB2.out, by omega⟩
 case round =>
  clear HO2 HM2 HB2
  obtain ⟨c, k, xs, f, vo, hc, rfl, hvo, hO, hM, hI, hB, hsz⟩ := hrel
  rw [hvo]
  clear hvo
  obtain ⟨wo, rfl⟩ : ∃ wo : World, wo = wr := ⟨_, rfl⟩
  have y5 := hB.size; (try simp only [zs] at y5)
  obtain ⟨Av, mv, cv, rfl⟩ : ∃ A m c, vo = Value.slice A m c := by
   rcases hO.out.2 with ⟨rfl, -⟩ | ⟨g, cap, cur, rfl, -⟩
   ·exact ⟨_, _, _, rfl⟩
   ·exact ⟨_, _, _, rfl⟩
  have hlen : (xs.map (Value.int .i64)).length = c := by rw [List.length_map]; exact hI.out.len
  by_cases hlt : c < n
  ·obtain ⟨z, hz⟩ : ∃ z, zs[c]? = some z := ⟨_, List.getElem?_eq_getElem (by rw [HN.out]; exact hlt)⟩
   obtain ⟨a, rfl, hab, hcell, zb⟩ := (H2.out.keep (.of_below hB)).at hz
   have HZ := Lib.hid hz
   have k0 : (0 : Int) ≤ (c : Int) := by omega
   have k1 : (c : Int) < (n : Int) := by omega
   have hrun := hM.out.look keyed_int Tryz.underlying186 (key_int zb)
   obtain ⟨q, hq⟩ : ∃ q, f (.int .i64 z) = q := ⟨_, rfl⟩
   have HQ := Lib.hid hq
   have hnb : ∀ g, (Value.slice Av mv cv).ownBlock = some g → w.heap.size + 1 ≤ g := fun g hg => (Own1.lt hO.out hg).2
   have HNB := Lib.hid hnb
   have hkc := hI.out.kc
   rw [hq] at hrun
   clear hz hq hnb
   cases q with
   | some x =>
     have hr2 : (Instr.lookup 186 (.map (some w.heap.size)) (.int .i64 z) true).run Tryz.prog wo = .ok (.tuple #[.int .i64 x, .bool true]) wo := hrun
     have hownA : Own1 (wo.alloc (.cells #[.int .i64 x] 3)) (w.heap.size + 1) 3 (.slice Av mv cv) (xs.map (Value.int .i64)) := hO.out.below (below1 _ _)
     clear hrun
     go_wp2_with (at_builtin; refine wpList_pushZ _ rfl _ _ rfl (w.heap.size + 1) _ (xs.map (Value.int .i64)) rfl hownA wo.heap.size (.int .i64 x) rfl (made1 wo #[.int .i64 x] 3) rfl (by omega) (by simp only [World.size_alloc]; omega) ?_)
     intro gA capA w8 hoa8 hg8 ho8 hl8
     have y8 := hg8.size
     (try simp only [World.size_alloc] at y8)
     have HO8 : Hid (Own1 w8 (w.heap.size + 1) 3 (.slice (some ⟨gA, 0, none⟩) (c + 1) capA) ((xs ++ [x]).map (Value.int .i64))) := by show Own1 _ _ _ _ _; rw [List.map_append]; exact hoa8
     have HM8 : Hid (MapF w8 3 w.heap.size (c + 1) k f) := ((hM.out.below (below1 _ _) hM.out.lt).grown hg8 (fun e => by have := HNB.out _ e.symm; omega)).mono (by omega)
     have HI8 : Hid (OfInv zs (xs ++ [x]) (c + 1) k f) := hI.out.seen HZ.out HQ.out
     have HB8 : Hid (Below w.heap.size w w8) := below_own (hB.alloc y5 _) hownA hg8 (by omega) (by simp only [World.size_alloc]; omega)
     clear hownA hoa8 hg8 ho8 hr2
     go_wp2_with fail
     go_roundw
     case rel => exact ⟨c + 1, k, _, _, _, by omega, by go_num, rfl, HO8, HM8, HI8, HB8.out, by omega⟩
     case measure => simp only [intOf]; omega
   | none =>
     have hr2 : (Instr.lookup 186 (.map (some w.heap.size)) (.int .i64 z) true).run Tryz.prog wo = .ok (.tuple #[.int .i64 0, .bool false]) wo := hrun
     have hln := fun ty => hM.out.len Tryz.underlying186 ty
     clear hrun
     go_wp2_with (at_mapUpdate; refine wpList_putF _ rfl _ _ _ rfl keyed_int Tryz.underlying186 rfl hM.out (by omega) (.int .i64 z) (.int .i64 z) (k : Int) rfl rfl (key_int zb) (by omega) (k + 1) (by rw [HQ.out]; rfl) ?_)
     intro w7 hM7 hg7
     have y7 := hg7.size
     have HO7 : Hid (Own1 w7 (w.heap.size + 1) 3 (.slice Av mv cv) (xs.map (Value.int .i64))) := World.ownsRow.kept hO.out hg7 (by
      rcases h : (Value.slice Av mv cv).ownBlock with _ | g
      ·exact .inl rfl
      ·exact .inr (fun e => by have := HNB.out g h; injection e with e; omega))
     have HM7 : Hid (MapF w7 3 w.heap.size (c + 1) (k + 1) (putL f (.int .i64 z) k)) := hM7
     have HB7 : Hid (Below w.heap.size w w7) := hB.grown hg7 y5 (fun q hq => by injection hq with hq; omega)
     have HI8 : Hid (OfInv zs (xs ++ [(k : Int)]) (c + 1) (k + 1) (putL f (.int .i64 z) k)) := hI.out.new HZ.out HQ.out
     have hownA : Own1 (w7.alloc (.cells #[.int .i64 (k : Int)] 3)) (w.heap.size + 1) 3 (.slice Av mv cv) (xs.map (Value.int .i64)) := HO7.out.below (below1 _ _)
     clear hM7 hg7 hr2 hln hcell
     go_wp2_with (at_builtin; refine wpList_pushZ _ rfl _ _ rfl (w.heap.size + 1) _ (xs.map (Value.int .i64)) rfl hownA w7.heap.size (.int .i64 (k : Int)) rfl (made1 w7 #[.int .i64 (k : Int)] 3) rfl (by omega) (by simp only [World.size_alloc]; omega) ?_)
     intro gA capA w8 hoa8 hg8 ho8 hl8
     have y8 := hg8.size
     (try simp only [World.size_alloc] at y8)
     have HO8 : Hid (Own1 w8 (w.heap.size + 1) 3 (.slice (some ⟨gA, 0, none⟩) (c + 1) capA) ((xs ++ [(k : Int)]).map (Value.int .i64))) := by show Own1 _ _ _ _ _; rw [List.map_append]; exact hoa8
     have HM8 : Hid (MapF w8 3 w.heap.size (c + 1) (k + 1) (putL f (.int .i64 z) k)) := (HM7.out.below (below1 _ _) HM7.out.lt).grown hg8 (fun e => by have := HNB.out _ e.symm; omega)
     have HB8 : Hid (Below w.heap.size w w8) := below_own (HB7.out.alloc (by omega) _) hownA hg8 (by omega) (by simp only [World.size_alloc]; omega)
     clear hownA hoa8 hg8 ho8
     go_wp2_with fail
     go_roundw
     case rel => exact ⟨c + 1, k + 1, _, _, _, by omega, by go_num, rfl, HO8, HM8, HI8, HB8.out, by omega⟩
     case measure => simp only [intOf]; omega
  ·obtain rfl : c = n := by omega
   have HR : Hid (OfRes zs xs) := hI.out.res HN.out
   have HV : Hid (∃ g, Av = some ⟨g, 0, none⟩ ∧ mv = c ∧ w.heap.size ≤ g ∧ RowG wo g cv xs) := by
    have hm9 := hO.out.2
    rcases hO.out.op with ⟨-, h9⟩ | ⟨g, cap, cur, e, h3, h4, h5, h6⟩
    ·rw [h9] at hlen; simp at hlen; omega
    ·injection e with e1 e2 e3
     rw [hlen] at e2 h4
     refine ⟨g, e1, e2, by omega, by rw [hI.out.len, e3]; exact h4, ?_, cur, h5, fun i z hz => h6 i _ (by rw [List.getElem?_map, hz]; rfl)⟩
     rcases hm9 with ⟨h', _⟩ | ⟨g', cap', cur', h', _, _, _, h2, _, _⟩
     ·cases h'; simp at e1
     ·injection h' with q1 q2 q3
      rw [q3]; exact h2
   obtain ⟨g, rfl, rfl, hg, -⟩ := HV.out
   have HW : Hid (RowG wo g cv xs) := by
    obtain ⟨g', h1, -, -, h3⟩ := HV.out
    injection h1 with h1
    injection h1 with h1
    subst h1
    exact h3
   go_wp2_with fail
   go_ret
   exact ⟨⟨g, cv, rfl, hg, xs, HW, HR⟩, hB⟩

/- strategy.Joint, adaptive.allJoint. -/

/-- The answer to a question. -/
def col (L : List (List Int)) (q : Int) (i : Nat) : Option Int := ((L[q.toNat]?).getD [])[i]?
/-- A partition by the answers to questions. -/
def JRes (n : Nat) (L : List (List Int)) (asks J : List Int) : Prop := J.length = n ∧ (∀ (i j : Nat) (x y : Int), J[i]? = some x → J[j]? = some y → (x = y ↔ ∀ q ∈ asks, col L q i = col L q j)) ∧ ∀ x ∈ J, 0 ≤ x ∧ x < (n : Int)

theorem mul_uniq {a b v u n : Int} (hv : 0 ≤ v ∧ v < n) (hu : 0 ≤ u ∧ u < n) (h : a * n + v = b * n + u) : a = b ∧ v = u := by
 have hn : n ≠ 0 := by omega
 have e1 : (a * n + v) / n = a := by rw [Int.add_comm, Int.add_mul_ediv_right _ _ hn, Int.ediv_eq_zero_of_lt hv.1 hv.2, Int.zero_add]
 have e2 : (b * n + u) / n = b := by rw [Int.add_comm, Int.add_mul_ediv_right _ _ hn, Int.ediv_eq_zero_of_lt hu.1 hu.2, Int.zero_add]
 have e : a = b := by rw [← e1, ← e2, h]
 subst e
 exact ⟨rfl, by omega⟩

theorem JRes.start {n : Nat} (hn : 1 ≤ n) (L : List (List Int)) : JRes n L [] (List.replicate n 0) := by
 refine ⟨by simp, fun i j x y hx hy => ?_, fun x hx => ?_⟩
 ·have h1 := List.eq_of_mem_replicate (List.mem_of_getElem? hx)
  have h2 := List.eq_of_mem_replicate (List.mem_of_getElem? hy)
  subst h1 h2
  simp
 ·have := List.eq_of_mem_replicate hx
  omega

theorem JRes.step {n : Nat} {L : List (List Int)} {asks xs ys xs' V : List Int} {q : Int} (h : JRes n L asks xs) (hV : (L[q.toNat]?).getD [] = V) (hVl : V.length = n) (hVc : ∀ (i : Nat) (v : Int), V[i]? = some v → 0 ≤ v ∧ v < (n : Int))
 (hyl : ys.length = n) (hy : ∀ (i : Nat) (x v : Int), i < n → xs[i]? = some x → V[i]? = some v → ys[i]? = some (x * n + v)) (hO : OfRes ys xs') : JRes n L (asks ++ [q]) xs' := by
 refine ⟨by rw [hO.1, hyl], fun i j a b ha hb => ?_, fun x hx => by have := hO.2.2 x hx; rw [hyl] at this; exact this⟩
 have hi : i < n := by have := (List.getElem?_eq_some_iff.1 ha).1; rw [hO.1, hyl] at this; exact this
 have hj : j < n := by have := (List.getElem?_eq_some_iff.1 hb).1; rw [hO.1, hyl] at this; exact this
 have hxi := List.getElem?_eq_getElem (l := xs) (i := i) (by rw [h.1]; exact hi)
 have hxj := List.getElem?_eq_getElem (l := xs) (i := j) (by rw [h.1]; exact hj)
 have hvi := List.getElem?_eq_getElem (l := V) (i := i) (by rw [hVl]; exact hi)
 have hvj := List.getElem?_eq_getElem (l := V) (i := j) (by rw [hVl]; exact hj)
 have h1 := hO.2.1 i j _ _ a b (hy i _ _ hi hxi hvi) (hy j _ _ hj hxj hvj) ha hb
 have h2 := h.2.1 i j _ _ hxi hxj
 rw [h1]
 have hci : col L q i = some V[i] := by unfold col; rw [hV]; exact hvi
 have hcj : col L q j = some V[j] := by unfold col; rw [hV]; exact hvj
 constructor
 ·intro e q' hq'
  obtain ⟨e1, e2⟩ := mul_uniq (hVc i _ hvi) (hVc j _ hvj) e
  rcases List.mem_append.1 hq' with hq' | hq'
  ·exact h2.1 e1 q' hq'
  ·obtain rfl : q' = q := by simpa using hq'
   rw [hci, hcj, e2]
 ·intro hall
  have e1 := h2.2 (fun q' hq' => hall q' (List.mem_append_left _ hq'))
  have e2 := hall q (by simp)
  rw [hci, hcj] at e2
  injection e2 with e2
  rw [e1, e2]

set_option maxRecDepth 100000 in
set_option maxHeartbeats 16000000 in
theorem joint_any (w : World) (n : Nat) (vm va : Value) (L : List (List Int)) (asks : List Int) (h : IMat w vm L) (hm : MenuOk (n : Int) L) (ha : IntsV w va asks) (hq : ∀ q ∈ asks, 0 ≤ q ∧ q < (L.length : Int)) :
 Calls Tryz.prog 258 #[.agg #[.int .i64 (n : Int), vm], va] w fun e w' => (∃ (g cap : Nat) (J : List Int), e = .returned (.tuple #[.slice (some ⟨g, 0, none⟩) n cap, .int .i64 0]) ∧ Hid (RowG w' g cap J) ∧ Hid (JRes n L asks J)) ∧ Below w.heap.size w w' := by
 have H := Lib.hid h
 have HA := Lib.hid ha
 have HMN := Lib.hid hm
 have HQ := Lib.hid hq
 obtain ⟨A, cap0, rfl, h, l1, l2⟩ := h.op
 obtain ⟨B, cap1, rfl, ha, l3, l4⟩ := ha.op
 have hn62 : 1 ≤ n ∧ n ≤ 62 := by have := hm.1; omega
 clear h ha hm hq
 obtain ⟨m, hml⟩ : ∃ m, L.length = m := ⟨_, rfl⟩
 have HM := Lib.hid hml
 have H2 : Hid (IMat w (.slice A m cap0) L) := by have h9 := H.out; rw [hml] at h9; exact h9
 obtain ⟨k, hk⟩ : ∃ k, asks.length = k := ⟨_, rfl⟩
 have HK := Lib.hid hk
 have HA2 : Hid (IntsV w (.slice B k cap1) asks) := by have h9 := HA.out; rw [hk] at h9; exact h9
 rw [hml] at l1 ⊢
 rw [hk] at l3 ⊢
 have hm8 : m ≤ 8 := by have := HMN.out.2.1; omega
 have hkb : k ≤ 9223372036854775807 := by unfold maxLen at l4; omega
 clear hml H hk HA
 have L1 := made1 w #[.int .i64 (n : Int), .slice A m cap0] 84
 go_enter Tryz.func258, Tryz.ntmps258
 go_wp2_with fail
 refine (checkmenu_any _ (n : Int) _ L (H2.out.keep kp)).mono ?_
 rintro e w1 ⟨⟨r, rfl, hr⟩, hb1⟩
 have y1 := hb1.size; (try simp only [zs] at y1)
 obtain rfl : r = 0 := hr.out.1 HMN.out
 have HL1 : Hid (Loc w1 w.heap.size 84 #[.int .i64 (n : Int), .slice A m cap0]) := by show Loc _ _ _ _; exact L1.to
 have HB1 : Hid (Below w.heap.size w w1) := by show Below _ _ _; exact bel
 have y1' : w.heap.size + 1 ≤ w1.heap.size := by omega
 clear hr L1
 go_wp2_with fail
 go_loopw [21] (fun i wr => ∃ (c : Nat), c ≤ k ∧ i = .int .i64 c ∧ Hid (Loc wr w.heap.size 84 #[.int .i64 (n : Int), .slice A m cap0]) ∧ Below w.heap.size w wr) (fun i _ => k - (intOf i).toNat)
 case atStart => exact ⟨0, by omega, rfl, HL1, HB1.out⟩
 case round =>
  clear HL1 HB1
  obtain ⟨c, hc, rfl, hL, hB⟩ := hrel
  obtain ⟨wo, rfl⟩ : ∃ wo : World, wo = wr := ⟨_, rfl⟩
  have y5 := hB.size; (try simp only [zs] at y5)
  by_cases hlt : c < k
  ·obtain ⟨z, hz⟩ : ∃ z, asks[c]? = some z := ⟨_, List.getElem?_eq_getElem (by rw [HK.out]; exact hlt)⟩
   obtain ⟨a, rfl, hab, hcell, -, -⟩ := (HA2.out.keep (.of_below hB)).at hz
   have hzq := HQ.out z (List.mem_of_getElem? hz)
   rw [HM.out] at hzq
   have k0 : (0 : Int) ≤ (c : Int) := by omega
   have k1 : (c : Int) < (k : Int) := by omega
   have d1 : decide (z < 0) = false := decide_eq_false (by omega)
   have d2 : decide ((m : Int) ≤ z) = false := decide_eq_false (by omega)
   obtain ⟨e1, f1, -⟩ := Loc.all hL.out (w' := wo)
   clear hz hzq
   go_wp2_with fail
   go_roundw
   case rel => exact ⟨c + 1, by omega, by go_num, hL, bel⟩
   case measure => simp only [intOf]; omega
  ·obtain rfl : c = k := by omega
   obtain ⟨e1, f1, -⟩ := Loc.all hL.out (w' := wo)
   have hBs : w.heap.size < wo.heap.size := Loc.lt hL.out
   go_wp2_with (at_make; refine wpList_makeN _ rfl _ _ rfl Tryz.underlying27 info_int1 rfl wo.heap.size n rfl rfl rfl rfl (by omega) (by unfold maxLen; omega) (Nat.le_refl _) ?_)
   intro w4 hrow hg4
   have hb4 : Below wo.heap.size wo w4 := below_none (Below.refl _ _) hg4 (Nat.le_refl _)
   have HB4 : Hid (Below w.heap.size w w4) := hB.trans (hb4.mono y5)
   have hB4 := HB4.out
   have y4 := hB4.size; (try simp only [zs] at y4)
   have HL4 : Hid (Loc w4 w.heap.size 84 #[.int .i64 (n : Int), .slice A m cap0]) := Loc.below hL.out hb4
   have HR4 : Hid (RowG w4 wo.heap.size n (List.replicate n 0)) := (rowI_zeros hrow).rowG (by simp) (by unfold maxLen; omega)
   have HJ4 : Hid (JRes n L (asks.take 0) (List.replicate n 0)) := JRes.start hn62.1 L
   clear e1 f1 hrow hg4 hb4
   go_wp2_with fail
   go_loopw [9, 40] (fun lv i wr => ∃ (p g cap : Nat) (xs : List Int), p ≤ c ∧ i = .int .i64 p ∧ lv = .slice (some ⟨g, 0, none⟩) n cap ∧ w.heap.size ≤ g ∧ Hid (RowG wr g cap xs) ∧ Hid (JRes n L (asks.take p) xs) ∧ Hid (Loc wr w.heap.size 84 #[.int .i64 (n : Int), .slice A m cap0]) ∧ Below w.heap.size w wr) (fun _ i _ => c - (intOf i).toNat)
   case atStart => exact ⟨0, _, _, _, by omega, rfl, rfl, by omega, HR4, HJ4, HL4, HB4.out⟩
   case round =>
    clear HR4 HJ4 HL4 HB4 hL hB4 y4 hB hBs y5
    obtain ⟨p, g, cap, xs, hp, rfl, rfl, hg, hR, hJ, hL, hB⟩ := hrel
    obtain ⟨wp, rfl⟩ : ∃ wp : World, wp = wr := ⟨_, rfl⟩
    have y6 := hB.size; (try simp only [zs] at y6)
    by_cases hlt2 : p < c
    ·obtain ⟨q, hqz⟩ : ∃ z, asks[p]? = some z := ⟨_, List.getElem?_eq_getElem (by rw [HK.out]; exact hlt2)⟩
     obtain ⟨a, rfl, hab, hcell, -, -⟩ := (HA2.out.keep (.of_below hB)).at hqz
     have hq2 := HQ.out q (List.mem_of_getElem? hqz)
     rw [HM.out] at hq2
     obtain ⟨qn, rfl⟩ : ∃ qn : Nat, q = (qn : Int) := ⟨q.toNat, by omega⟩
     obtain ⟨V, hV⟩ : ∃ l, L[qn]? = some l := ⟨_, List.getElem?_eq_getElem (by rw [HM.out]; omega)⟩
     obtain ⟨aL, E, d, rfl, hab2, hcell2, hnum, l5, l6⟩ := H2.out.at hV
     have hvm := HMN.out.2.2 V (List.mem_of_getElem? hV)
     have hVl : V.length = n := by have := hvm.1; omega
     have HVL := Lib.hid hVl
     rw [hVl] at hcell2 l5 hnum
     have HNUM := Lib.hid hnum
     have hcell2 : wp.cell? (aL.add qn) = some (.slice E n d) := cell_keep (X := fun _ => False) hcell2 (by rw [add_block]; exact hab2) id (.of_below hB)
     have HVE : Hid ((L[((qn : Nat) : Int).toNat]?).getD [] = V) := by show _ = _; rw [Int.toNat_natCast, hV]; rfl
     have HVC : Hid (∀ (i : Nat) (v : Int), V[i]? = some v → 0 ≤ v ∧ v < (n : Int)) := fun i v hv => by
      have h1 := canGo_le V 0 (by omega) hvm.2 i v hv
      have h2 := (List.getElem?_eq_some_iff.1 hv).1
      omega
     have HTK : Hid (asks.take (p + 1) = asks.take p ++ [((qn : Nat) : Int)]) := by show _ = _; rw [List.take_add_one, hqz]; rfl
     have k0 : (0 : Int) ≤ (p : Int) := by omega
     have k1 : (p : Int) < (c : Int) := by omega
     have k2 : (0 : Int) ≤ (qn : Int) := by omega
     have k3 : (qn : Int) < (m : Int) := by omega
     obtain ⟨e1, f1, -⟩ := Loc.all hL.out (w' := wp)
     clear hqz hq2 hV hvm hVl hnum
     go_wp2_with fail
     clear e1 f1 hcell hcell2
     go_loopw [50] (fun i wr => ∃ (s : Nat) (ys : List Int), s ≤ n ∧ i = .int .i64 s ∧ Hid (ys.length = n) ∧ Hid (∀ (i : Nat) (x v : Int), i < s → xs[i]? = some x → V[i]? = some v → ys[i]? = some (x * n + v)) ∧ Hid (∀ i, s ≤ i → ys[i]? = xs[i]?) ∧ Hid (RowG wr g cap ys) ∧ Hid (Loc wr w.heap.size 84 #[.int .i64 (n : Int), .slice (some aL) m cap0]) ∧ Below w.heap.size w wr) (fun i _ => n - (intOf i).toNat)
     case atStart => exact ⟨0, xs, by omega, rfl, Lib.hid hJ.out.1, Lib.hid (fun i x v hi => absurd hi (by omega)), Lib.hid (fun _ _ => rfl), hR, hL, bel⟩
     case round =>
      clear hR hL
      obtain ⟨s, ys, hs, rfl, hyl, hy1, hy2, hR, hL, hB7⟩ := hrel
      obtain ⟨wq, rfl⟩ : ∃ wq : World, wq = wr := ⟨_, rfl⟩
      have y7 := hB7.size; (try simp only [zs] at y7)
      by_cases hlt3 : s < n
      ·obtain ⟨v, hv⟩ : ∃ z, V[s]? = some z := ⟨_, List.getElem?_eq_getElem (by rw [HVL.out]; exact hlt3)⟩
       obtain ⟨x, hx⟩ : ∃ z, xs[s]? = some z := ⟨_, List.getElem?_eq_getElem (by rw [hJ.out.1]; exact hlt3)⟩
       have hbV : Hid (IntsV wq (.slice E n d) V) := HNUM.out.keep (.of_below hB7)
       obtain ⟨aV, rfl, hab3, hcell3, -, -⟩ := hbV.out.at hv
       have hvb := HVC.out s v hv
       have hxb := hJ.out.2.2 x (List.mem_of_getElem? hx)
       have hmb : 0 ≤ x * (n : Int) ∧ x * (n : Int) ≤ 62 * 62 := ⟨Int.mul_nonneg hxb.1 (by omega), by
        have h1 := Int.mul_le_mul (show x ≤ 62 by omega) (show (n : Int) ≤ 62 by omega) (by omega) (by decide)
        exact h1⟩
       obtain ⟨X, hX⟩ : ∃ X, x * (n : Int) = X := ⟨_, rfl⟩
       obtain ⟨Y, hY⟩ : ∃ Y, X + v = Y := ⟨_, rfl⟩
       have k4 : IntKind.i64.wrap (x * (n : Int)) = X := by rw [hX] at hmb ⊢; rw [IntKind.wrap_i64]; omega
       have k5 : IntKind.i64.wrap (X + v) = Y := by rw [hX] at hmb; rw [hY, IntKind.wrap_i64]; omega
       have k6 : (0 : Int) ≤ (s : Int) := by omega
       have k7 : (s : Int) < (n : Int) := by omega
       have hcy := hR.out.cell (by rw [hy2.out s (Nat.le_refl _)]; exact hx)
       have HLS : Hid (wq.cell? ⟨g, s, none⟩ = some (.int .i64 x) ∧ wq.cell? ⟨w.heap.size, 0, none⟩ = some (.int .i64 (n : Int))) := ⟨hcy, Loc.cell hL.out 0⟩
       have HG1 : Hid (∀ i, wq.frozen? ⟨g, i, none⟩ = false) := hR.out.frz
       have HS1 : Hid (g < wq.heap.size) := hR.out.lt
       have HEND : Hid (∀ W, wq.setCell ⟨g, s, none⟩ (.int .i64 Y) = W → (ys.set s Y).length = n ∧ (∀ (i : Nat) (x v : Int), i < s + 1 → xs[i]? = some x → V[i]? = some v → (ys.set s Y)[i]? = some (x * n + v)) ∧ (∀ i, s + 1 ≤ i → (ys.set s Y)[i]? = xs[i]?) ∧ RowG W g cap (ys.set s Y) ∧ Loc W w.heap.size 84 #[.int .i64 (n : Int), .slice (some aL) m cap0] ∧ Below w.heap.size w W) := fun W hW => by
        subst hW
        refine ⟨by rw [List.length_set]; exact hyl.out, fun i x' v' hi hx' hv' => ?_, fun i hi => ?_, hR.out.set s Y, Loc.far hL.out (p := ⟨g, s, none⟩) (Ne.symm (hR.out.ne_loc hL.out (by decide))) _, hB7.setCell (by show w.heap.size ≤ g; exact hg) _⟩
        ·by_cases e : i = s
         ·subst e
          rw [hx] at hx'
          rw [hv] at hv'
          injection hx' with hx'
          injection hv' with hv'
          subst hx' hv'
          rw [List.getElem?_set_self (by rw [hyl.out]; exact hlt3), hX, hY]
         ·rw [List.getElem?_set_ne (fun e' => e e'.symm)]
          exact hy1.out i x' v' (by omega) hx' hv'
        ·rw [List.getElem?_set_ne (by omega)]
         exact hy2.out i (by omega)
       clear hv hx hbV hcy hmb hX hY
       go_wp2_with fail
       clear hcell3
       refine wp_region_noPanic ?_
       refine wp_region_heldK (k := 12) (S := (fun W => W.cell? ⟨g, s, none⟩ = some (.int .i64 x) ∧ W.cell? ⟨w.heap.size, 0, none⟩ = some (.int .i64 (n : Int)))) (by kernel_rfl) ?_ (fun hHeld => ?_)
       ·exact HLS.out
       refine tkK 0 ?_
       (try simp only [Act.put, ly])
       refine tkK 1 ?_
       (try simp only [Act.put, ly])
       refine tkK 2 ?_
       (try simp only [Act.put, ly])
       refine tkK 3 ?_
       (try simp only [Act.put, ly])
       refine tkK 4 ?_
       (try simp only [Act.put, ly])
       refine tkK 5 ?_
       (try simp only [Act.put, ly])
       refine tkK 6 ?_
       (try simp only [Act.put, ly])
       refine tkK 7 ?_
       (try simp only [Act.put, ly])
       refine tkK 8 ?_
       (try simp only [Act.put, ly])
       refine tkK 9 ?_
       (try simp only [Act.put, ly])
       refine tkK 10 ?_
       (try simp only [Act.put, ly])
       refine tkK 11 ?_
       (try simp only [Act.put, ly])
       have g0 := HLS.out.1
       have gf := HG1.out
       have gl := HS1.out
       refine wpAnyK_ready (rs := [12]) (by kernel_rfl) (by simp) ?_
       refine AllReadyK.last (by kernel_rfl) rfl (fun KK hKK => ?_) AllReadyK.nil
       go_simp
       refine hKK.out _ _ ?_
       clear hKK KK
       (try simp only [Act.put, ly])
       refine wpAnyK_done (by kernel_rfl) ?_ _
       refine NoPanic.normal ?_
       clear g0 gf gl
       have HE2 := Lib.hid (HEND.out _ rfl)
       go_wp2_with fail
       go_roundw
       case rel => exact ⟨s + 1, _, by omega, by go_num, Lib.hid HE2.out.1, Lib.hid HE2.out.2.1, Lib.hid HE2.out.2.2.1, Lib.hid (HE2.out.2.2.2.1.drew), Lib.hid HE2.out.2.2.2.2.1, by first | exact HE2.out.2.2.2.2.2 | exact HE2.out.2.2.2.2.2.drew | exact HE2.out.2.2.2.2.2.drew.drew⟩
       case measure => simp only [intOf]; omega
      ·obtain rfl : s = n := by omega
       have HYV : Hid (IntsV wq (.slice (some ⟨g, 0, none⟩) s cap) ys) := by
        have h9 := hR.out.vals (fun z hz => by
         obtain ⟨i, hi, rfl⟩ := List.getElem_of_mem hz
         rw [hyl.out] at hi
         obtain ⟨x, hx⟩ : ∃ z, xs[i]? = some z := ⟨_, List.getElem?_eq_getElem (by rw [hJ.out.1]; exact hi)⟩
         obtain ⟨v, hv⟩ : ∃ z, V[i]? = some z := ⟨_, List.getElem?_eq_getElem (by rw [HVL.out]; exact hi)⟩
         have h1 := hy1.out i _ _ hi hx hv
         rw [List.getElem?_eq_getElem (by rw [hyl.out]; exact hi)] at h1
         injection h1 with h1
         rw [h1]
         have h2 := hJ.out.2.2 _ (List.mem_of_getElem? hx)
         have h3 := HVC.out i _ hv
         have h4 := Int.mul_nonneg h2.1 (show (0 : Int) ≤ (s : Int) by omega)
         have h5 := Int.mul_le_mul (show x ≤ 62 by omega) (show (s : Int) ≤ 62 by omega) (by omega) (by decide)
         omega)
        rw [hyl.out] at h9
        exact h9
       go_wp2_with fail
       refine (of_any' _ _ ys HYV.out (by rw [hyl.out]; exact hn62.1) (by rw [hyl.out]; exact hn62.2)).mono ?_
       rintro e w8 ⟨⟨g', cap', xs', rfl, hg', hR', hO'⟩, hb8⟩
       have y8 := hb8.size; (try simp only [zs] at y8)
       rw [hyl.out]
       have HJN : Hid (JRes s L (asks.take (p + 1)) xs') := by show JRes _ _ _ _; rw [HTK.out]; exact hJ.out.step HVE.out HVL.out HVC.out hyl.out hy1.out hO'.out
       have HL8 : Hid (Loc w8 w.heap.size 84 #[.int .i64 (s : Int), .slice (some aL) m cap0]) := Loc.below hL.out hb8
       clear hO'
       go_wp2_with fail
       go_roundw
       case rel => exact ⟨p + 1, g', cap', xs', by omega, by go_num, rfl, by omega, hR', HJN, HL8, bel⟩
       case measure => simp only [intOf]; omega
    ·obtain rfl : p = c := by omega
     have HXV : Hid (IntsV wp (.slice (some ⟨g, 0, none⟩) n cap) xs) := by
      have h9 := hR.out.vals (fun z hz => by have := hJ.out.2.2 z hz; omega)
      rw [hJ.out.1] at h9
      exact h9
     go_wp2_with fail
     refine (of_any' _ _ xs HXV.out (by rw [hJ.out.1]; exact hn62.1) (by rw [hJ.out.1]; exact hn62.2)).mono ?_
     rintro e w8 ⟨⟨g', cap', xs', rfl, hg', hR', hO'⟩, hb8⟩
     have y8 := hb8.size; (try simp only [zs] at y8)
     rw [hJ.out.1]
     have HJN : Hid (JRes n L asks xs') := by
      have e : asks.take p = asks := List.take_of_length_le (by rw [HK.out]; exact Nat.le_refl _)
      have hj := hJ.out
      rw [e] at hj
      refine ⟨by rw [hO'.out.1, hj.1], fun i j a b ha hb => ?_, fun x hx => by have := hO'.out.2.2 x hx; rw [hj.1] at this; exact this⟩
      have hi : i < xs.length := by have := (List.getElem?_eq_some_iff.1 ha).1; rw [hO'.out.1] at this; exact this
      have hjj : j < xs.length := by have := (List.getElem?_eq_some_iff.1 hb).1; rw [hO'.out.1] at this; exact this
      rw [hO'.out.2.1 i j _ _ a b (List.getElem?_eq_getElem hi) (List.getElem?_eq_getElem hjj) ha hb]
      exact hj.2.1 i j _ _ (List.getElem?_eq_getElem hi) (List.getElem?_eq_getElem hjj)
     clear hO'
     go_wp2_with fail
     go_ret2
     exact ⟨⟨g', cap', xs', rfl, hR', HJN⟩, bel⟩
end Go.Proofs.YtbdcjhoedhhabaaGreat

