/- Contracts of the functions that the statements reach, part 24. -/
import Derived.Test.YtbdcjhoedhhabaaGreatRows
import Derived.Maps.OwnSet
import Derived.Lib.SliceRun
import Derived.Test.YtbdcjhoedhhabaaGreatE2
import Derived.Test.YtbdcjhoedhhabaaGreatE22
import Derived.Test.YtbdcjhoedhhabaaGreatE23
set_option linter.unusedSimpArgs false
set_option linter.unusedVariables false

/- Lists of integers that a call makes; lists of these that grow by append. -/
namespace Go.Proofs.YtbdcjhoedhhabaaGreat
open Go.RowKit

theorem info_ints : (Tryz.prog.info? 27).map (fun i => (i.zero, i.size, i.bytes)) = some (some (.slice none 0 0), 1, 24) := by kernel_rfl
/-- A block of integers. -/
def RowI (w : World) (g : Nat) (zs : List Int) : Prop := Loc w g 3 (zs.map (Value.int .i64)).toArray
/-- A list of integers that is a block of its own. -/
def IntsO (w : World) (u : Value) (zs : List Int) : Prop := ∃ g, u = .slice (some ⟨g, 0, none⟩) zs.length zs.length ∧ RowI w g zs ∧ ∀ z ∈ zs, -9223372036854775808 ≤ z ∧ z ≤ 9223372036854775807
section
variable {w w' : World} {g base : Nat} {u v : Value} {zs : List Int} {us : List Value} {L : List (List Int)}
theorem add0 (g i : Nat) : (⟨g, 0, none⟩ : Addr).add i = ⟨g, i, none⟩ := by simp [Addr.add]; intro h; omega
theorem RowI.cell (h : RowI w g zs) {i : Nat} {z : Int} (hz : zs[i]? = some z) : w.cell? ⟨g, i, none⟩ = some (.int .i64 z) := by
 rw [Loc.cell h, List.getElem?_toArray, List.getElem?_map, hz]
 rfl
theorem RowI.lt (h : RowI w g zs) : g < w.heap.size := Loc.lt h
theorem RowI.below (h : RowI w g zs) (hb : Below w.heap.size w w') : RowI w' g zs := Loc.below h hb
theorem RowI.set (h : RowI w g zs) (i : Nat) (z : Int) : RowI (w.setCell ⟨g, i, none⟩ (.int .i64 z)) g (zs.set i z) := by
 have := Loc.set h i (.int .i64 z)
 unfold RowI
 rw [List.map_set, ← List.setIfInBounds_toArray]
 exact this
theorem IntsO.vals (h : IntsO w u zs) (hl : zs.length ≤ maxLen) : IntsV w u zs := by
 obtain ⟨g, rfl, hr, hz⟩ := h
 exact ⟨_, _, rfl, Nat.le_refl _, hl, fun _ => ⟨_, rfl, hr.lt, fun i z h => by rw [add0]; exact hr.cell h⟩, hz⟩
theorem IntsO.below (h : IntsO w u zs) (hb : Below w.heap.size w w') : IntsO w' u zs := by
 obtain ⟨g, rfl, hr, hz⟩ := h
 exact ⟨g, rfl, hr.below hb, hz⟩
theorem IntsO.other (h : IntsO w u zs) (hown : Own1 w base 27 v us) (hg : w.grownBy w' v.ownBlock) : IntsO w' u zs := by
 obtain ⟨g, rfl, hr, hz⟩ := h
 exact ⟨g, rfl, loc_other hown hg hr (by decide), hz⟩
theorem loc_ne {w : World} {g h : Nat} {t t' : TypeId} {cs cs' : Array Value} (L : Loc w g t cs) (L' : Loc w h t' cs') (hne : t ≠ t') : g ≠ h := fun e => by
 subst e
 unfold Loc at L L'
 rw [L] at L'
 injection L' with L'
 injection L' with e1 e2
 exact hne e2
theorem IntsO.far {t : TypeId} {cs : Array Value} {h0 : Nat} (h : IntsO w u zs) (L : Loc w h0 t cs) (ht : 3 ≠ t) (i : Nat) (x : Value) : IntsO (w.setCell ⟨h0, i, none⟩ x) u zs := by
 obtain ⟨g, rfl, hr, hz⟩ := h
 exact ⟨g, rfl, Loc.far hr (p := ⟨h0, i, none⟩) (loc_ne hr L ht) x, hz⟩
theorem Own1.far {h0 : Nat} {e : TypeId} (h : Own1 w base e v us) (hb : h0 < base) (i : Nat) (x : Value) : Own1 (w.setCell ⟨h0, i, none⟩ x) base e v us :=
 Own1.keep h ((Keep.refl (fun b => b = h0) w).set (.inl rfl) _) (fun g hg e => by have := (Own1.lt h hg).2; omega)
/-- A list of such lists. -/
theorem Own1.imat (h : Own1 w base 27 v us) (hl : us.length = L.length) (hm : L.length ≤ maxLen) (hu : ∀ (i : Nat) (u : Value) (l : List Int), us[i]? = some u → L[i]? = some l → IntsO w u l ∧ l.length ≤ maxLen) : IMat w v L := by
 have h0 := h.1
 rcases h.2 with ⟨rfl, hn⟩ | ⟨g, cap, cur, rfl, h3, hg, h1, h2, hsz, htake⟩
 ·refine ⟨none, 0, by rw [← hl, hn], by omega, Nat.zero_le _, fun h => absurd ?_ h⟩
  omega
 ·refine ⟨_, _, by rw [← hl], by omega, h2, fun _ => ⟨_, rfl, (Array.getElem?_eq_some_iff.1 hg).1, fun i l he => ?_⟩⟩
  have hi := (List.getElem?_eq_some_iff.1 he).1
  have hui := List.getElem?_eq_getElem (l := us) (i := i) (by omega)
  obtain ⟨ho, hlm⟩ := hu i _ l hui he
  have hc := World.ownsRow.cellAt h i (by omega)
  obtain ⟨gi, e, hr, hz⟩ := ho
  refine ⟨some ⟨gi, 0, none⟩, l.length, ?_, IntsO.vals ⟨gi, rfl, hr, hz⟩ hlm⟩
  rw [add0, hc, hui, e]
/-- A list of lists of integers that a call has made. -/
def IMatO (w : World) (v : Value) (L : List (List Int)) : Prop :=
 ∃ (base : Nat) (us : List Value), Own1 w base 27 v us ∧ us.length = L.length ∧ L.length ≤ maxLen ∧ ∀ (i : Nat) (u : Value) (l : List Int), us[i]? = some u → L[i]? = some l → IntsO w u l ∧ l.length ≤ maxLen
theorem IMatO.imat (h : IMatO w v L) : IMat w v L := by
 obtain ⟨base, us, h1, h2, h3, h4⟩ := h
 exact h1.imat h2 h3 h4
theorem IMatO.op (h : IMatO w v L) : ∃ (A : Option Addr) (cap : Nat), v = .slice A L.length cap ∧ IMatO w (.slice A L.length cap) L := by
 obtain ⟨A, cap, rfl, -⟩ := h.imat.op
 exact ⟨A, cap, rfl, h⟩
theorem IMatO.below (h : IMatO w v L) (hb : Below w.heap.size w w') : IMatO w' v L := by
 obtain ⟨base, us, h1, h2, h3, h4⟩ := h
 exact ⟨base, us, h1.below hb, h2, h3, fun i u l hu hl => ⟨(h4 i u l hu hl).1.below hb, (h4 i u l hu hl).2⟩⟩
theorem IMatO.far {t : TypeId} {cs : Array Value} {h0 : Nat} (h : IMatO w v L) (L0 : Loc w h0 t cs) (ht : 3 ≠ t) (ht2 : 27 ≠ t) (i : Nat) (x : Value) : IMatO (w.setCell ⟨h0, i, none⟩ x) v L := by
 obtain ⟨base, us, h1, h2, h3, h4⟩ := h
 refine ⟨base, us, Own1.keep h1 ((Keep.refl (fun b => b = h0) w).set (.inl rfl) _) (fun g hg e => ?_), h2, h3, fun j u l hu hl => ⟨(h4 j u l hu hl).1.far L0 ht i x, (h4 j u l hu hl).2⟩⟩
 rcases h1.2 with ⟨h', _⟩ | ⟨g', cap', cur, h', _, hg', _⟩
 ·rw [h'] at hg; cases hg
 ·rw [h'] at hg
  injection hg with hg
  subst hg
  exact loc_ne hg' L0 ht2 e
end
/-- make([]int, n). -/
theorem rowI_zeros {w : World} {base g n : Nat} (h : w.ownsRow base 3 1 (.slice (some ⟨g, 0, none⟩) n n) n (List.replicate n (.int .i64 0))) : RowI w g (List.replicate n 0) := by
 have hl := h.1
 rcases h.2 with ⟨h', _⟩ | ⟨g', cap', cur, h', _, hg, _, _, hsz, htake⟩
 ·simp at h'
 ·simp only [Value.slice.injEq, Option.some.injEq, Addr.mk.injEq, and_true, true_and] at h'
  obtain ⟨rfl, rfl⟩ := h'
  have : cur.toList = List.replicate n (.int .i64 0) := by
   rw [← htake, List.take_of_length_le (by simp; omega)]
  unfold RowI Loc
  rw [hg, List.map_replicate, ← this]
end Go.Proofs.YtbdcjhoedhhabaaGreat

/- Parts of a set of secrets by a view, plainly; the operations on bits. -/
namespace Go.Proofs.YtbdcjhoedhhabaaGreat
open Go.RowKit
attribute [local go_sem ↓] Go.wp_at_zero Go.wp_at_succ

/-- The part of S of the class k, among the first c members. -/
def pSet (view : List Int) (S : Nat) (k : Int) : Nat → Nat
 | 0 => 0
 | c + 1 => if view[c]? = some k then pSet view S k c ||| (S &&& 2 ^ c) else pSet view S k c

/-- The list of parts, of the classes below n. -/
def parts (view : List Int) (S n c : Nat) : List Int := (List.range n).map fun (k : Nat) => ((pSet view S (k : Int) c : Nat) : Int)

/- channel.sum and the reference's rowSum. -/

/- slices.ContainsFunc at lists of integers, for any predicate. -/

/-- A function with a body: a call of it enters it. -/
def Enters (F : Nat) : Prop := ∀ (args : Array Value) (W : World), (callFunc F args).run Tryz.prog W = .ok (.enter F args) W
theorem enters {F : Nat} {fn : Func} (hf : Tryz.prog.funcs[F]? = some fn) (hb : fn.body.isNone = false) (hn : (fn.name == "runtime.NumGoroutine") = false) : Enters F := fun args W => by
 have hb2 : ¬ fn.body = none := fun h => by rw [h] at hb; cases hb
 have hn2 := beq_eq_false_iff_ne.1 hn
 simp [callFunc, go_sem, hf, hb2, hn2]

/- slices.ContainsFunc at integers, at losses, at tables, at gains: for any predicate. -/

/-- A function that tells whether P, at integers of a list. -/
def TellsZ (w : World) (F : Nat) (caps : Array Value) (P : Int → Prop) (L : List Int) : Prop :=
 ∀ (W : World) (z : Int), Below w.heap.size w W → z ∈ L → Calls Tryz.prog F (#[.int .i64 z] ++ caps) W fun e w' => Tells (P z) e ∧ Below W.heap.size W w'

set_option maxRecDepth 100000 in
set_option maxHeartbeats 4000000 in
theorem indexZ_any (w : World) (F : Nat) (caps : Array Value) (P : Int → Prop) (v : Value) (L : List Int) (h : IntsV w v L) (hen : Enters F) (hF : TellsZ w F caps P L) :
 Calls Tryz.prog 216 #[v, .func (Fn.func F) #[] caps] w fun e w' => ∃ r : Int, e = .returned (.int .i64 r) ∧ ((0 ≤ r ∧ ∃ l ∈ L, P l) ∨ (r < 0 ∧ ∀ l ∈ L, ¬ P l)) ∧ Below w.heap.size w w' := by
 have H := Lib.hid h
 have HF := Lib.hid hF
 have hen2 : ∀ (args : Array Value) (W : World), (callFunc F args).run Tryz.prog W = .ok (.enter F args) W := hen
 obtain ⟨A, cap, rfl, h, l1, l2⟩ := h.op
 have lm : L.length ≤ 9223372036854775807 := by unfold maxLen at l2; omega
 clear h hF
 obtain ⟨m, hm⟩ : ∃ m, L.length = m := ⟨_, rfl⟩
 rw [hm] at l1 lm
 rw [hm]
 have HM := Lib.hid hm
 clear hm
 go_enter Tryz.func216, Tryz.ntmps216
 go_wp2_with fail
 go_loopw [8] (fun i wr => ∃ (c : Nat), c ≤ m ∧ i = .int .i64 c ∧ Hid (∀ i l, i < c → L[i]? = some l → ¬ P l) ∧ Below w.heap.size w wr) (fun i _ => m - (intOf i).toNat)
 case atStart => exact ⟨0, by omega, rfl, Lib.hid (fun i l hi => absurd hi (by omega)), bel⟩
 case round =>
  obtain ⟨c, hc, rfl, hall, hB⟩ := hrel
  obtain ⟨wo, rfl⟩ : ∃ wo : World, wo = wr := ⟨_, rfl⟩
  have y5 := hB.size; (try simp only [zs] at y5)
  by_cases hlt : c < m
  ·obtain ⟨l, he⟩ : ∃ l, L[c]? = some l := ⟨_, List.getElem?_eq_getElem (by rw [HM.out]; exact hlt)⟩
   have hR := H.out.keep (.of_below hB)
   rw [HM.out] at hR
   obtain ⟨a, rfl, hab, hcell, zb1, zb2⟩ := hR.at he
   have HE := Lib.hid he
   have k0 : (0 : Int) ≤ (c : Int) := by omega
   have k1 : (c : Int) < (m : Int) := by omega
   clear he hR
   go_wp2_with fail
   refine (HF.out _ l hB (List.mem_of_getElem? HE.out)).mono ?_
   rintro e w2 ⟨⟨b, rfl, hb⟩, hb2⟩
   have y2 := hb2.size; (try simp only [zs] at y2)
   cases b
   ·have HGD : Hid (¬ P l) := fun h => by have := hb.out.2 h; cases this
    clear hb
    go_wp2_with fail
    go_roundw
    case rel =>
     refine ⟨c + 1, by omega, by go_num, Lib.hid (fun i l' hi hl' => ?_), bel⟩
     by_cases hic : i < c
     ·exact hall.out i l' hic hl'
     ·obtain rfl : i = c := by omega
      rw [HE.out] at hl'
      injection hl' with hl'
      subst hl'
      exact HGD.out
    case measure => simp only [intOf]; omega
   ·have HGD : Hid (P l) := hb.out.1 rfl
    clear hb
    go_wp2_with fail
    go_ret
    exact ⟨_, rfl, .inl ⟨by omega, l, List.mem_of_getElem? HE.out, HGD.out⟩, bel⟩
  ·obtain rfl : c = m := by omega
   have HALL : Hid (∀ l ∈ L, ¬ P l) := fun l hl => by
    obtain ⟨i, hi, rfl⟩ := List.mem_iff_getElem.1 hl
    exact hall.out i _ (by rw [← HM.out]; exact hi) (List.getElem?_eq_getElem hi)
   go_wp2_with fail
   go_ret
   exact ⟨_, rfl, .inr ⟨by decide, HALL.out⟩, hB⟩

set_option maxRecDepth 100000 in
set_option maxHeartbeats 4000000 in
theorem containsZ_any (w : World) (F : Nat) (caps : Array Value) (P : Int → Prop) (v : Value) (L : List Int) (h : IntsV w v L) (hen : Enters F) (hF : TellsZ w F caps P L) :
 Calls Tryz.prog 90 #[v, .func (Fn.func F) #[] caps] w fun e w' => Tells (∃ l ∈ L, P l) e ∧ Below w.heap.size w w' := by
 have H := Lib.hid h
 have HF := Lib.hid hF
 obtain ⟨A, cap, rfl, h, l1, l2⟩ := h.op
 clear h hF
 go_enter Tryz.func90, Tryz.ntmps90
 go_wp2_with fail
 refine (indexZ_any _ F caps P _ L H.out hen HF.out).mono ?_
 rintro e w1 ⟨r, rfl, hr, hb1⟩
 have y1 := hb1.size; (try simp only [zs] at y1)
 have HR := Lib.hid hr
 clear hr
 by_cases h0 : 0 ≤ r
 ·have HV : Hid (∃ l ∈ L, P l) := by
   rcases HR.out with ⟨_, h⟩ | ⟨h, _⟩
   ·exact h
   ·omega
  go_wp2_with fail
  go_ret
  exact ⟨Tells.yes HV.out, bel⟩
 ·have HV : Hid (¬ ∃ l ∈ L, P l) := by
   rcases HR.out with ⟨h, _⟩ | ⟨_, h⟩
   ·omega
   ·exact fun ⟨l, hl, hp⟩ => h l hl hp
  have hd : decide (0 ≤ r) = false := decide_eq_false h0
  go_wp2_with fail
  go_ret
  exact ⟨by first | exact Tells.no HV.out | (simp only [hd]; exact Tells.no HV.out), bel⟩
end Go.Proofs.YtbdcjhoedhhabaaGreat

/- Answers that tell, settled (as in Nl5, which serves layer 8). -/
namespace Go.Proofs.YtbdcjhoedhhabaaGreat
open Go.RowKit
theorem Tells.eq {P : Prop} {e : Ending} {b : Bool} (h : Tells P e) (hb : b = true ↔ P) : e = .returned (.bool b) := by
 obtain ⟨c, rfl, hc⟩ := h
 have : c = b := by
  have h1 := hc.out.trans hb.symm
  cases c <;> cases b <;> simp_all
 rw [this]
theorem tell (P : Prop) : ∃ b : Bool, Hid (b = true ↔ P) := by
 rcases Classical.em P with h | h
 ·exact ⟨true, fun _ => h, fun _ => rfl⟩
 ·exact ⟨false, fun h' => (by cases h'), fun h' => absurd h' h⟩
end Go.Proofs.YtbdcjhoedhhabaaGreat

/- Canonical partitions, menus: partition.Valid, strategy.CheckMenu, checker.menu. -/
namespace Go.Proofs.YtbdcjhoedhhabaaGreat
open Go.RowKit
attribute [local go_sem ↓] Go.wp_at_zero Go.wp_at_succ

theorem run_max2 {P : Program} (ats : Array TypeId) (ty : TypeId) (a b : Int) (w : World) : (Builtin.max_ ats ty #[.int .i64 a, .int .i64 b]).run P w = .ok (.int .i64 (max a b)) w := by
 have h : (Builtin.max2 (.int .i64 a) (.int .i64 b)).run P w = .ok (.int .i64 (max a b)) w := by
  show (pure (Value.int .i64 (if b > a then b else a)) : Sem Value).run P w = _
  rw [Sem.run_pure, Int.max_def]
  by_cases h : a ≤ b
  ·rw [if_pos h]
   by_cases h' : b > a
   ·rw [if_pos h']
   ·rw [if_neg h']
    obtain rfl : a = b := by omega
    rfl
  ·rw [if_neg h, if_neg (by omega)]
 simp only [Builtin.max_, List.foldlM, Sem.run_bind, h, Result.andThen_ok]
 rfl
attribute [local go_sem] run_max2

/-- Class numbers in the order of first occurrence, behind n classes. -/
def canGo : Int → List Int → Prop
 | _, [] => True
 | n, c :: l => (0 ≤ c ∧ c ≤ n) ∧ canGo (max n (c + 1)) l

/-- A menu. -/
def MenuOk (ns : Int) (L : List (List Int)) : Prop := (1 ≤ ns ∧ ns ≤ 62) ∧ L.length ≤ 8 ∧ ∀ v ∈ L, (v.length : Int) = ns ∧ canGo 0 v

end Go.Proofs.YtbdcjhoedhhabaaGreat

/- Maps with integer values that a call makes. -/
namespace Go.Proofs.YtbdcjhoedhhabaaGreat
open Go.RowKit Go.Maps Go.ChangeMaps
attribute [local go_sem ↓] Go.wp_at_zero Go.wp_at_succ

theorem zero_int (w : World) : (zeroValue 3).run Tryz.prog w = .ok (.int .i64 0) w := by
 obtain ⟨i, hi, hz0, -, -⟩ := info_parts info_int1
 unfold zeroValue
 rw [Sem.run_bind, run_typeInfo w hi]
 simp only [Result.andThen_ok, hz0]
 rfl

/-- f with another value at a key. -/
noncomputable def putL (f : Lit → Option Int) (kl : Lit) (z : Int) : Lit → Option Int := fun kl' => @ite _ (kl' = kl) (Classical.propDecidable _) (some z) (f kl')
theorem putL_same (f : Lit → Option Int) (kl : Lit) (z : Int) : putL f kl z kl = some z := if_pos rfl
theorem putL_other (f : Lit → Option Int) {kl kl' : Lit} (h : kl' ≠ kl) (z : Int) : putL f kl z kl' = f kl' := if_neg h
/-- Block b of w is a map of c entries (never more than n), whose values f tells. -/
def MapF (w : World) (k : TypeId) (b n c : Nat) (f : Lit → Option Int) : Prop :=
 ∃ D : DataW Unit, w.ownsMap Tryz.prog k (plainElem Tryz.prog 3) b n D ∧ Maps.size D = c ∧ ∀ kl, WideAt.IsKeyLit kl → ∀ zd, D.atKey kl zd = (match f kl with | none => zd | some z => .lit (.int .i64 z))
section
variable {w w' : World} {k : TypeId} {b n c : Nat} {f : Lit → Option Int}
theorem MapF.lt (h : MapF w k b n c f) : b < w.heap.size := by
 obtain ⟨D, hD, -⟩ := h
 exact hD.lt
theorem MapF.made (w : World) (k : TypeId) : MapF (w.alloc (.map #[] 0)) k w.heap.size 0 0 (fun _ => none) :=
 ⟨.map [], World.ownsMap_made w _ _ _, rfl, fun _ _ _ => rfl⟩
theorem MapF.below {B : Nat} (h : MapF w k b n c f) (hb : Below B w w') (hl : b < B) : MapF w' k b n c f := by
 obtain ⟨D, ⟨es, clock, h1, h2, h3, h4⟩, h5, h6⟩ := h
 exact ⟨D, ⟨es, clock, (hb.block b hl).trans h1, h2, h3, h4⟩, h5, h6⟩
theorem MapF.far (h : MapF w k b n c f) {p : Addr} (hp : b ≠ p.block) (u : Value) : MapF (w.setCell p u) k b n c f := by
 obtain ⟨D, h1, h2⟩ := h
 exact ⟨D, h1.setCell hp u, h2⟩
theorem MapF.mono (h : MapF w k b n c f) {n' : Nat} (hn : n ≤ n') : MapF w k b n' c f := by
 obtain ⟨D, h1, h2⟩ := h
 exact ⟨D, h1.mono hn, h2⟩
theorem MapF.cong (h : MapF w k b n c f) {g : Lit → Option Int} (hg : ∀ kl, WideAt.IsKeyLit kl → f kl = g kl) : MapF w k b n c g := by
 obtain ⟨D, h1, h2, h3⟩ := h
 exact ⟨D, h1, h2, fun kl hkl zd => by rw [h3 kl hkl zd, hg kl hkl]⟩
/-- A block of cells is no map. -/
theorem MapF.ne_loc {g : Nat} {t : TypeId} {cs : Array Value} (h : MapF w k b n c f) (L : Loc w g t cs) : b ≠ g := fun e => by
 obtain ⟨D, ⟨es, clock, h1, -⟩, -⟩ := h
 subst e
 unfold Loc at L
 rw [h1] at L
 injection L with L
 cases L
set_option maxRecDepth 100000 in
theorem MapF.look {t : TypeId} (h : MapF w k b n c f) (K : Keyed Tryz.prog k) (ht : Tryz.prog.underlying t = some (.map k 3)) {key : Value} {kl : Lit} (hkey : keyOf Tryz.prog k key = some kl) :
 (Instr.lookup t (.map (some b)) key true).run Tryz.prog w = .ok (.tuple #[.int .i64 ((f kl).getD 0), .bool (f kl).isSome]) w := by
 obtain ⟨D, hD, -, hf⟩ := h
 obtain ⟨v, ps, hrun, hv⟩ := hD.look_ok K ht (zero_int w) (plainElem_int Tryz.underlying3 (by decide)) hkey
 obtain ⟨a, rfl, ha, -⟩ := plainElem_int_inv Tryz.underlying3 hv
 have ha := congrArg Prod.fst ha
 simp only at ha
 have hk := hf kl (K.key hkey)
 rw [hrun]
 cases hq : f kl with
 | none =>
   rw [hq] at hk
   have h1 : has D kl = false := has_false_of_atKey (fun z => hk z)
   have h2 := (hk (.lit (.int .i64 0))).symm.trans ha
   injection h2 with h2
   injection h2 with _ h2
   subst h2
   rw [h1]
   exact rfl
 | some z =>
   rw [hq] at hk
   have h1 : has D kl = true := has_true_of_atKey (y := .lit (.int .i64 z)) (fun z => hk z)
   have h2 := (hk (.lit (.int .i64 0))).symm.trans ha
   injection h2 with h2
   injection h2 with _ h2
   subst h2
   rw [h1]
   exact rfl
theorem MapF.put {D : DataW Unit} {kl : Lit} {z : Int} (hT : Tidy D) (hc : Maps.size D = c) (hk : WideAt.IsKeyLit kl) (hf : ∀ kl, WideAt.IsKeyLit kl → ∀ zd, D.atKey kl zd = (match f kl with | none => zd | some z => .lit (.int .i64 z))) :
 Maps.size (D.put kl (.lit (.int .i64 z))) = (if (f kl).isSome then c else c + 1) ∧ ∀ kl', WideAt.IsKeyLit kl' → ∀ zd, (D.put kl (.lit (.int .i64 z))).atKey kl' zd = (match putL f kl z kl' with | none => zd | some z => .lit (.int .i64 z)) := by
 constructor
 ·rw [size_put hT, hc]
  have h0 := hf kl hk
  cases hq : f kl with
  | none =>
    rw [hq] at h0
    rw [has_false_of_atKey (fun z => h0 z)]
    rfl
  | some y =>
    rw [hq] at h0
    rw [has_true_of_atKey (y := .lit (.int .i64 y)) (fun z => h0 z)]
    rfl
 ·intro kl' hk' zd
  by_cases e : kl' = kl
  ·subst e
   rw [putL_same, atKey_put_same hT.isMap hk]
  ·rw [putL_other _ e, atKey_put_other e]
   exact hf kl' hk' zd
end
/-- The keys of a map of ints. -/
theorem key_int {z : Int} (hz : -9223372036854775808 ≤ z ∧ z ≤ 9223372036854775807) : keyOf Tryz.prog 3 (.int .i64 z) = some (.int .i64 z) := keyOf_int_mk Tryz.underlying3 (WalkArith.wf_i64 hz)
theorem keyed_int : Keyed Tryz.prog 3 := int_keyed Tryz.underlying3
/-- len of a map. -/
theorem MapF.len {w : World} {k t : TypeId} {b n c : Nat} {f : Lit → Option Int} (h : MapF w k b n c f) (ht : Tryz.prog.underlying t = some (.map k 3)) (ty : TypeId) : (Builtin.len_ #[t] ty #[.map (some b)]).run Tryz.prog w = .ok (.int .i64 (c : Int)) w := by
 obtain ⟨D, hD, hc, -⟩ := h
 rw [World.ownsMap.len hD ht ty, hc]
end Go.Proofs.YtbdcjhoedhhabaaGreat

/- slices.IndexFunc, exactly; slices.DeleteFunc of zeros; checker.split. -/
namespace Go.Proofs.YtbdcjhoedhhabaaGreat
open Go.RowKit
attribute [local go_sem ↓] Go.wp_at_zero Go.wp_at_succ

/-- The numbers other than 0. -/
def nzs (zs : List Int) : List Int := zs.filter (fun z => z != 0)

/- The closures of the checks of tables and of losses. -/

/- checker.table. -/

/-- The number of groups and the form of a table are right. -/
def TbForm (L : List (List Int)) (k n : Int) : Prop := (L.length : Int) = k + 1 ∧ ∀ l ∈ L, (l.length : Int) = n + 1
/-- The numbers of a table are in their range. -/
def TbRange (L : List (List Int)) : Prop := ∀ l ∈ L, ∀ x ∈ l, 0 ≤ x ∧ x ≤ 1152921504606846976
/-- The code of a table's form. -/
structure TbCode (L : List (List Int)) (k n r : Int) : Prop where
 a : (k < 1 ∨ 32 < k) → r = 3
 b : ¬ (k < 1 ∨ 32 < k) → ¬ TbForm L k n → r = 2
 c : ¬ (k < 1 ∨ 32 < k) → TbForm L k n → ¬ TbRange L → r = 3
 d : ¬ (k < 1 ∨ 32 < k) → TbForm L k n → TbRange L → r = 0

theorem TbCode.one {L : List (List Int)} {k n r : Int} (h : k < 1 ∨ 32 < k) (hr : r = 3) : TbCode L k n r := ⟨fun _ => hr, fun h' => absurd h h', fun h' => absurd h h', fun h' => absurd h h'⟩

theorem TbCode.two {L : List (List Int)} {k n r : Int} (h : ¬ (k < 1 ∨ 32 < k)) (h2 : ¬ TbForm L k n) (hr : r = 2) : TbCode L k n r := ⟨fun h' => absurd h' h, fun _ _ => hr, fun _ h' => absurd h' h2, fun _ h' => absurd h' h2⟩

theorem TbCode.three {L : List (List Int)} {k n r : Int} (h : ¬ (k < 1 ∨ 32 < k)) (h2 : TbForm L k n) (h3 : ¬ TbRange L) (hr : r = 3) : TbCode L k n r := ⟨fun h' => absurd h' h, fun _ h' => absurd h2 h', fun _ _ _ => hr, fun _ _ h' => absurd h' h3⟩

theorem TbCode.four {L : List (List Int)} {k n r : Int} (h : ¬ (k < 1 ∨ 32 < k)) (h2 : TbForm L k n) (h3 : TbRange L) (hr : r = 0) : TbCode L k n r := ⟨fun h' => absurd h' h, fun _ h' => absurd h2 h', fun _ _ h' => absurd h3 h', fun _ _ _ => hr⟩

theorem TbCode.eq {L : List (List Int)} {k n r s : Int} (h : TbCode L k n r) (h' : TbCode L k n s) : r = s := by
 by_cases h1 : k < 1 ∨ 32 < k
 ·rw [h.a h1, h'.a h1]
 by_cases h2 : TbForm L k n
 ·by_cases h3 : TbRange L
  ·rw [h.d h1 h2 h3, h'.d h1 h2 h3]
  ·rw [h.c h1 h2 h3, h'.c h1 h2 h3]
 ·rw [h.b h1 h2, h'.b h1 h2]

theorem TbCode.zero {L : List (List Int)} {k n : Int} (h : TbCode L k n 0) : 1 ≤ k ∧ k ≤ 32 ∧ TbForm L k n ∧ TbRange L := by
 by_cases h1 : k < 1 ∨ 32 < k
 ·cases h.a h1
 by_cases h2 : TbForm L k n
 ·by_cases h3 : TbRange L
  ·exact ⟨by omega, by omega, h2, h3⟩
  ·cases h.c h1 h2 h3
 ·cases h.b h1 h2

theorem add_zero' (a : Addr) : a.add 0 = a := by simp [Addr.add]

end Go.Proofs.YtbdcjhoedhhabaaGreat

/- checker.split, slices.Max, adaptive.parts. Printed by gen_hd5.py. -/
namespace Go.Proofs.YtbdcjhoedhhabaaGreat
open Go.RowKit
attribute [local go_sem ↓] Go.wp_at_zero Go.wp_at_succ
attribute [local go_sem] run_max2

end Go.Proofs.YtbdcjhoedhhabaaGreat

/- What the parts of a set are asked: plainly; the closures of hard and needed. -/
namespace Go.Proofs.YtbdcjhoedhhabaaGreat
open Go.RowKit
attribute [local go_sem ↓] Go.wp_at_zero Go.wp_at_succ

/-- An entry of at least D - 1 is known. -/
def KnownGe (f : Lit → Option Int) (D : Int) (y : Int) : Prop := ∃ d, f (.int .i64 y) = some d ∧ D - 1 ≤ d

/- checker.hard, adaptive.needed. Printed by gen_hd7.py. -/

/-- The parts of a set by a view, without the empty ones. -/
def prt (S : Nat) (v : List Int) : List Int := nzs (parts v S v.length v.length)
/-- An entry with a depth above 0 is justified. -/
def HardP (L : List (List Int)) (S : Nat) (D : Int) (f : Lit → Option Int) : Prop := (∀ v ∈ L, 1 < D → ∃ y ∈ prt S v, KnownGe f D y) ∧ ∃ v ∈ L, 1 < (prt S v).length

/- adaptive.together, partition.Of. -/

/-- Numbers of a list that is grown by append. -/
theorem Own1.intsV {w : World} {base : Nat} {v : Value} {zs : List Int} (h : Own1 w base 3 v (zs.map (Value.int .i64))) (hz : ∀ z ∈ zs, -9223372036854775808 ≤ z ∧ z ≤ 9223372036854775807) : IntsV w v zs := by
 have h0 := h
 rcases h0.2 with ⟨h', hn⟩ | ⟨g', cap', cur, h', h3, hg', h1, h2, hsz, htake⟩
 ·have : zs = [] := by simpa using hn
  subst this
  exact ⟨none, 0, h', Nat.le_refl _, Nat.zero_le _, fun h => absurd rfl h, fun z hz => by simp at hz⟩
 ·rcases h.op with ⟨h8, h9⟩ | ⟨g, cap, cur2, e, -, h4, hl, hc⟩
  ·rw [h8] at h'; cases h'
  ·rw [h'] at e
   injection e with e1 e2 e3
   injection e1 with e1
   injection e1 with e1
   subst e1 e3
   rw [List.length_map] at h' h1
   exact ⟨_, _, h', h1, h2, fun _ => ⟨_, rfl, hl.lt, fun i z hi => by
    rw [add0, Loc.cell hl]
    exact hc i _ (by rw [List.getElem?_map, hi]; rfl)⟩, hz⟩

/- partition.Of. -/

theorem MapF.grown {w w' : World} {k : TypeId} {b n c : Nat} {f : Lit → Option Int} {row : Option Nat} (h : MapF w k b n c f) (hg : w.grownBy w' row) (hne : some b ≠ row) : MapF w' k b n c f := by
 have hl := h.lt
 obtain ⟨D, h1, h2⟩ := h
 exact ⟨D, h1.kept hg hne, h2⟩

/-- A list of numbers that is written in place. -/
structure RowG (w : World) (g cap : Nat) (l : List Int) : Prop where
 le : l.length ≤ cap
 lc : cap ≤ maxLen
 cells : ∃ cur : Array Value, Loc w g 3 cur ∧ ∀ (i : Nat) (z : Int), l[i]? = some z → cur[i]? = some (.int .i64 z)
section
variable {w w' : World} {g cap : Nat} {l : List Int}
theorem RowG.lt (h : RowG w g cap l) : g < w.heap.size := by obtain ⟨cur, hl, -⟩ := h.cells; exact hl.lt
theorem RowG.drew (h : RowG w g cap l) : RowG w.drew g cap l := ⟨h.le, h.lc, h.cells⟩
theorem RowG.below (h : RowG w g cap l) (hb : Below w.heap.size w w') : RowG w' g cap l := by
 obtain ⟨cur, hl, hc⟩ := h.cells
 exact ⟨h.le, h.lc, cur, hl.below hb, hc⟩
theorem RowG.cell (h : RowG w g cap l) {i : Nat} {z : Int} (hz : l[i]? = some z) : w.cell? ⟨g, i, none⟩ = some (.int .i64 z) := by
 obtain ⟨cur, hl, hc⟩ := h.cells
 rw [Loc.cell hl, hc i z hz]
theorem RowG.frz (h : RowG w g cap l) (i : Nat) : w.frozen? ⟨g, i, none⟩ = false := by
 obtain ⟨cur, hl, -⟩ := h.cells
 exact Loc.frz hl i
theorem RowG.ne_loc {k : Nat} {t : TypeId} {cs : Array Value} (h : RowG w g cap l) (L : Loc w k t cs) (ht : 3 ≠ t) : g ≠ k := by
 obtain ⟨cur, hl, -⟩ := h.cells
 exact loc_ne hl L ht
theorem RowG.vals (h : RowG w g cap l) (hz : ∀ z ∈ l, -9223372036854775808 ≤ z ∧ z ≤ 9223372036854775807) : IntsV w (.slice (some ⟨g, 0, none⟩) l.length cap) l :=
 ⟨_, _, rfl, h.le, h.lc, fun _ => ⟨_, rfl, h.lt, fun i z hi => by rw [add0]; exact h.cell hi⟩, hz⟩
theorem RowG.set (h : RowG w g cap l) (x : Nat) (z : Int) : RowG (w.setCell ⟨g, x, none⟩ (.int .i64 z)) g cap (l.set x z) := by
 obtain ⟨cur, hl, hc⟩ := h.cells
 refine ⟨by simpa using h.le, h.lc, _, hl.set x (.int .i64 z), fun i y hy => ?_⟩
 by_cases hi : i = x
 ·subst hi
  have hlt : i < l.length := by have := (List.getElem?_eq_some_iff.1 hy).1; simpa using this
  rw [List.getElem?_set_self hlt] at hy
  injection hy with hy
  subst hy
  have hc' := hc i _ (List.getElem?_eq_getElem hlt)
  rw [Array.getElem?_setIfInBounds_self_of_lt (by exact (Array.getElem?_eq_some_iff.1 hc').1)]
 ·rw [List.getElem?_set_ne (fun e => hi e.symm)] at hy
  rw [Array.getElem?_setIfInBounds_ne (fun e => hi e.symm)]
  exact hc i y hy
theorem RowI.rowG {n : Nat} (h : RowI w g l) (hn : l.length = n) (hm : n ≤ maxLen) : RowG w g n l := ⟨by omega, hm, _, h, fun i z hz => by rw [List.getElem?_toArray, List.getElem?_map, hz]; rfl⟩
end

/-- The partition of the first c labels, by a map of k classes. -/
structure OfInv (zs xs : List Int) (c k : Nat) (f : Lit → Option Int) : Prop where
 len : xs.length = c
 at_ : ∀ (i : Nat) (z : Int), i < c → zs[i]? = some z → ∃ x, xs[i]? = some x ∧ f (.int .i64 z) = some x
 rng : ∀ z x, f (.int .i64 z) = some x → 0 ≤ x ∧ x < (k : Int)
 inj : ∀ z z' x, f (.int .i64 z) = some x → f (.int .i64 z') = some x → z = z'
 kc : k ≤ c
theorem OfInv.start (zs : List Int) : OfInv zs [] 0 0 (fun _ => none) := ⟨rfl, fun i z hi => absurd hi (by omega), fun z x h => (by cases h), fun z z' x h => (by cases h), Nat.le_refl _⟩
theorem OfInv.new {zs xs : List Int} {c k : Nat} {f : Lit → Option Int} (h : OfInv zs xs c k f) {z : Int} (hz : zs[c]? = some z) (hx : f (.int .i64 z) = none) : OfInv zs (xs ++ [(k : Int)]) (c + 1) (k + 1) (putL f (.int .i64 z) k) := by
 have hput : ∀ y, putL f (.int .i64 z) k (.int .i64 y) = if y = z then some (k : Int) else f (.int .i64 y) := fun y => by
  by_cases e : y = z
  ·subst e
   rw [putL_same, if_pos rfl]
  ·rw [putL_other f (fun e' => e (by injection e')), if_neg e]
 refine ⟨by rw [List.length_append, h.len]; rfl, fun i y hi hy => ?_, fun y x hy => ?_, fun y y' x hy hy' => ?_, by have := h.kc; omega⟩
 ·by_cases e : i < c
  ·obtain ⟨a, h1, h2⟩ := h.at_ i y e hy
   refine ⟨a, by rw [List.getElem?_append_left (by rw [h.len]; exact e)]; exact h1, ?_⟩
   rw [hput, if_neg (fun e' => by rw [e'] at h2; rw [hx] at h2; cases h2)]
   exact h2
  ·obtain rfl : i = c := by omega
   rw [hz] at hy
   injection hy with hy
   subst hy
   exact ⟨k, by rw [List.getElem?_append_right (by rw [h.len]; exact Nat.le_refl _), h.len, Nat.sub_self]; rfl, by rw [hput, if_pos rfl]⟩
 ·rw [hput] at hy
  by_cases e : y = z
  ·rw [if_pos e] at hy
   injection hy with hy
   omega
  ·rw [if_neg e] at hy
   have := h.rng y x hy
   omega
 ·rw [hput] at hy hy'
  by_cases e : y = z
  ·by_cases e' : y' = z
   ·rw [e, e']
   ·rw [if_pos e] at hy
    rw [if_neg e'] at hy'
    injection hy with hy
    have := h.rng y' x hy'
    omega
  ·by_cases e' : y' = z
   ·rw [if_pos e'] at hy'
    rw [if_neg e] at hy
    injection hy' with hy'
    have := h.rng y x hy
    omega
   ·rw [if_neg e] at hy
    rw [if_neg e'] at hy'
    exact h.inj y y' x hy hy'

/-- The same elements together, class numbers below the length. -/
def OfRes (zs xs : List Int) : Prop := xs.length = zs.length ∧ (∀ (i j : Nat) (x y a b : Int), zs[i]? = some x → zs[j]? = some y → xs[i]? = some a → xs[j]? = some b → (a = b ↔ x = y)) ∧ ∀ x ∈ xs, 0 ≤ x ∧ x < (zs.length : Int)
theorem OfInv.res {zs xs : List Int} {k n : Nat} {f : Lit → Option Int} (hn : zs.length = n) (h : OfInv zs xs n k f) : OfRes zs xs := by
 have key : ∀ (i : Nat) (x a : Int), zs[i]? = some x → xs[i]? = some a → f (.int .i64 x) = some a := fun i x a hx ha => by
  have := (List.getElem?_eq_some_iff.1 hx).1
  obtain ⟨y, h1, h2⟩ := h.at_ i x (by omega) hx
  rw [ha] at h1
  injection h1 with h1
  rw [h1]; exact h2
 refine ⟨by rw [h.len, hn], fun i j x y a b h1 h2 h3 h4 => ?_, fun a ha => ?_⟩
 ·have e1 := key i x a h1 h3
  have e2 := key j y b h2 h4
  constructor
  ·intro e
   subst e
   exact h.inj x y a e1 e2
  ·intro e
   subst e
   rw [e1] at e2
   injection e2
 ·obtain ⟨i, hi, rfl⟩ := List.getElem_of_mem ha
  have hi2 : i < zs.length := by rw [h.len] at hi; omega
  have := h.rng _ _ (key i _ _ (List.getElem?_eq_getElem hi2) (List.getElem?_eq_getElem hi))
  have := h.kc
  omega

/- checker.holds, for any costs. -/

/-- An entry of a table. -/
def ent (L : List (List Int)) (j i : Nat) : Int := (((L[j]?).getD [])[i]?).getD 0
/-- The code of what holds or not. -/
def HoCode (P : Prop) (r : Int) : Prop := (P → r = 0) ∧ (¬ P → r = 13)
theorem HoCode.yes {P : Prop} (h : P) : HoCode P 0 := ⟨fun _ => rfl, fun h' => absurd h h'⟩
theorem HoCode.no {P : Prop} (h : ¬ P) : HoCode P 13 := ⟨fun h' => absurd h' h, fun _ => rfl⟩

theorem IMat.entry {w : World} {A : Option Addr} {m cap n : Nat} {L : List (List Int)} (h : IMat w (.slice A m cap) L) (hf : ∀ l ∈ L, (l.length : Int) = (n : Int) + 1) {j i : Nat} (hj : j < L.length) (hi : i ≤ n) :
 ∃ (a a' : Addr) (d : Nat), A = some a ∧ a.block < w.heap.size ∧ a'.block < w.heap.size ∧ w.cell? (a.add j) = some (.slice (some a') (n + 1) d) ∧ w.cell? (a'.add i) = some (.int .i64 (ent L j i)) ∧ n + 1 ≤ d ∧ d ≤ maxLen := by
 have hl : L[j]? = some L[j] := List.getElem?_eq_getElem hj
 have hn := hf L[j] (List.getElem_mem hj)
 obtain ⟨a, B, d, rfl, hab, hcell, hnum, l3, l4⟩ := h.at hl
 have hi2 : i < L[j].length := by omega
 obtain ⟨a', rfl, hab', hc', -, -⟩ := hnum.at (List.getElem?_eq_getElem hi2)
 have e1 : L[j].length = n + 1 := by omega
 have e2 : Go.Proofs.YtbdcjhoedhhabaaGreat.ent L j i = L[j][i] := by unfold Go.Proofs.YtbdcjhoedhhabaaGreat.ent; rw [hl, Option.getD_some, List.getElem?_eq_getElem hi2, Option.getD_some]
 rw [e1] at hcell l3
 refine ⟨a, a', d, rfl, hab, hab', hcell, ?_, l3, l4⟩
 rw [e2]; exact hc'

end Go.Proofs.YtbdcjhoedhhabaaGreat

