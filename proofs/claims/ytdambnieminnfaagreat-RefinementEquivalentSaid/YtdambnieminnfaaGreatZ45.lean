/- Contracts of the functions that the statements reach, part 45. -/
import Derived.Test.YtdambnieminnfaaGreatRows
import Derived.Test.YtdambnieminnfaaGreatZ21
import Derived.Test.YtdambnieminnfaaGreatZ22
import Derived.Test.YtdambnieminnfaaGreatZ44
set_option linter.unusedSimpArgs false
set_option linter.unusedVariables false

/- The law's side of layer 40: the parts of reduced. -/
namespace Go.Proofs.YtdambnieminnfaaGreat
open Go.RowKit
attribute [local go_sem ↓] Go.wp_at_zero Go.wp_at_succ

theorem gI_bound {a b B : Int} (ha : 0 ≤ a ∧ a ≤ B) (hb : 0 ≤ b ∧ b ≤ B) : 0 ≤ gI a b ∧ gI a b ≤ B := by
 have h0 : 0 ≤ gI a b := by unfold gI; omega
 refine ⟨h0, ?_⟩
 by_cases h : a = 0
 ·subst h
  unfold gI
  rw [Int.gcd_zero_left]
  omega
 ·have : gI a b ∣ a := Int.gcd_dvd_left ..
  have := Int.le_of_dvd (by omega) this
  omega
/-- The numbers of a column, as far as the x-th row. -/
def colP (L : List (List Int)) (y x : Nat) : List Int := (List.range x).map fun i => en L i y
theorem colP_succ (L : List (List Int)) (y x : Nat) : colP L y (x + 1) = colP L y x ++ [en L x y] := by
 unfold colP
 rw [List.range_succ, List.map_append]; rfl
theorem colP_len (L : List (List Int)) (y x : Nat) : (colP L y x).length = x := by simp [colP]
theorem colP_getD {L : List (List Int)} {y x i : Nat} (hi : i < x) : (colP L y x).getD i 0 = en L i y := by
 unfold colP
 rw [List.getD_eq_getElem?_getD, List.getElem?_map, List.getElem?_range hi]; rfl
theorem colP_lv {L : List (List Int)} {y x i : Nat} (hi : i < x) : lv (colP L y x) i = ce L i y := by
 unfold lv
 rw [colP_getD hi]; rfl
theorem colP_mem {L : List (List Int)} {y x : Nat} {z : Int} (h : z ∈ colP L y x) : ∃ i, i < x ∧ z = en L i y := by
 obtain ⟨i, hi, rfl⟩ := List.mem_map.1 h
 exact ⟨i, List.mem_range.1 hi, rfl⟩
/-- A list, a column added to it, as far as x. -/
def addP (l c : List Int) (x : Nat) : List Int := (List.range l.length).map fun i => if i < x then l.getD i 0 + c.getD i 0 else l.getD i 0
theorem addP_len (l c : List Int) (x : Nat) : (addP l c x).length = l.length := by simp [addP]
theorem addP_get {l c : List Int} {x i : Nat} (hi : i < l.length) : (addP l c x)[i]? = some (if i < x then l.getD i 0 + c.getD i 0 else l.getD i 0) := by
 unfold addP
 rw [List.getElem?_map, List.getElem?_range hi]; rfl
theorem addP_zero (l c : List Int) : addP l c 0 = l := by
 apply List.ext_getElem?
 intro i
 by_cases hi : i < l.length
 ·rw [addP_get hi, if_neg (Nat.not_lt_zero i), List.getD_eq_getElem?_getD, List.getElem?_eq_getElem hi]; rfl
 ·rw [List.getElem?_eq_none (by rw [addP_len]; omega), List.getElem?_eq_none (by omega)]
theorem addP_set {l c : List Int} {x : Nat} (hx : x < l.length) {v : Int} (hv : v = l.getD x 0 + c.getD x 0) : (addP l c x).set x v = addP l c (x + 1) := by
 apply List.ext_getElem?
 intro i
 by_cases hi : i < l.length
 ·by_cases e : i = x
  ·subst e
   rw [List.getElem?_set_self (by rw [addP_len]; exact hi), addP_get hi, if_pos (by omega), hv]
  ·rw [List.getElem?_set_ne (fun h => e h.symm), addP_get hi, addP_get hi]
   by_cases h : i < x
   ·rw [if_pos h, if_pos (by omega)]
   ·rw [if_neg h, if_neg (by omega)]
 ·rw [List.getElem?_eq_none (by rw [List.length_set, addP_len]; omega), List.getElem?_eq_none (by rw [addP_len]; omega)]
theorem addP_lv {l c : List Int} {m i : Nat} (hl : l.length = m) (hi : i < m) : lv (addP l c m) i = lv l i + lv c i := by
 unfold lv
 rw [List.getD_eq_getElem?_getD, addP_get (by omega), if_pos hi]
 simp only [Option.getD_some]
 rw [Rat.intCast_add]
/-- A list whose first x numbers are divided. -/
def divP (g : Int) (l : List Int) (x : Nat) : List Int := (List.range l.length).map fun i => if i < x then l.getD i 0 / g else l.getD i 0
theorem divP_len (g : Int) (l : List Int) (x : Nat) : (divP g l x).length = l.length := by simp [divP]
theorem divP_get {g : Int} {l : List Int} {x i : Nat} (hi : i < l.length) : (divP g l x)[i]? = some (if i < x then l.getD i 0 / g else l.getD i 0) := by
 unfold divP
 rw [List.getElem?_map, List.getElem?_range hi]; rfl
theorem divP_zero (g : Int) (l : List Int) : divP g l 0 = l := by
 apply List.ext_getElem?
 intro i
 by_cases hi : i < l.length
 ·rw [divP_get hi, if_neg (Nat.not_lt_zero i), List.getD_eq_getElem?_getD, List.getElem?_eq_getElem hi]; rfl
 ·rw [List.getElem?_eq_none (by rw [divP_len]; omega), List.getElem?_eq_none (by omega)]
theorem divP_all (g : Int) (l : List Int) : divP g l l.length = redD g l := by
 apply List.ext_getElem?
 intro i
 unfold redD
 by_cases hi : i < l.length
 ·rw [divP_get hi, if_pos hi, List.getElem?_map, List.getD_eq_getElem?_getD, List.getElem?_eq_getElem hi]; rfl
 ·rw [List.getElem?_eq_none (by rw [divP_len]; omega), List.getElem?_eq_none (by simp; omega)]
theorem divP_set {g : Int} {l : List Int} {x : Nat} (hx : x < l.length) {v : Int} (hv : v = l.getD x 0 / g) : (divP g l x).set x v = divP g l (x + 1) := by
 apply List.ext_getElem?
 intro i
 by_cases hi : i < l.length
 ·by_cases e : i = x
  ·subst e
   rw [List.getElem?_set_self (by rw [divP_len]; exact hi), divP_get hi, if_pos (by omega), hv]
  ·rw [List.getElem?_set_ne (fun h => e h.symm), divP_get hi, divP_get hi]
   by_cases h : i < x
   ·rw [if_pos h, if_pos (by omega)]
   ·rw [if_neg h, if_neg (by omega)]
 ·rw [List.getElem?_eq_none (by rw [List.length_set, divP_len]; omega), List.getElem?_eq_none (by rw [divP_len]; omega)]
theorem gL_bound {B : Int} : ∀ (l : List Int) (g : Int), 0 ≤ g ∧ g ≤ B → (∀ z ∈ l, 0 ≤ z ∧ z ≤ B) → 0 ≤ gL g l ∧ gL g l ≤ B
 | [], g, h, _ => h
 | n :: l, g, h, hl => gL_bound l (gI n g) (gI_bound (hl n List.mem_cons_self) h) (fun z hz => hl z (List.mem_cons_of_mem _ hz))
theorem gLL_bound {B : Int} : ∀ (o : List (List Int)) (g : Int), 0 ≤ g ∧ g ≤ B → (∀ l ∈ o, ∀ z ∈ l, 0 ≤ z ∧ z ≤ B) → 0 ≤ gLL g o ∧ gLL g o ≤ B
 | [], g, h, _ => h
 | l :: o, g, h, hl => gLL_bound o (gL g l) (gL_bound l g h (hl l List.mem_cons_self)) (fun l' hl' => hl l' (List.mem_cons_of_mem _ hl'))
theorem gL_take {g : Int} {l : List Int} {x : Nat} {z : Int} (h : l[x]? = some z) : gL g (l.take (x + 1)) = gI z (gL g (l.take x)) := by
 unfold gL
 rw [List.take_add_one, h, List.foldl_append]
 rfl
theorem gLL_take {g : Int} {o : List (List Int)} {x : Nat} {l : List Int} (h : o[x]? = some l) : gLL g (o.take (x + 1)) = gL (gLL g (o.take x)) l := by
 unfold gLL
 rw [List.take_add_one, h, List.foldl_append]
 rfl

/-- The lists, the first a of them divided. -/
def dvP (g : Int) (es : List RE) (a : Nat) : List RE := es.mapIdx fun i e => if i < a then ⟨e.g, e.cap, redD g e.l⟩ else e
theorem dvP_len (g : Int) (es : List RE) (a : Nat) : (dvP g es a).length = es.length := by simp [dvP]
theorem dvP_get {g : Int} {es : List RE} {a i : Nat} {e : RE} (h : es[i]? = some e) : (dvP g es a)[i]? = some (if i < a then ⟨e.g, e.cap, redD g e.l⟩ else e) := by
 unfold dvP
 rw [List.getElem?_mapIdx, h]; rfl
theorem dvP_zero (g : Int) (es : List RE) : dvP g es 0 = es := by
 apply List.ext_getElem?
 intro i
 by_cases hi : i < es.length
 ·rw [dvP_get (List.getElem?_eq_getElem hi), if_neg (Nat.not_lt_zero i), List.getElem?_eq_getElem hi]
 ·rw [List.getElem?_eq_none (by rw [dvP_len]; omega), List.getElem?_eq_none (by omega)]
theorem dvP_set {g : Int} {es : List RE} {a : Nat} {e : RE} (h : es[a]? = some e) : (dvP g es a).set a ⟨e.g, e.cap, redD g e.l⟩ = dvP g es (a + 1) := by
 have hal := (List.getElem?_eq_some_iff.1 h).1
 apply List.ext_getElem?
 intro i
 by_cases hi : i < es.length
 ·by_cases e1 : i = a
  ·subst e1
   rw [List.getElem?_set_self (by rw [dvP_len]; exact hi), dvP_get h, if_pos (by omega)]
  ·rw [List.getElem?_set_ne (fun h => e1 h.symm), dvP_get (List.getElem?_eq_getElem hi), dvP_get (List.getElem?_eq_getElem hi)]
   by_cases e2 : i < a
   ·rw [if_pos e2, if_pos (by omega)]
   ·rw [if_neg e2, if_neg (by omega)]
 ·rw [List.getElem?_eq_none (by rw [List.length_set, dvP_len]; omega), List.getElem?_eq_none (by rw [dvP_len]; omega)]
theorem dvP_all (g : Int) (es : List RE) : (dvP g es es.length).map RE.l = (es.map RE.l).map (redD g) := by
 apply List.ext_getElem?
 intro i
 by_cases hi : i < es.length
 ·rw [List.getElem?_map, dvP_get (List.getElem?_eq_getElem hi), if_pos hi, List.getElem?_map, List.getElem?_map, List.getElem?_eq_getElem hi]; rfl
 ·rw [List.getElem?_eq_none (by rw [List.length_map, dvP_len]; omega), List.getElem?_eq_none (by rw [List.length_map, List.length_map]; omega)]
theorem RE.of_own {w : World} {base : Nat} {v : Value} {l : List Int} (h : Own1 w base 3 v (l.map (Value.int .i64))) (hl : l ≠ []) : ∃ e : RE, e.l = l ∧ e.v = v ∧ e.ok w base := by
 rcases h.2 with ⟨h', hn⟩ | ⟨g', cap', cur, h', h3, hg', h1, h2, hsz, htake⟩
 ·exact absurd (List.map_eq_nil_iff.1 (List.length_eq_zero_iff.1 hn)) hl
 ·rw [List.length_map] at h' h1
  refine ⟨⟨g', cap', l⟩, rfl, h'.symm, h3, h1, h2, cur, hg', fun i z hz => ?_⟩
  have hi := (List.getElem?_eq_some_iff.1 hz).1
  have := congrArg (fun l => l[i]?) htake
  simp only [List.getElem?_take, List.getElem?_map, hz, Option.map_some, List.length_map, Nat.mul_one] at this
  rw [if_pos hi] at this
  simpa using this
theorem OutR.shape {w : World} {base : Nat} {v : Value} {es : List RE} (h : OutR w base v es) : ∃ A c, v = .slice A es.length c := by
 rcases h.own.2 with ⟨h', hn⟩ | ⟨g', cap', cur, h', h3, hg', h1, h2, hsz, htake⟩
 ·rw [List.length_map] at hn
  exact ⟨_, _, by rw [h', hn]⟩
 ·rw [List.length_map] at h'
  exact ⟨_, _, h'⟩
/-- A list appended. -/
theorem OutR.push {w w' : World} {base : Nat} {v v' : Value} {es : List RE} {e : RE} (h : OutR w base v es) (he : e.ok w base) (hd : ∀ a ∈ es, a.g ≠ e.g) (hown : Own1 w' base 38 v' (es.map RE.v ++ [e.v])) (hg : w.grownBy w' v.ownBlock) : OutR w' base v' (es ++ [e]) := by
 refine ⟨by rw [List.map_append]; exact hown, fun a ha => ?_, ?_⟩
 ·rcases List.mem_append.1 ha with ha | ha
  ·exact (h.rows a ha).other h.own hg
  ·rw [List.mem_singleton.1 ha]; exact he.other h.own hg
 ·rw [List.map_append, List.nodup_append]
  refine ⟨h.dis, List.pairwise_singleton _ _, fun x hx y hy => ?_⟩
  obtain ⟨a, ha, rfl⟩ := List.mem_map.1 hx
  simp at hy
  subst hy
  exact hd a ha
set_option maxRecDepth 100000 in
set_option maxHeartbeats 4000000 in
/-- slices.IndexFunc: the place of a list at which P holds. -/
theorem indexK_any (w : World) (F : Nat) (caps : Array Value) (P : List Int → Prop) (v : Value) (L : List (List Int)) (h : IMat w v L) (hen : Enters F) (hF : TellsI w F caps P L) :
 Calls Tryz.prog 66 #[v, .func (Fn.func F) #[] caps] w fun e w' => ∃ r : Int, e = .returned (.int .i64 r) ∧ Hid ((∃ (k : Nat) (l : List Int), r = (k : Int) ∧ L[k]? = some l ∧ P l) ∨ (r = -1 ∧ ∀ l ∈ L, ¬ P l)) ∧ Below w.heap.size w w' := by
 have H := Lib.hid h
 have HF := Lib.hid hF
 have hen2 : ∀ (args : Array Value) (W : World), (callFunc F args).run Tryz.prog W = .ok (.enter F args) W := hen
 obtain ⟨A, cap, rfl, h, l1, l2⟩ := h.op
 have lm : L.length ≤ 9223372036854775807 := by unfold maxLen at l2; omega
 clear h hF
 obtain ⟨m, hm⟩ : ∃ m, L.length = m := ⟨_, rfl⟩
 rw [hm] at l1 lm
 rw [hm]
 have HM := Lib.hid hm
 clear hm
 go_enter Tryz.func66, Tryz.ntmps66
 go_wp2_with fail
 go_loopw [8] (fun i wr => ∃ (c : Nat), c ≤ m ∧ i = .int .i64 c ∧ Hid (∀ i l, i < c → L[i]? = some l → ¬ P l) ∧ Below w.heap.size w wr) (fun i _ => m - (intOf i).toNat)
 case atStart => exact ⟨0, by omega, rfl, Lib.hid (fun i l hi => absurd hi (by omega)), bel⟩
 case round =>
  obtain ⟨c, hc, rfl, hall, hB⟩ := hrel
  obtain ⟨wo, rfl⟩ : ∃ wo : World, wo = wr := ⟨_, rfl⟩
  have y5 := hB.size; (try simp only [zs] at y5)
  by_cases hlt : c < m
  ·obtain ⟨l, he⟩ : ∃ l, L[c]? = some l := ⟨_, List.getElem?_eq_getElem (by rw [HM.out]; exact hlt)⟩
   have hR := H.out.keep (.of_below hB)
   rw [HM.out] at hR
   obtain ⟨a, D, d, rfl, hab, hcell, hnum, l3, l4⟩ := hR.at he
   have HE := Lib.hid he
   have HNUM := Lib.hid hnum
   have k0 : (0 : Int) ≤ (c : Int) := by omega
   have k1 : (c : Int) < (m : Int) := by omega
   clear he hR hnum
   go_wp2_with fail
   refine (HF.out _ D d l hB HNUM.out (List.mem_of_getElem? HE.out)).mono ?_
   rintro e w2 ⟨⟨b, rfl, hb⟩, hb2⟩
   have y2 := hb2.size; (try simp only [zs] at y2)
   cases b
   ·have HGD : Hid (¬ P l) := fun h => by have := hb.out.2 h; cases this
    clear hb
    go_wp2_with fail
    go_roundw
    case rel =>
     refine ⟨c + 1, by omega, by go_num, Lib.hid (fun i l' hi hl' => ?_), bel⟩
     by_cases hic : i < c
     ·exact hall.out i l' hic hl'
     ·obtain rfl : i = c := by omega
      rw [HE.out] at hl'
      injection hl' with hl'
      subst hl'
      exact HGD.out
    case measure => simp only [intOf]; omega
   ·have HGD : Hid (P l) := hb.out.1 rfl
    clear hb
    go_wp2_with fail
    go_ret
    exact ⟨_, rfl, .inl ⟨c, l, rfl, HE.out, HGD.out⟩, bel⟩
  ·obtain rfl : c = m := by omega
   have HALL : Hid (∀ l ∈ L, ¬ P l) := fun l hl => by
    obtain ⟨i, hi, rfl⟩ := List.mem_iff_getElem.1 hl
    exact hall.out i _ (by rw [← HM.out]; exact hi) (List.getElem?_eq_getElem hi)
   go_wp2_with fail
   go_ret
   exact ⟨_, rfl, .inr ⟨rfl, HALL.out⟩, hB⟩
set_option maxHeartbeats 1000000 in
theorem red1_any (w : World) (A : Option Addr) (c gb : Nat) (cv : Value) (l col : List Int) (h : IntsV w (.slice A l.length c) l) (hb : Loc w gb 38 #[cv]) (hc : IntsV w cv col) (hlen : l.length = col.length) (hl : ∀ z ∈ l, 0 ≤ z ∧ z ≤ 1048576) (hcb : ∀ z ∈ col, 0 ≤ z ∧ z ≤ 1048576) :
 Calls Tryz.prog 78 #[.slice A l.length c, .pointer (some ⟨gb, 0, none⟩)] w fun e w' => Tells (alk l col) e ∧ Below w.heap.size w w' := by
 have H := Lib.hid h
 have HC := Lib.hid hc
 have HL := Lib.hid hl
 have HCB := Lib.hid hcb
 have HLEN := Lib.hid hlen
 obtain ⟨A2, c2, rfl, -, -, -⟩ := hc.op
 obtain ⟨n, hn⟩ : ∃ n, l.length = n := ⟨_, rfl⟩
 rw [hn] at H ⊢
 obtain ⟨e1, f1, -⟩ := hb.all (w' := w)
 clear h hc hl hcb hlen hn
 go_enter Tryz.func78, Tryz.ntmps78
 go_wp2_with fail
 refine (alike_any _ _ _ l col H.out HC.out HLEN.out HL.out HCB.out).mono ?_
 rintro e w1 ⟨⟨q, rfl, hq⟩, hb1⟩
 go_wp2_with fail
 go_ret
 exact ⟨⟨_, rfl, hq⟩, hb1⟩
end Go.Proofs.YtdambnieminnfaaGreat

