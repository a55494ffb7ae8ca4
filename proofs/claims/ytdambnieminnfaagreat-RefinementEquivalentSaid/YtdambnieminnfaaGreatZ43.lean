/- Contracts of the functions that the statements reach, part 43. -/
import Derived.Test.YtdambnieminnfaaGreatRows
import Derived.Test.YtdambnieminnfaaGreatZ1
import Derived.Test.YtdambnieminnfaaGreatZ42
set_option linter.unusedSimpArgs false
set_option linter.unusedVariables false

/- Lists of lists of integers that are written in place. -/
namespace Go.Proofs.YtdambnieminnfaaGreat
open Go.RowKit
attribute [local go_sem ↓] Go.wp_at_zero Go.wp_at_succ

/-- A list in memory: its block, its capacity, its numbers. -/
structure RE where
 g : Nat
 cap : Nat
 l : List Int
def RE.v (e : RE) : Value := .slice (some ⟨e.g, 0, none⟩) e.l.length e.cap
def RE.ok (w : World) (base : Nat) (e : RE) : Prop := base ≤ e.g ∧ e.l.length ≤ e.cap ∧ e.cap ≤ maxLen ∧ ∃ cur : Array Value, Loc w e.g 3 cur ∧ ∀ (i : Nat) (z : Int), e.l[i]? = some z → cur[i]? = some (.int .i64 z)
structure OutR (w : World) (base : Nat) (v : Value) (es : List RE) : Prop where
 own : Own1 w base 38 v (es.map RE.v)
 rows : ∀ e ∈ es, e.ok w base
 dis : (es.map RE.g).Nodup
section
variable {w w' : World} {base : Nat} {v : Value} {es : List RE} {e : RE}
theorem RE.ok.lt (h : e.ok w base) : e.g < w.heap.size := by obtain ⟨-, -, -, cur, hl, -⟩ := h; exact hl.lt
theorem RE.ok.below (h : e.ok w base) (hb : Below w.heap.size w w') : e.ok w' base := by
 obtain ⟨h1, h2, h3, cur, hl, hc⟩ := h
 exact ⟨h1, h2, h3, cur, hl.below hb, hc⟩
theorem RE.ok.cell (h : e.ok w base) {i : Nat} {z : Int} (hz : e.l[i]? = some z) : w.cell? ⟨e.g, i, none⟩ = some (.int .i64 z) := by
 obtain ⟨h1, h2, h3, cur, hl, hc⟩ := h
 rw [Loc.cell hl, hc i z hz]
theorem RE.ok.frz (h : e.ok w base) (i : Nat) : w.frozen? ⟨e.g, i, none⟩ = false := by
 obtain ⟨h1, h2, h3, cur, hl, hc⟩ := h
 exact Loc.frz hl i
theorem RE.ok.vals (h : e.ok w base) (hz : ∀ z ∈ e.l, -9223372036854775808 ≤ z ∧ z ≤ 9223372036854775807) : IntsV w e.v e.l :=
 ⟨_, _, rfl, h.2.1, h.2.2.1, fun _ => ⟨_, rfl, h.lt, fun i z hi => by rw [add0]; exact h.cell hi⟩, hz⟩
theorem RE.ok.set (h : e.ok w base) (x : Nat) (z : Int) : RE.ok (w.setCell ⟨e.g, x, none⟩ (.int .i64 z)) base ⟨e.g, e.cap, e.l.set x z⟩ := by
 obtain ⟨h1, h2, h3, cur, hl, hc⟩ := h
 refine ⟨h1, by simpa using h2, h3, _, hl.set x (.int .i64 z), fun i y hy => ?_⟩
 dsimp only at hy
 by_cases hi : i = x
 ·subst hi
  have hlt : i < e.l.length := by have := (List.getElem?_eq_some_iff.1 hy).1; simpa using this
  rw [List.getElem?_set_self hlt] at hy
  injection hy with hy
  subst hy
  have hc' := hc i _ (List.getElem?_eq_getElem hlt)
  rw [Array.getElem?_setIfInBounds_self_of_lt (by exact (Array.getElem?_eq_some_iff.1 hc').1)]
 ·rw [List.getElem?_set_ne (fun e => hi e.symm)] at hy
  rw [Array.getElem?_setIfInBounds_ne (fun e => hi e.symm)]
  exact hc i y hy
theorem RE.ok.far (h : e.ok w base) {p : Addr} (hp : e.g ≠ p.block) (u : Value) : e.ok (w.setCell p u) base := by
 obtain ⟨h1, h2, h3, cur, hl, hc⟩ := h
 exact ⟨h1, h2, h3, cur, hl.far hp u, hc⟩
theorem RE.ok.other {base2 : Nat} {us : List Value} (h : e.ok w base) (hown : Own1 w base2 38 v us) (hg : w.grownBy w' v.ownBlock) : e.ok w' base := by
 obtain ⟨h1, h2, h3, cur, hl, hc⟩ := h
 exact ⟨h1, h2, h3, cur, loc_other hown hg hl (by decide), hc⟩
theorem OutR.nil (w : World) (base : Nat) : OutR w base (.slice none 0 0) [] := ⟨Own1.nil _ _ _, fun e h => by simp at h, List.Pairwise.nil⟩
theorem OutR.below (h : OutR w base v es) (hb : Below w.heap.size w w') : OutR w' base v es := ⟨h.own.below hb, fun e he => (h.rows e he).below hb, h.dis⟩
/-- Its shape where it is not empty. -/
theorem OutR.op (h : OutR w base v es) (hne : es ≠ []) : ∃ (G cap : Nat), v = .slice (some ⟨G, 0, none⟩) es.length cap ∧ base ≤ G ∧ G < w.heap.size ∧ es.length ≤ cap ∧ cap ≤ maxLen ∧ (∀ i, w.frozen? ⟨G, i, none⟩ = false) ∧ (∀ (i : Nat) (e : RE), es[i]? = some e → w.cell? ⟨G, i, none⟩ = some e.v) ∧ ∀ e ∈ es, e.g ≠ G := by
 have h0 := h.own
 rcases h0.2 with ⟨h', hn⟩ | ⟨g', cap', cur, h', h3, hg', h1, h2, hsz, htake⟩
 ·exact absurd (List.map_eq_nil_iff.1 (List.length_eq_zero_iff.1 hn)) hne
 ·rw [List.length_map] at h' h1
  refine ⟨g', cap', h', h3, (Array.getElem?_eq_some_iff.1 hg').1, h1, h2, fun i => Loc.frz hg' i, fun i e he => ?_, fun e he heq => ?_⟩
  ·have hi := (List.getElem?_eq_some_iff.1 he).1
   rw [Loc.cell hg']
   have := congrArg (fun l => l[i]?) htake
   simp only [List.getElem?_take, List.getElem?_map, he, Option.map_some, List.length_map, Nat.mul_one] at this
   rw [if_pos hi] at this
   simpa using this
  ·obtain ⟨-, -, -, cur2, hl, -⟩ := h.rows e he
   exact loc_ne hl hg' (by decide) heq
theorem OutR.imat (h : OutR w base v es) (hz : ∀ e ∈ es, ∀ z ∈ e.l, -9223372036854775808 ≤ z ∧ z ≤ 9223372036854775807) : IMat w v (es.map RE.l) := by
 by_cases hne : es = []
 ·subst hne
  have h0 := h.own
  rcases h0.2 with ⟨rfl, _⟩ | ⟨g', cap', cur, rfl, h3, hg', h1, h2, hsz, htake⟩
  ·exact ⟨none, 0, rfl, Nat.le_refl _, Nat.zero_le _, fun h => absurd rfl h⟩
  ·exact ⟨_, _, rfl, h1, h2, fun h => absurd rfl h⟩
 ·obtain ⟨G, cap, rfl, h1, h2, h3, h4, h5, h6, h7⟩ := h.op hne
  refine ⟨_, _, by rw [List.length_map], by rw [List.length_map]; exact h3, h4, fun _ => ⟨_, rfl, h2, fun i l hl => ?_⟩⟩
  rw [List.getElem?_map] at hl
  obtain ⟨e, he, rfl⟩ := Option.map_eq_some_iff.1 hl
  exact ⟨_, e.cap, by rw [add0]; exact h6 i e he, (h.rows e (List.mem_of_getElem? he)).vals (hz e (List.mem_of_getElem? he))⟩
/-- A number stored in a list. -/
theorem OutR.put (h : OutR w base v es) {k : Nat} (hk : es[k]? = some e) (x : Nat) (z : Int) : OutR (w.setCell ⟨e.g, x, none⟩ (.int .i64 z)) base v (es.set k ⟨e.g, e.cap, e.l.set x z⟩) := by
 have hkl := List.getElem?_eq_some_iff.1 hk
 have hem : e ∈ es := List.mem_of_getElem? hk
 have hmv : (es.set k ⟨e.g, e.cap, e.l.set x z⟩).map RE.v = es.map RE.v := by
  rw [List.map_set]
  apply List.ext_getElem?
  intro i
  by_cases hi : i = k
  ·subst hi
   rw [List.getElem?_set_self (by simpa using hkl.1), List.getElem?_map, hk]
   simp [RE.v]
  ·rw [List.getElem?_set_ne (fun e => hi e.symm)]
 have hmg : (es.set k ⟨e.g, e.cap, e.l.set x z⟩).map RE.g = es.map RE.g := by
  rw [List.map_set]
  apply List.ext_getElem?
  intro i
  by_cases hi : i = k
  ·subst hi
   rw [List.getElem?_set_self (by simpa using hkl.1), List.getElem?_map, hk]
   rfl
  ·rw [List.getElem?_set_ne (fun e => hi e.symm)]
 refine ⟨?_, fun a ha => ?_, by rw [hmg]; exact h.dis⟩
 ·rw [hmv]
  refine Own1.keep h.own ((Keep.refl (fun b => b = e.g) w).set (.inl rfl) _) (fun g hg heq => ?_)
  obtain ⟨-, -, -, cur2, hl, -⟩ := h.rows e hem
  rcases h.own.2 with ⟨h', _⟩ | ⟨g', cap', cur, h', _, hg', _⟩
  ·rw [h'] at hg; cases hg
  ·rw [h'] at hg
   injection hg with hg
   simp at hg
   exact loc_ne hl hg' (by decide) (by rw [← heq, ← hg])
 ·obtain ⟨i, hi, hai⟩ := List.getElem_of_mem ha
  simp only [List.length_set] at hi
  rw [List.getElem_set] at hai
  by_cases hki : k = i
  ·rw [if_pos hki] at hai
   rw [← hai]
   exact (h.rows e hem).set x z
  ·rw [if_neg hki] at hai
   rw [← hai]
   refine (h.rows _ (List.getElem_mem hi)).far (p := ⟨e.g, x, none⟩) (fun heq => hki ?_) _
   have hd := List.pairwise_iff_getElem.1 h.dis
   rcases Nat.lt_or_gt_of_ne hki with hlt | hlt
   ·have := hd k i (by simpa using hkl.1) (by simpa using hi) hlt
    simp only [List.getElem_map] at this
    rw [hkl.2] at this
    exact absurd heq.symm this
   ·have := hd i k (by simpa using hi) (by simpa using hkl.1) hlt
    simp only [List.getElem_map] at this
    rw [hkl.2] at this
    exact absurd heq this
/-- Two neighbours exchanged. -/
theorem OutR.swap {G cap i j : Nat} {a b : RE} (h : OutR w base (.slice (some ⟨G, 0, none⟩) es.length cap) es) (hi : es[i]? = some a) (hj : es[j]? = some b) (hij : i ≠ j) :
 OutR ((w.setCell ⟨G, i, none⟩ b.v).setCell ⟨G, j, none⟩ a.v) base (.slice (some ⟨G, 0, none⟩) es.length cap) ((es.set i b).set j a) := by
 have hil := List.getElem?_eq_some_iff.1 hi
 have hjl := List.getElem?_eq_some_iff.1 hj
 have hperm : ((es.set i b).set j a).Perm es := by
  have := List.set_set_perm (i := i) (j := j) hil.1 hjl.1
  rw [hil.2, hjl.2] at this
  exact this
 refine ⟨?_, fun e he => ?_, (hperm.map RE.g).nodup_iff.2 h.dis⟩
 ·have h0 : w.ownsRow base 38 1 (.slice (some ⟨G, 0, none⟩) es.length cap) es.length (es.map RE.v) := by
   have := h.own
   unfold Own1 at this
   rw [List.length_map] at this
   exact this
  have h1 := (World.ownsRow.stored h0 i b.v).1
  have h2 := (World.ownsRow.stored h1 j a.v).1
  unfold Own1
  rw [List.map_set, List.map_set, List.length_set, List.length_set, List.length_map]
  exact h2
 ·have hm := hperm.mem_iff.1 he
  obtain ⟨G', cap', hv, -, -, -, -, -, -, h7⟩ := h.op (List.ne_nil_of_mem hm)
  simp only [Value.slice.injEq, Option.some.injEq, Addr.mk.injEq, and_true, true_and] at hv
  obtain ⟨rfl, -⟩ := hv
  exact ((h.rows e hm).far (p := ⟨G, i, none⟩) (h7 e hm) _).far (p := ⟨G, j, none⟩) (h7 e hm) _
end

/- slices.SortFunc at lists of lists of integers, of at most twelve. -/

set_option maxHeartbeats 1000000 in
theorem cmpR_any (w : World) (v1 v2 : Value) (a b : List Int) (h1 : IntsV w v1 a) (h2 : IntsV w v2 b) :
 Calls Tryz.prog 82 #[v1, v2] w fun e w' => e = .returned (.int .i64 (lexC b a)) ∧ Below w.heap.size w w' := by
 have H1 := Lib.hid h1
 have H2 := Lib.hid h2
 obtain ⟨A1, c1, rfl, -, -, -⟩ := h1.op
 obtain ⟨A2, c2, rfl, -, -, -⟩ := h2.op
 clear h1 h2
 go_enter Tryz.func82, Tryz.ntmps82
 go_wp2_with fail
 refine (compareI_any _ _ _ b a H2.out H1.out).mono ?_
 rintro e w1 ⟨rfl, hb1⟩
 go_wp2_with fail
 go_ret
 exact ⟨rfl, hb1⟩
/-- The first i lists are in order. -/
def SRT (i : Nat) (es : List RE) : Prop := ∀ (p q : Nat) (a b : RE), p < q → q < i → es[p]? = some a → es[q]? = some b → geL a.l b.l
/-- The first i + 1 lists are in order, but for the one at j, which may have to move on to the left. -/
def INS (i j : Nat) (es : List RE) : Prop := ∀ (p q : Nat) (a b : RE), p < q → q ≤ i → q ≠ j → es[p]? = some a → es[q]? = some b → geL a.l b.l
theorem INS.start {i : Nat} {es : List RE} (h : SRT i es) : INS i i es := fun p q a b h1 h2 h3 ha hb => h p q a b h1 (by omega) ha hb
theorem INS.zero {i : Nat} {es : List RE} (h : INS i 0 es) : SRT (i + 1) es := fun p q a b h1 h2 ha hb => h p q a b h1 (by omega) (by omega) ha hb
theorem INS.stop {i j : Nat} {es : List RE} {a b : RE} (h : INS i (j + 1) es) (ha : es[j]? = some a) (hb : es[j + 1]? = some b) (hg : geL a.l b.l) : SRT (i + 1) es := fun p q c d h1 h2 hc hd => by
 by_cases e : q = j + 1
 ·subst e
  rw [hb] at hd
  injection hd with hd
  subst hd
  by_cases e2 : p = j
  ·subst e2
   rw [ha] at hc
   injection hc with hc
   subst hc
   exact hg
  ·exact geL_trans _ _ _ (h p j c a (by omega) (by omega) (by omega) hc ha) hg
 ·exact h p q c d h1 (by omega) e hc hd
theorem INS.swap {i j : Nat} {es : List RE} {a b : RE} (h : INS i (j + 1) es) (hji : j + 1 ≤ i) (ha : es[j]? = some a) (hb : es[j + 1]? = some b) (hg : geL b.l a.l) : INS i j ((es.set (j + 1) a).set j b) := fun p q c d h1 h2 h3 hc hd => by
 have hal := (List.getElem?_eq_some_iff.1 ha).1
 have hbl := (List.getElem?_eq_some_iff.1 hb).1
 have get : ∀ (r : Nat) (x : RE), ((es.set (j + 1) a).set j b)[r]? = some x → (r = j ∧ x = b) ∨ (r = j + 1 ∧ x = a) ∨ (r ≠ j ∧ r ≠ j + 1 ∧ es[r]? = some x) := fun r x hx => by
  by_cases e1 : r = j
  ·subst e1
   rw [List.getElem?_set_self (by simpa using hal)] at hx
   injection hx with hx
   exact .inl ⟨rfl, hx.symm⟩
  ·rw [List.getElem?_set_ne (fun e => e1 e.symm)] at hx
   by_cases e2 : r = j + 1
   ·subst e2
    rw [List.getElem?_set_self hbl] at hx
    injection hx with hx
    exact .inr (.inl ⟨rfl, hx.symm⟩)
   ·rw [List.getElem?_set_ne (fun e => e2 e.symm)] at hx
    exact .inr (.inr ⟨e1, e2, hx⟩)
 rcases get q d hd with ⟨rfl, rfl⟩ | ⟨rfl, rfl⟩ | ⟨q1, q2, hd'⟩
 ·exact absurd rfl h3
 ·rcases get p c hc with ⟨rfl, rfl⟩ | ⟨rfl, rfl⟩ | ⟨p1, p2, hc'⟩
  ·exact hg
  ·omega
  ·exact h p j c d (by omega) (by omega) (by omega) hc' ha
 ·rcases get p c hc with ⟨rfl, rfl⟩ | ⟨rfl, rfl⟩ | ⟨p1, p2, hc'⟩
  ·exact h (p + 1) q c d (by omega) h2 q2 hb hd'
  ·exact h j q c d (by omega) h2 q2 ha hd'
  ·exact h p q c d h1 h2 q2 hc' hd'
theorem SRT.sorted {es : List RE} (h : SRT es.length es) : (es.map RE.l).Pairwise geL := by
 rw [List.pairwise_map, List.pairwise_iff_getElem]
 exact fun p q hp hq hpq => h p q _ _ hpq hq (List.getElem?_eq_getElem hp) (List.getElem?_eq_getElem hq)

set_option maxRecDepth 100000 in
set_option maxHeartbeats 16000000 in
theorem isort_any (w : World) (base G cap n : Nat) (es : List RE) (h : OutR w base (.slice (some ⟨G, 0, none⟩) n cap) es) (hn : es.length = n) (hn1 : 1 ≤ n) (hn12 : n ≤ 12) (hbw : base ≤ w.heap.size) (hz : ∀ e ∈ es, ∀ z ∈ e.l, -9223372036854775808 ≤ z ∧ z ≤ 9223372036854775807) :
 Calls Tryz.prog 149 #[.slice (some ⟨G, 0, none⟩) n cap, .int .i64 0, .int .i64 n, .func (Fn.func 82) #[] #[]] w fun e w' => e = .returned (.tuple #[]) ∧ (∃ es', Hid (es'.Perm es ∧ (es'.map RE.l).Pairwise geL ∧ OutR w' base (.slice (some ⟨G, 0, none⟩) n cap) es')) ∧ Below base w w' := by
 have HH := Lib.hid h
 have HNN := Lib.hid hn
 have HZ := Lib.hid hz
 have hne : es ≠ [] := fun e => by rw [e] at hn; simp at hn; omega
 obtain ⟨G', cap', hv, hbG, hGw, hnc, hcm, -, -, -⟩ := h.op hne
 rw [hn] at hv hnc
 simp only [Value.slice.injEq, Option.some.injEq, Addr.mk.injEq, and_true, true_and] at hv
 obtain ⟨rfl, rfl⟩ := hv
 clear h hn hz hne
 go_enter Tryz.func149, Tryz.ntmps149
 go_wp2_with fail
 go_loopw [8] (fun i wr => ∃ (x : Nat) (es' : List RE), 1 ≤ x ∧ x ≤ n ∧ i = .int .i64 x ∧ Hid (es'.Perm es ∧ SRT x es' ∧ OutR wr base (.slice (some ⟨G, 0, none⟩) n cap) es') ∧ Below base w wr) (fun i _ => n - (intOf i).toNat)
 case atStart => exact ⟨1, es, by omega, hn1, rfl, Lib.hid ⟨.refl _, fun p q a b h1 h2 => by omega, HH.out⟩, Below.refl _ _⟩
 case round =>
  clear HH
  obtain ⟨x, es1, hx1, hx, rfl, h1, hB⟩ := hrel
  obtain ⟨wx, rfl⟩ : ∃ wo : World, wo = wr := ⟨_, rfl⟩
  have HB := Lib.hid hB
  have H1 := Lib.hid h1.out
  clear hB h1
  by_cases hlt : x < n
  ·have k0 : (x : Int) < (n : Int) := by omega
   go_wp2_with fail
   go_loopw [9] (fun i wr => ∃ (j : Nat) (es' : List RE), j ≤ x ∧ i = .int .i64 j ∧ Hid (es'.Perm es ∧ INS x j es' ∧ OutR wr base (.slice (some ⟨G, 0, none⟩) n cap) es') ∧ Below base w wr) (fun i _ => (intOf i).toNat)
   case atStart => exact ⟨x, es1, Nat.le_refl _, rfl, Lib.hid ⟨H1.out.1, INS.start H1.out.2.1, H1.out.2.2⟩, HB.out⟩
   case round =>
    clear H1 HB
    obtain ⟨j, es2, hj, rfl, h2, hB2⟩ := hrel
    obtain ⟨wj, rfl⟩ : ∃ wo : World, wo = wr := ⟨_, rfl⟩
    have HB2 := Lib.hid hB2
    have H2 := Lib.hid h2.out
    have yj := hB2.size
    clear hB2 h2
    by_cases h0 : j = 0
    ·subst h0
     have HS := Lib.hid (INS.zero H2.out.2.1)
     have d1 : decide ((0 : Int) < 0) = false := rfl
     go_upto_region 4 with fail
     refine wp_region_noPanic ?_
     refine wp_region_held_drew (S := (fun _ => True)) (by kernel_rfl) ?_ (fun hHeld => ?_)
     ·trivial
     refine takeT 0 hHeld ?_
     (try simp only [Act.put, ly])
     refine takeT 1 hHeld ?_
     (try simp only [Act.put, ly])
     refine takeT 2 hHeld ?_
     (try simp only [Act.put, ly])
     refine takeT 3 hHeld ?_
     (try simp only [Act.put, ly])
     refine offT 4 hHeld ?_
     refine offT 5 hHeld ?_
     refine offT 6 hHeld ?_
     refine offT 7 hHeld ?_
     refine offT 8 hHeld ?_
     refine offT 9 hHeld ?_
     refine offT 10 hHeld ?_
     refine offT 11 hHeld ?_
     refine offT 12 hHeld ?_
     refine offT 13 hHeld ?_
     refine offT 14 hHeld ?_
     refine offT 15 hHeld ?_
     (try simp only [Act.put, ly])
     refine takeT 16 hHeld ?_
     (try simp only [Act.put, ly])
     refine wpAnyH_done (by kernel_rfl) ?_ _
     refine NoPanic.normal ?_
     go_wp2_with fail
     go_roundw
     case rel => exact ⟨x + 1, es2, by omega, by omega, by go_num, Lib.hid ⟨H2.out.1, HS.out, H2.out.2.2.below (Below.refl _ _).drew⟩, HB2.out.drew⟩
     case measure => simp only [intOf]; omega
    ·obtain ⟨j1, hj1⟩ : ∃ q, j = q + 1 := ⟨j - 1, by omega⟩
     have d1 : decide ((0 : Int) < (j : Int)) = true := decide_eq_true (by omega)
     have hlen : es2.length = n := by rw [H2.out.1.length_eq, HNN.out]
     obtain ⟨a, ha⟩ : ∃ e, es2[j1]? = some e := ⟨_, List.getElem?_eq_getElem (by omega)⟩
     obtain ⟨b, hb⟩ : ∃ e, es2[j]? = some e := ⟨_, List.getElem?_eq_getElem (by omega)⟩
     have hne2 : es2 ≠ [] := fun e => by rw [e] at hlen; simp at hlen; omega
     obtain ⟨G', cap', hv, -, hGj, -, -, hfz, hcell, -⟩ := H2.out.2.2.op hne2
     rw [hlen] at hv
     simp only [Value.slice.injEq, Option.some.injEq, Addr.mk.injEq, and_true, true_and] at hv
     obtain ⟨rfl, rfl⟩ := hv
     have c1 := hcell j1 a ha
     have c2 := hcell j b hb
     have ham := List.mem_of_getElem? ha
     have hbm := List.mem_of_getElem? hb
     have HVA := Lib.hid (RE.ok.vals (H2.out.2.2.rows a ham) (HZ.out a (H2.out.1.mem_iff.1 ham)))
     have HVB := Lib.hid (RE.ok.vals (H2.out.2.2.rows b hbm) (HZ.out b (H2.out.1.mem_iff.1 hbm)))
     obtain ⟨av, hav⟩ : ∃ v, a.v = v := ⟨_, rfl⟩
     obtain ⟨bv, hbv⟩ : ∃ v, b.v = v := ⟨_, rfl⟩
     have HAV := Lib.hid hav
     have HBV := Lib.hid hbv
     unfold RE.v at hav hbv
     rw [HAV.out] at c1 HVA
     rw [HBV.out] at c2 HVB
     obtain ⟨A1, m1, q1, rfl⟩ : ∃ A m c, av = .slice A m c := ⟨_, _, _, hav.symm⟩
     obtain ⟨A2, m2, q2, rfl⟩ : ∃ A m c, bv = .slice A m c := ⟨_, _, _, hbv.symm⟩
     obtain ⟨Q, hQ⟩ : ∃ q, lexC a.l b.l = q := ⟨_, rfl⟩
     have HQ := Lib.hid hQ
     have HAA : Hid (es2[j1]? = some a ∧ es2[j]? = some b) := ⟨ha, hb⟩
     have HJ := Lib.hid hj1
     have HLS : Hid (∀ W, Below wj.heap.size wj W → W.cell? ⟨G, j, none⟩ = some (.slice A2 m2 q2) ∧ W.cell? ⟨G, j1, none⟩ = some (.slice A1 m1 q1)) := fun W hW => ⟨cell_keep (X := fun _ => False) c2 hGj id (.of_below hW), cell_keep (X := fun _ => False) c1 hGj id (.of_below hW)⟩
     have HFZ := Lib.hid hfz
     have HLEN := Lib.hid hlen
     have t1 : IntKind.i64.wrap ((j : Int) - 1) = (j1 : Int) := by rw [IntKind.wrap_i64]; omega
     have k1 : (0 : Int) ≤ (j : Int) := by omega
     have k2 : (j : Int) < (n : Int) := by omega
     have k3 : (0 : Int) ≤ (j1 : Int) := by omega
     have k4 : (j1 : Int) < (n : Int) := by omega
     have t2 : (j : Int) - 1 = (j1 : Int) := by omega
     have hj0 : 0 < j := by omega
     have t3 : IntKind.i64.wrap (j1 : Int) = (j1 : Int) := by rw [IntKind.wrap_i64]; omega
     clear ha hb hcell hfz hav hbv hQ hlen hne2 c1 c2 ham hbm hj1
     go_upto_region 4 with fail
     refine wp_region_noPanic ?_
     refine wp_region_held_drew (S := (fun W => W.cell? ⟨G, j, none⟩ = some (.slice A2 m2 q2) ∧ W.cell? ⟨G, j1, none⟩ = some (.slice A1 m1 q1))) (by kernel_rfl) ?_ (fun hHeld => ?_)
     ·exact HLS.out _ (Below.refl _ _).drew
     refine takeT 0 hHeld ?_
     (try simp only [Act.put, ly])
     refine takeT 1 hHeld ?_
     (try simp only [Act.put, ly])
     refine takeT 2 hHeld ?_
     (try simp only [Act.put, ly])
     refine takeT 3 hHeld ?_
     (try simp only [Act.put, ly])
     refine takeT 4 hHeld ?_
     (try simp only [Act.put, ly])
     refine takeT 5 hHeld ?_
     (try simp only [Act.put, ly])
     refine takeT 6 hHeld ?_
     (try simp only [Act.put, ly])
     refine takeT 7 hHeld ?_
     (try simp only [Act.put, ly])
     refine takeT 8 hHeld ?_
     (try simp only [Act.put, ly])
     refine takeT 9 hHeld ?_
     (try simp only [Act.put, ly])
     refine takeT 10 hHeld ?_
     (try simp only [Act.put, ly])
     refine takeT 11 hHeld ?_
     (try simp only [Act.put, ly])
     refine takeT 12 hHeld ?_
     (try simp only [Act.put, ly])
     refine takeT 13 hHeld ?_
     (try simp only [Act.put, ly])
     refine wpAnyH_ready (rs := [14]) (by kernel_rfl) (by simp) ?_
     refine AllReadyH.cons rfl (fun K hK => ?_) AllReadyH.nil
     go_simp
     refine (cmpR_any _ _ _ b.l a.l (HVB.out.keep (.of_below (bel : Below wj.heap.size wj _))) (HVA.out.keep (.of_below (bel : Below wj.heap.size wj _)))).mono ?_
     rintro e u1 ⟨he, hb1⟩
     rw [HQ.out] at he
     subst he
     have y1 := hb1.size; (try simp only [zs] at y1)
     have hBu : Below wj.heap.size wj u1 := bel
     (try go_wp2_with fail)
     refine hK.out _ _ ?_ (fun hHeld => ?_)
     ·(try dsimp only)
      exact HLS.out _ hBu
     clear hK K
     (try simp only [Act.put, ly])
     have HBU := Lib.hid hBu
     by_cases hq : Q < 0
     ·have d2 : decide (Q < 0) = true := decide_eq_true hq
      have HG : Hid (geL b.l a.l) := by
       show lexC a.l b.l ≤ 0
       rw [HQ.out]; omega
      clear hq HQ
      refine takeT 15 hHeld ?_
      (try simp only [Act.put, ly])
      refine takeT 16 hHeld ?_
      (try simp only [Act.put, ly])
      refine wpAnyH_done (by kernel_rfl) ?_ _
      refine NoPanic.normal ?_
      clear d2
      have HS1 := HLS.out u1 HBU.out
      have g1 := HS1.1
      have g2 := HS1.2
      have gl : G < u1.heap.size := by omega
      have O1 := Lib.hid (H2.out.2.2.below HBU.out)
      have HFU : Hid (∀ i, u1.frozen? ⟨G, i, none⟩ = false) := fun i => by
       have hne3 : es2 ≠ [] := fun e => by have := HLEN.out; rw [e] at this; simp at this; omega
       obtain ⟨G', cap', hv, -, -, -, -, hfz, -, -⟩ := O1.out.op hne3
       rw [HLEN.out] at hv
       simp only [Value.slice.injEq, Option.some.injEq, Addr.mk.injEq, and_true, true_and] at hv
       obtain ⟨rfl, -⟩ := hv
       exact hfz i
      have gf := HFU.out
      have HOS : Hid (OutR ((u1.setCell ⟨G, j, none⟩ (.slice A1 m1 q1)).setCell ⟨G, j1, none⟩ (.slice A2 m2 q2)) base (.slice (some ⟨G, 0, none⟩) n cap) ((es2.set j a).set j1 b)) := by
       have := OutR.swap (i := j) (j := j1) (a := b) (b := a) (by have := O1.out; rw [← HLEN.out] at this; exact this) HAA.out.2 HAA.out.1 (by have := HJ.out; omega)
       rw [HAV.out, HBV.out, HLEN.out] at this
       exact this
      have HPM : Hid (((es2.set j a).set j1 b).Perm es) := by
       have hil := List.getElem?_eq_some_iff.1 HAA.out.2
       have hjl := List.getElem?_eq_some_iff.1 HAA.out.1
       have := List.set_set_perm (i := j) (j := j1) hil.1 hjl.1
       rw [hil.2, hjl.2] at this
       exact this.trans H2.out.1
      have HINS : Hid (INS x j1 ((es2.set j a).set j1 b)) := by
       have e := HJ.out
       have h3 := H2.out.2.1
       have h4 := HAA.out
       subst e
       exact INS.swap h3 hj h4.1 h4.2 HG.out
      have HB3 : Hid (Below base w ((u1.setCell ⟨G, j, none⟩ (.slice A1 m1 q1)).setCell ⟨G, j1, none⟩ (.slice A2 m2 q2))) := ((HB2.out.trans (HBU.out.mono (by omega))).setCell hbG _).setCell hbG _
      have f1 : (u1.setCell ⟨G, j, none⟩ (.slice A1 m1 q1)).cell? ⟨G, j1, none⟩ = some (.slice A1 m1 q1) := by
       rw [World.cell?_setCell_other _ _ _ _ (fun e => by have := HJ.out; simp only [Addr.mk.injEq] at e; omega)]
       exact g2
      clear HS1 hHeld
      go_upto_region 6 with fail
      refine wp_region_noPanic ?_
      refine wp_region_heldK (k := 15) (S := (fun W => W.cell? ⟨G, j, none⟩ = some (.slice A2 m2 q2) ∧ W.cell? ⟨G, j1, none⟩ = some (.slice A1 m1 q1))) (by kernel_rfl) ?_ (fun hHeld => ?_)
      ·exact ⟨g1, g2⟩
      refine puK 0 ?_
      (try simp only [Act.put, ly])
      refine puK 1 ?_
      (try simp only [Act.put, ly])
      refine puK 2 ?_
      (try simp only [Act.put, ly])
      refine puK 3 ?_
      (try simp only [Act.put, ly])
      refine puK 4 ?_
      (try simp only [Act.put, ly])
      refine puK 5 ?_
      (try simp only [Act.put, ly])
      refine puK 6 ?_
      (try simp only [Act.put, ly])
      refine puK 7 ?_
      (try simp only [Act.put, ly])
      refine puK 8 ?_
      (try simp only [Act.put, ly])
      refine tkK 9 ?_
      (try simp only [Act.put, ly])
      refine puK 10 ?_
      (try simp only [Act.put, ly])
      refine puK 11 ?_
      (try simp only [Act.put, ly])
      refine puK 12 ?_
      (try simp only [Act.put, ly])
      refine tkK 13 ?_
      (try simp only [Act.put, ly])
      refine puK 14 ?_
      (try simp only [Act.put, ly])
      refine wpAnyK_ready (rs := [15]) (by kernel_rfl) (by simp) ?_
      refine AllReadyK.last (by kernel_rfl) rfl (fun KK hKK => ?_) AllReadyK.nil
      go_simp
      refine hKK.out _ _ ?_
      clear hKK KK
      (try simp only [Act.put, ly])
      refine puK 16 ?_
      (try simp only [Act.put, ly])
      refine wpAnyK_ready (rs := [17]) (by kernel_rfl) (by simp) ?_
      refine AllReadyK.last (by kernel_rfl) rfl (fun KK hKK => ?_) AllReadyK.nil
      go_simp
      refine hKK.out _ _ ?_
      clear hKK KK
      (try simp only [Act.put, ly])
      refine wpAnyK_done (by kernel_rfl) ?_ _
      refine NoPanic.normal ?_
      clear g1 g2 gf f1
      go_wp2_with fail
      go_roundw
      case rel => exact ⟨j1, (es2.set j a).set j1 b, by have := HJ.out; omega, by go_num, Lib.hid ⟨HPM.out, HINS.out, HOS.out.below (Below.refl _ _).drew⟩, HB3.out.drew⟩
      case measure => simp only [intOf]; have := HJ.out; omega
     ·have d2 : decide (Q < 0) = false := decide_eq_false hq
      have HS : Hid (SRT (x + 1) es2) := by
       have hg : geL a.l b.l := geL_total _ _ (by rw [HQ.out]; exact hq)
       have e := HJ.out
       have h3 := H2.out.2.1
       have h4 := HAA.out
       subst e
       exact INS.stop h3 h4.1 h4.2 hg
      clear hq HQ
      refine takeT 15 hHeld ?_
      (try simp only [Act.put, ly])
      refine takeT 16 hHeld ?_
      (try simp only [Act.put, ly])
      refine wpAnyH_done (by kernel_rfl) ?_ _
      refine NoPanic.normal ?_
      clear d2
      go_wp2_with fail
      go_roundw
      case rel => exact ⟨x + 1, es2, by omega, by omega, by go_num, Lib.hid ⟨H2.out.1, HS.out, H2.out.2.2.below HBU.out⟩, HB2.out.trans (HBU.out.mono (by omega))⟩
      case measure => simp only [intOf]; omega
  ·obtain rfl : x = n := by omega
   have HFIN : Hid (es1.Perm es ∧ (es1.map RE.l).Pairwise geL ∧ OutR wx base (.slice (some ⟨G, 0, none⟩) x cap) es1) := ⟨H1.out.1, SRT.sorted (by have := H1.out.2.1; rw [H1.out.1.length_eq, HNN.out]; exact this), H1.out.2.2⟩
   go_wp2_with fail
   go_end0
   exact ⟨rfl, ⟨es1, HFIN⟩, HB.out⟩
end Go.Proofs.YtdambnieminnfaaGreat

