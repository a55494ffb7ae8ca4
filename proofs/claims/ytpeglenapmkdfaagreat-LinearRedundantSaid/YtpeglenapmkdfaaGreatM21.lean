/- Contracts of the functions that the statements reach, part 21. -/
import Derived.Test.YtpeglenapmkdfaaGreatRows
import Derived.Test.YtpeglenapmkdfaaGreatM16
import Derived.Test.YtpeglenapmkdfaaGreatM17
import Derived.Test.YtpeglenapmkdfaaGreatM20
set_option linter.unusedSimpArgs false
set_option linter.unusedVariables false

/- numbers. -/
namespace Go.Proofs.YtpeglenapmkdfaaGreat
open Go.RowKit
attribute [local go_sem ↓] Go.wp_at_zero Go.wp_at_succ

/-- At most so many numbers, each short. -/
def NB (l : List RF) (most : Nat) : Prop := l.length ≤ most ∧ ∀ (i : Nat) (e : RF), l[i]? = some e → e.few

set_option maxRecDepth 100000 in
set_option maxHeartbeats 4000000 in
theorem numbers_any (w : World) (v : Value) (l : List RF) (most : Nat) (h : Rats w (fun _ => False) v l) (hm : most ≤ 1000) :
    Calls Tryz.prog 13 #[v, .int .i64 most] w fun e w' => Tells (NB l most) e ∧ Below w.heap.size w w' := by
  have H := Lib.hid h
  obtain ⟨A, cap, rfl, h, l1, l2⟩ := h.op
  clear h
  obtain ⟨n, hn⟩ : ∃ n, l.length = n := ⟨_, rfl⟩
  rw [hn] at l1
  rw [hn]
  have HN := Lib.hid hn
  clear hn
  by_cases hgt : most < n
  · have HV : Hid (¬ NB l most) := fun h => by have := h.1; rw [HN.out] at this; omega
    go_enter Tryz.func13, Tryz.ntmps13
    go_wp2_with fail
    go_ret
    exact ⟨Tells.no HV.out, bel⟩
  have hle : n ≤ most := by omega
  go_enter Tryz.func13, Tryz.ntmps13
  go_wp2_with fail
  go_loopw [13] (fun i wr => ∃ (c : Nat), c ≤ n ∧ i = .int .i64 c ∧ Hid (∀ (i : Nat) (e : RF), i < c → l[i]? = some e → e.few) ∧ Below w.heap.size w wr) (fun i _ => n - (intOf i).toNat)
  case atStart => exact ⟨0, by omega, rfl, Lib.hid (fun i e hi => absurd hi (by omega)), bel⟩
  case round =>
    obtain ⟨c, hc, rfl, hall, hB⟩ := hrel
    obtain ⟨wo, rfl⟩ : ∃ wo : World, wo = wr := ⟨_, rfl⟩
    have y5 := hB.size
    by_cases hlt : c < n
    · obtain ⟨e, he⟩ : ∃ e, l[c]? = some e := ⟨_, List.getElem?_eq_getElem (by rw [HN.out]; exact hlt)⟩
      have hR := H.out.keep (.of_below hB)
      rw [HN.out] at hR
      obtain ⟨a, rfl, hb, C, c1, D, d1, x0, x1, x2, x3, -⟩ := hR.at he
      have HE := Lib.hid he
      obtain ⟨p, hp⟩ : ∃ p, e.xs.length = p := ⟨_, rfl⟩
      obtain ⟨q, hq⟩ : ∃ q, e.ys.length = q := ⟨_, rfl⟩
      rw [hp] at x1
      rw [hq] at x3
      have HP := Lib.hid hp
      have HQ := Lib.hid hq
      obtain ⟨bn1, hbn1⟩ : ∃ b, e.n1 = b := ⟨_, rfl⟩
      obtain ⟨bn2, hbn2⟩ : ∃ b, e.n2 = b := ⟨_, rfl⟩
      rw [hbn1] at x0
      rw [hbn2] at x2
      replace x1 : wo.cell? ⟨(a.add (c * 4)).block, (a.add (c * 4)).off + 1, none⟩ = some (.slice C p c1) := x1
      replace x2 : wo.cell? ⟨(a.add (c * 4)).block, (a.add (c * 4)).off + 2, none⟩ = some (.bool bn2) := x2
      replace x3 : wo.cell? ⟨(a.add (c * 4)).block, (a.add (c * 4)).off + 3, none⟩ = some (.slice D q d1) := x3
      have k0 : (0 : Int) ≤ (c : Int) := by omega
      have k1 : (c : Int) < (n : Int) := by omega
      clear hp hq hbn1 hbn2 he hR
      by_cases hp2 : 2 < p
      · have HV : Hid (¬ NB l most) := fun h => by have := (h.2 c e HE.out).1; rw [HP.out] at this; omega
        go_wp2_with fail
        go_ret
        exact ⟨Tells.no HV.out, bel⟩
      have hp3 : p ≤ 2 := by omega
      by_cases hq2 : 2 < q
      · have HV : Hid (¬ NB l most) := fun h => by have := (h.2 c e HE.out).2; rw [HQ.out] at this; omega
        go_wp2_with fail
        go_ret
        exact ⟨Tells.no HV.out, bel⟩
      have hq3 : q ≤ 2 := by omega
      go_wp2_with fail
      go_roundw
      case rel =>
        refine ⟨c + 1, by omega, by go_num, Lib.hid (fun i e' hi he' => ?_), bel⟩
        by_cases hic : i < c
        · exact hall.out i e' hic he'
        · obtain rfl : i = c := by omega
          rw [HE.out] at he'
          injection he' with he'
          subst he'
          exact ⟨by rw [HP.out]; exact hp3, by rw [HQ.out]; exact hq3⟩
      case measure => simp only [intOf]; omega
    · obtain rfl : c = n := by omega
      have HV : Hid (NB l most) := ⟨by rw [HN.out]; exact hle, fun i e he => hall.out i e (by have := (List.getElem?_eq_some_iff.1 he).1; rw [HN.out] at this; exact this) he⟩
      go_wp2_with fail
      go_ret
      exact ⟨Tells.yes HV.out, hB⟩
end Go.Proofs.YtpeglenapmkdfaaGreat

/- few. -/
namespace Go.Proofs.YtpeglenapmkdfaaGreat
open Go.RowKit
attribute [local go_sem ↓] Go.wp_at_zero Go.wp_at_succ

/-- At most 6 equations in at most 8 unknowns, with small numbers. -/
def FewS (L : List (List RF)) (l : List RF) : Prop := L.length ≤ 6 ∧ NB l 6 ∧ ∀ (i : Nat) (r : List RF), L[i]? = some r → NB r 8

set_option maxRecDepth 100000 in
set_option maxHeartbeats 4000000 in
theorem few_any8 (w : World) (va vb : Value) (L : List (List RF)) (l : List RF) (hA : RMat w va L) (hB : Rats w (fun _ => False) vb l) :
    Calls Tryz.prog 12 #[.agg #[va, vb]] w fun e w' => Tells (FewS L l) e ∧ Below w.heap.size w w' := by
  have HA := Lib.hid hA
  have HB := Lib.hid hB
  obtain ⟨A, cA, rfl, hA, la1, la2⟩ := hA.op
  obtain ⟨B, cB, rfl, hB, lb1, lb2⟩ := hB.op
  clear hA hB
  obtain ⟨m, hm⟩ : ∃ m, L.length = m := ⟨_, rfl⟩
  rw [hm] at la1
  rw [hm]
  have HM := Lib.hid hm
  have L1 := made1 w #[.slice A m cA, .slice B l.length cB] 25
  clear hm
  by_cases hgt : 6 < m
  · have HV : Hid (¬ FewS L l) := fun h => by have := h.1; rw [HM.out] at this; omega
    go_enter Tryz.func12, Tryz.ntmps12
    go_wp2_with fail
    go_ret
    exact ⟨Tells.no HV.out, bel⟩
  have hle : m ≤ 6 := by omega
  go_enter Tryz.func12, Tryz.ntmps12
  go_wp2_with fail
  refine (numbers_any _ _ l 6 (HB.out.keep kp) (by decide)).mono ?_
  rintro e w1 ⟨⟨b, rfl, hb⟩, hb1⟩
  have y1 := hb1.size; (try simp only [World.size_alloc, size_set, size_drew, size_drewN] at y1)
  obtain ⟨e1, f1, -⟩ := L1.all (w' := w1)
  cases b
  · have HV : Hid (¬ FewS L l) := fun h => by have := hb.out.2 h.2.1; cases this
    clear hb
    go_wp2_with fail
    go_ret
    exact ⟨Tells.no HV.out, bel⟩
  have HNB : Hid (NB l 6) := hb.out.1 rfl
  clear hb
  have hw1 : Below w.heap.size w w1 := bel
  go_wp2_with fail
  go_loopw [18] (fun i wr => ∃ (c : Nat), c ≤ m ∧ i = .int .i64 c ∧ Hid (∀ (i : Nat) (r : List RF), i < c → L[i]? = some r → NB r 8) ∧ Below w.heap.size w wr) (fun i _ => m - (intOf i).toNat)
  case atStart => exact ⟨0, by omega, rfl, Lib.hid (fun i e hi => absurd hi (by omega)), hw1⟩
  case round =>
    obtain ⟨c, hc, rfl, hall, hB2⟩ := hrel
    obtain ⟨wo, rfl⟩ : ∃ wo : World, wo = wr := ⟨_, rfl⟩
    have y5 := hB2.size
    by_cases hlt : c < m
    · obtain ⟨r, he⟩ : ∃ r, L[c]? = some r := ⟨_, List.getElem?_eq_getElem (by rw [HM.out]; exact hlt)⟩
      have hR := HA.out.keep (.of_below hB2)
      rw [HM.out] at hR
      obtain ⟨a, D, c1, rfl, hb, x0, hr, -, -⟩ := hR.at he
      have HE := Lib.hid he
      have HR := Lib.hid hr
      have k0 : (0 : Int) ≤ (c : Int) := by omega
      have k1 : (c : Int) < (m : Int) := by omega
      clear he hR hr
      go_wp2_with fail
      refine (numbers_any _ _ r 8 (HR.out.keep kp) (by decide)).mono ?_
      rintro e w2 ⟨⟨b, rfl, hb2⟩, hb3⟩
      cases b
      · have HV : Hid (¬ FewS L l) := fun h => by have := hb2.out.2 (h.2.2 c r HE.out); cases this
        clear hb2
        go_wp2_with fail
        go_ret
        exact ⟨Tells.no HV.out, bel⟩
      have HN8 : Hid (NB r 8) := hb2.out.1 rfl
      clear hb2
      go_wp2_with fail
      go_roundw
      case rel =>
        refine ⟨c + 1, by omega, by go_num, Lib.hid (fun i e' hi he' => ?_), bel⟩
        by_cases hic : i < c
        · exact hall.out i e' hic he'
        · obtain rfl : i = c := by omega
          rw [HE.out] at he'
          injection he' with he'
          subst he'
          exact HN8.out
      case measure => simp only [intOf]; omega
    · obtain rfl : c = m := by omega
      have HV : Hid (FewS L l) := ⟨by rw [HM.out]; exact hle, HNB.out, fun i e he => hall.out i e (by have := (List.getElem?_eq_some_iff.1 he).1; rw [HM.out] at this; exact this) he⟩
      go_wp2_with fail
      go_ret
      exact ⟨Tells.yes HV.out, hB2⟩
end Go.Proofs.YtpeglenapmkdfaaGreat

/- Lists of fractions that grow by append, or are made. -/
namespace Go.Proofs.YtpeglenapmkdfaaGreat
open Go.RowKit

def zR4 : R4 := ⟨false, none, 0, 0, false, none, 0, 0⟩
theorem info_rat : (Tryz.prog.info? 44).map (fun i => (i.zero, i.size, i.bytes)) = some (some (.agg #[.bool false, .slice none 0 0, .bool false, .slice none 0 0]), 4, 64) := by kernel_rfl

/-- A list of fractions that lies in a block of its own, at or above base. -/
def OwnR (w : World) (base : Nat) (v : Value) (rs : List R4) : Prop := w.ownsRow base 44 4 v rs.length (flat rs)

theorem OwnR.nil (w : World) (base : Nat) : OwnR w base (.slice none 0 0) [] := World.ownsRow_nil _ _ _ _

theorem flat_cells : ∀ (rs : List R4) (r : R4), r ∈ rs → True := fun _ _ _ => trivial
theorem r4_one (r : R4) : ∀ u ∈ r.cs, u.oneCell' = true := by
  intro u hu
  simp [R4.cs] at hu
  rcases hu with rfl | rfl | rfl | rfl <;> rfl

section
variable {w w' : World} {base k : Nat} {v : Value} {rs : List R4} {X Y : Nat → Prop} {f : Nat → Rat}
theorem OwnR.line {g n : Nat} (h : OwnR w base (.slice (some ⟨g, 0, none⟩) n n) rs) : Line w g rs ∧ rs.length = n := by
  have hl := h.1
  rw [flat_len] at hl
  rcases h.2 with ⟨h', _⟩ | ⟨g', cap', cur, h', _, hg, _, _, hsz, htake⟩
  · simp at h'
  · simp only [Value.slice.injEq, Option.some.injEq, Addr.mk.injEq, and_true, true_and] at h'
    obtain ⟨rfl, hr, rfl⟩ := h'
    refine ⟨?_, hr.symm⟩
    have : cur.toList = flat rs := by
      rw [← htake, List.take_of_length_le (by simp; omega)]
    unfold Line Loc
    rw [hg, ← this]
theorem OwnR.lt (h : OwnR w base v rs) {g : Nat} (hg : v.ownBlock = some g) : g < w.heap.size ∧ base ≤ g := by
  rcases h.2 with ⟨h', _⟩ | ⟨g', cap', cur, h', hb, hg', _, _, hsz, htake⟩
  · rw [h'] at hg; cases hg
  · rw [h'] at hg; injection hg with hg; subst hg
    exact ⟨(Array.getElem?_eq_some_iff.1 hg').1, hb⟩
theorem OwnR.nums (h : OwnR w base v rs) (hv : ValL k w X rs f) (hY : ∀ b, b < w.heap.size → Y b → X b) (hg : ∀ g, v.ownBlock = some g → ¬ Y g) : Nums k w Y v rs.length f := by
  have hl := h.1
  rcases h.2 with ⟨rfl, hn⟩ | ⟨g', cap', cur, rfl, _, hg', h1, h2, hsz, htake⟩
  · rw [hn]; exact Nums.nil k w Y f
  · refine ⟨rs, _, _, rfl, rfl, h1, h2, fun _ => ⟨_, rfl, (Array.getElem?_eq_some_iff.1 hg').1, hg _ rfl, fun i r hr => ?_⟩, hv.weak hY⟩
    obtain ⟨c0, c1, c2, c3⟩ := flat_get rs i r hr
    have hi := (List.getElem?_eq_some_iff.1 hr).1
    have e : ∀ i, (⟨g', 0, none⟩ : Addr).add i = ⟨g', i, none⟩ := fun i => by simp [Addr.add]; intro h; omega
    have e2 : ∀ i j, (⟨g', i, none⟩ : Addr).add j = ⟨g', i + j, none⟩ := fun i j => by simp [Addr.add]
    rw [e, e2, e2, e2]
    have key : ∀ (j : Nat) (u : Value), (flat rs)[j]? = some u → w.cell? ⟨g', j, none⟩ = some u := fun j u hu => by
      rw [cell_of_row w g' j cur _ (0, 0) hg']
      rw [← htake, List.getElem?_take] at hu
      split at hu
      · simpa using hu
      · cases hu
    exact ⟨key _ _ c0, key _ _ c1, key _ _ c2, key _ _ c3⟩
theorem OwnR.below (h : OwnR w base v rs) (hb : Below w.heap.size w w') : OwnR w' base v rs := by
  refine ⟨h.1, ?_⟩
  rcases h.2 with ⟨h', hn⟩ | ⟨g', cap', cur, h', h3, hg', h1, h2, hsz, htake⟩
  · exact .inl ⟨h', hn⟩
  · exact .inr ⟨g', cap', cur, h', h3, by rw [hb.block g' (Array.getElem?_eq_some_iff.1 hg').1]; exact hg', h1, h2, hsz, htake⟩
theorem OwnR.keep (h : OwnR w base v rs) (hb : Keep X w w') (hX : ∀ g, v.ownBlock = some g → ¬ X g) : OwnR w' base v rs := by
  refine ⟨h.1, ?_⟩
  rcases h.2 with ⟨h', hn⟩ | ⟨g', cap', cur, h', h3, hg', h1, h2, hsz, htake⟩
  · exact .inl ⟨h', hn⟩
  · exact .inr ⟨g', cap', cur, h', h3, by rw [hb.block g' (Array.getElem?_eq_some_iff.1 hg').1 (hX g' (by rw [h']; rfl))]; exact hg', h1, h2, hsz, htake⟩
end

theorem zR4L (k : Nat) (w : World) (X : Nat → Prop) : RatL k w X zR4.v 0 :=
  ⟨false, [], false, [], ⟨none, 0, none, 0, rfl, ⟨_, rfl, Words.nil _ _⟩, ⟨_, rfl, Words.nil _ _⟩⟩, Nat.zero_le _, Nat.zero_le _, rfl⟩
/-- One fraction appended. -/
theorem wp_pushR {o : Oper} {a : Act} {K : Act → World → Prop} {Q : Exit → Act → World → Prop} (w : World) (s x : Operand) (ho : o.op = .call { callee := .builtin .append, args := #[s, x], argTypes := #[23, 23] })
    (base : Nat) (v : Value) (rs : List R4) (hs : a.eval s = v) (hown : OwnR w base v rs) (H : Nat) (r : R4) (hx : a.eval x = .slice (some ⟨H, 0, none⟩) 1 1) (hH : w.heap[H]? = some (.cells r.cs.toArray 44 (0, 0)))
    (hn : rs.length ≤ 1000) (hbase : base ≤ w.heap.size)
    (h : ∀ g cap w', OwnR w' base (.slice (some ⟨g, 0, none⟩) (rs.length + 1) cap) (rs ++ [r]) → w.grownBy w' v.ownBlock → (v.ownBlock = some g ∨ g = w.heap.size) → g < w'.heap.size → K (a.put o.dst (.slice (some ⟨g, 0, none⟩) (rs.length + 1) cap)) w') :
    Oper.wp Tryz.prog o a w K Q := by
  obtain ⟨i, hi, hz0, hz1, hz2⟩ := info_parts info_rat
  refine wp_append_lies w s x 23 ho base 44 i _ 4 64 Tryz.underlying23 hi hz0 hz1 hz2 rfl (by decide) v rs.length (flat rs) hs hown ⟨H, 0, none⟩ 1 1 r.cs hx rfl (fun j u hu => World.news_of_block hH j u (by simpa using hu)) (r4_one r) (by decide) (by unfold maxLen; omega) (by omega) hbase _ rfl ?_
  intro g cap w' h1 h2 h3 h4
  refine h g cap w' ?_ h2 h3 h4
  unfold OwnR
  rw [List.length_append, flat_app, flat_one]
  exact h1
theorem wpList_pushR {ops : Array Oper} {rest : List Oper} {o : Oper} {a : Act} {Q : Exit → Act → World → Prop} (w : World) (hgd : o.guard = none) (s x : Operand) (ho : o.op = .call { callee := .builtin .append, args := #[s, x], argTypes := #[23, 23] })
    (base : Nat) (v : Value) (rs : List R4) (hs : a.eval s = v) (hown : OwnR w base v rs) (H : Nat) (r : R4) (hx : a.eval x = .slice (some ⟨H, 0, none⟩) 1 1) (hH : w.heap[H]? = some (.cells r.cs.toArray 44 (0, 0)))
    (hn : rs.length ≤ 1000) (hbase : base ≤ w.heap.size)
    (h : ∀ g cap w', OwnR w' base (.slice (some ⟨g, 0, none⟩) (rs.length + 1) cap) (rs ++ [r]) → w.grownBy w' v.ownBlock → (v.ownBlock = some g ∨ g = w.heap.size) → g < w'.heap.size → wpList Tryz.prog ops Q rest (a.put o.dst (.slice (some ⟨g, 0, none⟩) (rs.length + 1) cap)) w') : wpList Tryz.prog ops Q (o :: rest) a w :=
  wpList_plain hgd fun _ hK => wp_pushR w s x ho base v rs hs hown H r hx hH hn hbase fun g cap w' h1 h2 h3 h4 => hK _ _ (h g cap w' h1 h2 h3 h4)
theorem step_pushR {ops : Array Oper} {o : Oper} {a : Act} {K : Act → World → Prop} {Q : Exit → Act → World → Prop} {E : Prop} (w : World) (hgd : o.guard = none) (s x : Operand) (ho : o.op = .call { callee := .builtin .append, args := #[s, x], argTypes := #[23, 23] })
    (base : Nat) (v : Value) (rs : List R4) (hs : a.eval s = v) (hown : OwnR w base v rs) (H : Nat) (r : R4) (hx : a.eval x = .slice (some ⟨H, 0, none⟩) 1 1) (hH : w.heap[H]? = some (.cells r.cs.toArray 44 (0, 0)))
    (hn : rs.length ≤ 1000) (hbase : base ≤ w.heap.size)
    (h : ∀ g cap w', OwnR w' base (.slice (some ⟨g, 0, none⟩) (rs.length + 1) cap) (rs ++ [r]) → w.grownBy w' v.ownBlock → (v.ownBlock = some g ∨ g = w.heap.size) → g < w'.heap.size → K (a.put o.dst (.slice (some ⟨g, 0, none⟩) (rs.length + 1) cap)) w') :
    if Region.wanted o (yielded ops a.tmps) = true then Oper.wp Tryz.prog o a w K Q else E := by
  have hw : Region.wanted o (yielded ops a.tmps) = true := by simp [Region.wanted, hgd]
  rw [if_pos hw]
  exact wp_pushR w s x ho base v rs hs hown H r hx hH hn hbase h

theorem flat_rep (r : R4) : ∀ n, flat (List.replicate n r) = (madeCells r.cs.toArray (n * 4)).toList
  | 0 => by simp [flat, madeCells]
  | n + 1 => by
    have ih := flat_rep r n
    apply List.ext_getElem?
    intro j
    have hl : (flat (List.replicate n r)).length = n * 4 := by rw [flat_len, List.length_replicate]
    rw [List.replicate_succ', flat_app, flat_one]
    by_cases hj : j < n * 4
    · rw [List.getElem?_append_left (by omega), ih]
      simp [madeCells, hj, show j < (n + 1) * 4 by omega]
    · rw [List.getElem?_append_right (by omega), hl]
      by_cases h4 : j < (n + 1) * 4
      · have e : j % 4 = j - n * 4 := by omega
        have hj' : j - n * 4 < 4 := by omega
        have e2 : r.cs.length = 4 := rfl
        simp [madeCells, h4, e2, e, hj']
      · have : r.cs.length = 4 := rfl
        rw [List.getElem?_eq_none (by omega), List.getElem?_eq_none (by simp [madeCells]; omega)]

/-- make([]api.Rat, n). -/
theorem wpList_makeR {ops : Array Oper} {rest : List Oper} {o : Oper} {a : Act} {Q : Exit → Act → World → Prop} (w : World) (hgd : o.guard = none) (l c : Operand) (ho : o.op = Op.makeSlice 23 l c) (base : Nat) {kl kc : IntKind} {L C : Int} (n : Nat)
    (hl : a.eval l = .int kl L) (hc : a.eval c = .int kc C) (hL : L = (n : Int)) (hC : C = (n : Int)) (hn : n ≤ 1000) (hbase : base ≤ w.heap.size)
    (h : ∀ w', Line w' w.heap.size (List.replicate n zR4) → w.grownBy w' none → wpList Tryz.prog ops Q rest (a.put o.dst (.slice (some ⟨w.heap.size, 0, none⟩) n n)) w') : wpList Tryz.prog ops Q (o :: rest) a w := by
  obtain ⟨i, hi, hz0, hz1, hz2⟩ := info_parts info_rat
  refine wpList_make_full w hgd l c 23 ho base 44 i _ 4 Tryz.underlying23 hi hz0 hz1 kl kc L C n hl hc hL hC (by rw [hz2]; omega) (by unfold maxLen; omega) hbase fun w' h1 h2 => h w' ?_ h2
  have e : (madeCells (Value.agg #[.bool false, .slice none 0 0, .bool false, .slice none 0 0]).cells (n * 4)).toList = flat (List.replicate n zR4) := (flat_rep zR4 n).symm
  rw [e] at h1
  have h2 : OwnR w' base (.slice (some ⟨w.heap.size, 0, none⟩) n n) (List.replicate n zR4) := by
    unfold OwnR
    rw [List.length_replicate]
    exact h1
  exact h2.line.1
end Go.Proofs.YtpeglenapmkdfaaGreat

/- The least index rule ends: no basis comes again. -/
namespace Go.Proofs.YtpeglenapmkdfaaGreat

/-- A tableau and its basis. -/
structure St where
  T : Nat → Nat → Rat
  b : Nat → Nat
/-- No basic value is below zero. -/
def Feas (m n : Nat) (S : St) : Prop := ∀ i, i < m → 0 ≤ S.T i (n + m)
/-- The row that leaves at the unknown j. -/
def Out (m n : Nat) (S : St) (j r : Nat) : Prop :=
  r < m ∧ 0 < S.T r j ∧ ∀ i, i < m → 0 < S.T i j → S.T r (n + m) / S.T r j ≤ S.T i (n + m) / S.T i j ∧ (S.T r (n + m) / S.T r j = S.T i (n + m) / S.T i j → S.b r ≤ S.b i)
/-- The unknown that enters. -/
def In (m n : Nat) (d : Nat → Rat) (S : St) (j : Nat) : Prop := j < n ∧ rho m d S.T S.b j < 0 ∧ ∀ c, c < j → 0 ≤ rho m d S.T S.b c
/-- One pivot. -/
def St.at (S : St) (r j : Nat) : St := ⟨piv S.T r j, bup S.b r j⟩
def Bl (m n : Nat) (d : Nat → Rat) (S S' : St) : Prop := ∃ j r, In m n d S j ∧ Out m n S j r ∧ S' = S.at r j
/-- At most k pivots follow. -/
def Lim (m n : Nat) (d : Nat → Rat) : Nat → St → Prop
  | 0, S => ∀ S', ¬ Bl m n d S S'
  | k + 1, S => ∀ S', Bl m n d S S' → Lim m n d k S'

section
variable {m n : Nat} {T0 : Nat → Nat → Rat} {d : Nat → Rat} {S S' : St}

theorem div_le_mul {a p x q : Rat} (hq : 0 < q) (h : a / p ≤ x / q) : q * (a / p) ≤ x := by
  have h1 : 0 ≤ q * (x / q - a / p) := Rat.mul_nonneg (Rat.le_of_lt hq) (by grind)
  have h2 : q * (x / q) = x := by grind
  grind
theorem div_nonneg {a p : Rat} (ha : 0 ≤ a) (hp : 0 < p) : 0 ≤ a / p := by
  rw [Rat.div_def]; exact Rat.mul_nonneg ha (Rat.le_of_lt (Rat.inv_pos.mpr hp))
theorem mul_neg_nonneg {a b : Rat} (ha : a ≤ 0) (hb : 0 ≤ b) : a * b ≤ 0 := by
  have := Rat.mul_nonneg (a := -a) (b := b) (by grind) hb
  grind
theorem pos_of_mul {a b : Rat} (ha : 0 ≤ a) (h : 0 < a * b) : 0 < b := by
  by_cases hb : 0 < b
  · exact hb
  · have := Rat.mul_nonneg (a := a) (b := -b) ha (by grind)
    exact absurd h (by grind)

theorem Feas.at (hF : Feas m n S) {j r : Nat} (h : Out m n S j r) : Feas m n (S.at r j) := fun i hi => by
  obtain ⟨hr, hp, ho⟩ := h
  show 0 ≤ piv S.T r j i (n + m)
  have hq := div_nonneg (hF r hr) hp
  unfold piv
  by_cases hir : i = r
  · rw [if_pos hir]; exact hq
  · rw [if_neg hir]
    by_cases hij : 0 < S.T i j
    · have := div_le_mul hij (ho i hi hij).1
      grind
    · have := mul_neg_nonneg (a := S.T i j) (by grind) hq
      have := hF i hi
      grind

theorem Good.at (G : Good m n T0 S.T S.b) {j r : Nat} (hj : j < n) (h : Out m n S j r) : Good m n T0 (S.at r j).T (S.at r j).b :=
  G.pvt h.1 (by omega) (by have := h.2.1; grind)

theorem around (P : Nat → Prop) (k : Nat) (hs : ∀ t, t < k → P t → P (t + 1)) (h0 : P k → P 0) {t1 t2 : Nat} (h1 : t1 ≤ k) (h2 : t2 ≤ k) (h : P t1) : P t2 := by
  have up : ∀ j t, t + j ≤ k → P t → P (t + j) := fun j => by
    induction j with
    | zero => intro t _ h; exact h
    | succ j ih => intro t hk h; exact hs (t + j) (by omega) (ih t (by omega) h)
  have hk : P k := by have := up (k - t1) t1 (by omega) h; rwa [show t1 + (k - t1) = k by omega] at this
  have := up t2 0 (by omega) (h0 hk)
  rwa [Nat.zero_add] at this

theorem most (f : Nat → Nat) : ∀ k, 0 < k → ∃ t, t < k ∧ ∀ u, u < k → f u ≤ f t
  | 0, h => by omega
  | 1, _ => ⟨0, by omega, fun u hu => by rw [show u = 0 by omega]; exact Nat.le_refl _⟩
  | k + 2, _ => by
    obtain ⟨t, ht, h⟩ := most f (k + 1) (by omega)
    by_cases hk : f (k + 1) ≤ f t
    · exact ⟨t, by omega, fun u hu => if e : u = k + 1 then by rw [e]; exact hk else h u (by omega)⟩
    · exact ⟨k + 1, by omega, fun u hu => if e : u = k + 1 then by rw [e]; exact Nat.le_refl _ else by have := h u (by omega); omega⟩

theorem climb (f : Nat → Rat) (k : Nat) (h : ∀ t, t < k → f t ≤ f (t + 1)) (he : f k = f 0) : ∀ t, t < k → f (t + 1) = f t := by
  have up : ∀ j t, t + j ≤ k → f t ≤ f (t + j) := fun j => by
    induction j with
    | zero => intro t _; exact Rat.le_refl
    | succ j ih => intro t hk; exact Rat.le_trans (ih t (by omega)) (h (t + j) (by omega))
  intro t ht
  have h1 := up t 0 (by omega)
  have h2 := h t ht
  have h3 := up (k - (t + 1)) (t + 1) (by omega)
  rw [show t + 1 + (k - (t + 1)) = k by omega] at h3
  rw [Nat.zero_add] at h1
  grind

theorem bland_cycle (k : Nat) (hk : 0 < k) (s : Nat → St) (hG0 : Good m n T0 (s 0).T (s 0).b) (hF0 : Feas m n (s 0)) (hs : ∀ t, t < k → Bl m n d (s t) (s (t + 1))) (hb : ∀ i, i < m → (s k).b i = (s 0).b i) : False := by
  have hx : ∀ t, ∃ j, ∃ r, t < k → In m n d (s t) j ∧ Out m n (s t) j r ∧ s (t + 1) = (s t).at r j := fun t => by
    by_cases ht : t < k
    · obtain ⟨j, r, h⟩ := hs t ht; exact ⟨j, r, fun _ => h⟩
    · exact ⟨0, 0, fun h => absurd h ht⟩
  obtain ⟨J, hJ⟩ := Classical.axiomOfChoice hx
  obtain ⟨R, hR⟩ := Classical.axiomOfChoice hJ
  have hGF : ∀ t, t ≤ k → Good m n T0 (s t).T (s t).b ∧ Feas m n (s t) := fun t => by
    induction t with
    | zero => exact fun _ => ⟨hG0, hF0⟩
    | succ t ih =>
      intro ht
      obtain ⟨g, f⟩ := ih (by omega)
      obtain ⟨h1, h2, h3⟩ := hR t (by omega)
      rw [h3]
      exact ⟨g.at h1.1 h2, f.at h2⟩
  have hTk : ∀ i, i < m → (s k).T i (n + m) = (s 0).T i (n + m) := fun i hi => (hGF k (Nat.le_refl _)).1.uniq hG0 hb hi (Nat.le_refl _)
  have hstep : ∀ t, t < k → rho m d (s (t + 1)).T (s (t + 1)).b (n + m) = rho m d (s t).T (s t).b (n + m) - rho m d (s t).T (s t).b (J t) * ((s t).T (R t) (n + m) / (s t).T (R t) (J t)) := fun t ht => by
    obtain ⟨h1, h2, h3⟩ := hR t ht
    rw [h3]
    exact rho_piv d h2.1 (by have := h2.2.1; grind) (n + m)
  have hq : ∀ t, t < k → 0 ≤ (s t).T (R t) (n + m) / (s t).T (R t) (J t) := fun t ht => by
    obtain ⟨h1, h2, h3⟩ := hR t ht
    exact div_nonneg ((hGF t (by omega)).2 _ h2.1) h2.2.1
  have hconst := climb (fun t => rho m d (s t).T (s t).b (n + m)) k (fun t ht => by
    have h1 := mul_neg_nonneg (Rat.le_of_lt (hR t ht).1.2.1) (hq t ht)
    have h2 := hstep t ht
    grind) (by
      unfold rho
      rw [sm_congr (fun i hi => by rw [hb i hi, hTk i hi])])
  have hZ : ∀ t, t < k → (s t).T (R t) (n + m) = 0 := fun t ht => by
    have h1 := hstep t ht
    have h2 := hconst t ht
    have h3 := (hR t ht).1.2.1
    have h4 := (hR t ht).2.1.2.1
    have h5 : rho m d (s t).T (s t).b (J t) * ((s t).T (R t) (n + m) / (s t).T (R t) (J t)) = 0 := by grind
    have h6 : (s t).T (R t) (n + m) / (s t).T (R t) (J t) = 0 := by
      rcases Rat.mul_eq_zero.1 h5 with h | h
      · exact absurd h3 (by grind)
      · exact h
    grind
  have hT1 : ∀ t, t < k → ∀ i, i < m → (s (t + 1)).T i (n + m) = (s t).T i (n + m) := fun t ht i hi => by
    have h1 := hZ t ht
    rw [(hR t ht).2.2]
    show piv _ _ _ _ _ = _
    unfold piv
    by_cases hir : i = R t
    · rw [if_pos hir, h1, hir, h1]; grind
    · rw [if_neg hir, h1]; grind
  have hB1 : ∀ t, t < k → ∀ i, (s (t + 1)).b i = if i = R t then J t else (s t).b i := fun t ht i => by rw [(hR t ht).2.2]; rfl
  -- the greatest unknown that enters
  obtain ⟨t1, ht1, hmax⟩ := most J k hk
  have hnb : ∀ i, i < m → (s t1).b i ≠ J t1 := fun i hi he => by
    have h1 := (hGF t1 (by omega)).1.rho_basic (d := d) hi
    rw [he] at h1
    have := (hR t1 ht1).1.2.1
    grind
  -- it leaves
  obtain ⟨t2, ht2, hlv⟩ : ∃ t, t < k ∧ (s t).b (R t) = J t1 := by
    refine Classical.byContradiction fun hno => ?_
    have := around (fun t => ∃ i, i < m ∧ (s t).b i = J t1) k (fun t ht ⟨i, hi, he⟩ => ⟨i, hi, by
      rw [hB1 t ht i]
      by_cases hir : i = R t
      · exact absurd ⟨t, ht, by rw [← hir]; exact he⟩ hno
      · rw [if_neg hir]; exact he⟩) (fun ⟨i, hi, he⟩ => ⟨i, hi, by rw [← hb i hi]; exact he⟩) (t1 := t1 + 1) (t2 := t1) (by omega) (by omega) ⟨R t1, (hR t1 ht1).2.1.1, by rw [hB1 t1 ht1, if_pos rfl]⟩
    obtain ⟨i, hi, he⟩ := this
    exact hnb i hi he
  have G1 := (hGF t1 (by omega)).1
  have G2 := (hGF t2 (by omega)).1
  obtain ⟨hin, hou, -⟩ := hR t2 ht2
  have hs1 : J t2 ≠ J t1 := fun he => by
    have h1 := G2.rho_basic (d := d) hou.1
    rw [hlv, ← he] at h1
    have := hin.2.1
    grind
  have hs2 : J t2 < J t1 := by have := hmax t2 ht2; omega
  have hc1 := (hR t1 ht1).1.2.2 (J t2) hs2
  have hrel := Good.rho2 (d := d) G1 G2 (c := J t2) (by have := hin.1; omega)
  obtain ⟨i, hi, hpos⟩ := sm_pos (m := m) (f := fun i => rho m d (s t1).T (s t1).b ((s t2).b i) * (s t2).T i (J t2)) (by have := hin.2.1; grind)
  have hnb2 : ∀ i', i' < m → (s t1).b i' ≠ (s t2).b i := fun i' hi' he => by
    have h1 := G1.rho_basic (d := d) hi'
    rw [he] at h1
    rw [h1] at hpos
    grind
  obtain ⟨t3, ht3, hen⟩ : ∃ t, t < k ∧ J t = (s t2).b i := by
    refine Classical.byContradiction fun hno => ?_
    have := around (fun t => ∀ i', i' < m → (s t).b i' ≠ (s t2).b i) k (fun t ht h i' hi' => by
      rw [hB1 t ht i']
      by_cases hir : i' = R t
      · rw [if_pos hir]; exact fun he => hno ⟨t, ht, he⟩
      · rw [if_neg hir]; exact h i' hi') (fun h i' hi' => by rw [← hb i' hi']; exact h i' hi') (t1 := t1) (t2 := t2) (by omega) (by omega) hnb2
    exact this i hi rfl
  have hle : (s t2).b i ≤ J t1 := by rw [← hen]; exact hmax t3 ht3
  have hne : (s t2).b i ≠ J t1 := fun he => by
    have hir := G2.inj hi hou.1 (he.trans hlv.symm)
    have h1 := (hR t1 ht1).1.2.1
    rw [he, hir] at hpos
    have h3 := mul_neg_nonneg (Rat.le_of_lt h1) (Rat.le_of_lt hou.2.1)
    grind
  have hc2 := (hR t1 ht1).1.2.2 ((s t2).b i) (by omega)
  have hTp := pos_of_mul hc2 hpos
  have hv0 := around (fun t => ∀ i', i' < m → (s t).b i' = (s t2).b i → (s t).T i' (n + m) = 0) k (fun t ht h i' hi' he => by
      rw [hB1 t ht i'] at he
      rw [hT1 t ht i' hi']
      by_cases hir : i' = R t
      · rw [hir]; exact hZ t ht
      · rw [if_neg hir] at he; exact h i' hi' he) (fun h i' hi' he => by rw [← hTk i' hi']; exact h i' hi' (by rw [hb i' hi']; exact he)) (t1 := t1) (t2 := t2) (by omega) (by omega) (fun i' hi' he => absurd he (hnb2 i' hi'))
  have hz2 := hv0 i hi rfl
  have := (hou.2.2 i hi hTp).2 (by rw [hz2, hZ t2 ht2]; grind)
  rw [hlv] at this
  omega

theorem pig : ∀ (N : Nat) (f : Nat → Nat), (∀ i, i ≤ N → f i < N) → ∃ i j, i < j ∧ j ≤ N ∧ f i = f j
  | 0, f, h => absurd (h 0 (by omega)) (by omega)
  | N + 1, f, h => by
    by_cases hv : ∃ i, i ≤ N ∧ f i = f (N + 1)
    · obtain ⟨i, hi, he⟩ := hv; exact ⟨i, N + 1, by omega, by omega, he⟩
    · have hv' : ∀ i, i ≤ N → f i ≠ f (N + 1) := fun i hi he => hv ⟨i, hi, he⟩
      obtain ⟨i, j, hij, hj, he⟩ := pig N (fun i => if f i = N then f (N + 1) else f i) (fun i hi => by
        have h1 := hv' i hi
        have h2 := h i (by omega)
        have h3 := h (N + 1) (by omega)
        split <;> omega)
      refine ⟨i, j, hij, by omega, ?_⟩
      have h1 := hv' i (by omega)
      have h2 := hv' j (by omega)
      split at he <;> split at he <;> omega

/-- A basis as a number. -/
def enc (B : Nat) (b : Nat → Nat) : Nat → Nat
  | 0 => 0
  | m + 1 => enc B b m * B + b m
theorem enc_lt (B : Nat) (b : Nat → Nat) : ∀ m, (∀ i, i < m → b i < B) → enc B b m < B ^ m
  | 0, _ => by simp [enc]
  | m + 1, h => by
    unfold enc
    have h1 := enc_lt B b m (fun i hi => h i (by omega))
    have h2 := h m (by omega)
    have h3 : (enc B b m + 1) * B ≤ B ^ m * B := Nat.mul_le_mul_right B h1
    rw [Nat.pow_succ]
    rw [Nat.add_mul] at h3
    omega
theorem enc_inj (B : Nat) (b b' : Nat → Nat) : ∀ m, (∀ i, i < m → b i < B) → (∀ i, i < m → b' i < B) → enc B b m = enc B b' m → ∀ i, i < m → b i = b' i
  | 0, _, _, _, i, hi => by omega
  | m + 1, h, h', he, i, hi => by
    unfold enc at he
    have h2 := h m (by omega)
    have h3 := h' m (by omega)
    have e1 : b m = b' m := by
      have := congrArg (· % B) he
      rwa [Nat.mul_comm, Nat.mul_add_mod, Nat.mul_comm, Nat.mul_add_mod, Nat.mod_eq_of_lt h2, Nat.mod_eq_of_lt h3] at this
    have e2 : enc B b m = enc B b' m := by
      rw [e1] at he
      exact Nat.eq_of_mul_eq_mul_right (show 0 < B by omega) (by omega)
    by_cases hm : i = m
    · rw [hm]; exact e1
    · exact enc_inj B b b' m (fun i hi => h i (by omega)) (fun i hi => h' i (by omega)) e2 i (by omega)

theorem chain_of : ∀ (N : Nat) (S : St), ¬ Lim m n d N S → ∃ s : Nat → St, s 0 = S ∧ ∀ t, t ≤ N → Bl m n d (s t) (s (t + 1))
  | 0, S, h => by
    unfold Lim at h
    obtain ⟨S', hS⟩ := Classical.not_forall.1 h
    refine ⟨fun t => if t = 0 then S else S', rfl, fun t ht => ?_⟩
    obtain rfl : t = 0 := by omega
    exact Classical.not_not.1 hS
  | N + 1, S, h => by
    unfold Lim at h
    obtain ⟨S', hS⟩ := Classical.not_forall.1 h
    obtain ⟨hb, hl⟩ := Classical.not_imp.1 hS
    obtain ⟨s, h0, hs⟩ := chain_of N S' hl
    refine ⟨fun t => match t with | 0 => S | t + 1 => s t, rfl, fun t ht => ?_⟩
    match t with
    | 0 => show Bl m n d S (s 0); rw [h0]; exact hb
    | t + 1 => exact hs t (by omega)

/-- The rule ends. -/
theorem bland (G : Good m n T0 S.T S.b) (hF : Feas m n S) : Lim m n d ((n + m) ^ m) S := by
  refine Classical.byContradiction fun h => ?_
  obtain ⟨s, h0, hs⟩ := chain_of _ S h
  have hGF : ∀ t, t ≤ (n + m) ^ m → Good m n T0 (s t).T (s t).b ∧ Feas m n (s t) := fun t => by
    induction t with
    | zero => intro _; rw [h0]; exact ⟨G, hF⟩
    | succ t ih =>
      intro ht
      obtain ⟨g, f⟩ := ih (by omega)
      obtain ⟨j, r, h1, h2, h3⟩ := hs t (by omega)
      rw [h3]
      exact ⟨g.at h1.1 h2, f.at h2⟩
  obtain ⟨i, j, hij, hj, he⟩ := pig ((n + m) ^ m) (fun t => enc (n + m) (s t).b m) (fun t ht => enc_lt _ _ m (hGF t ht).1.lt)
  have hb := enc_inj (n + m) _ _ m (hGF i (by omega)).1.lt (hGF j hj).1.lt he
  refine bland_cycle (m := m) (n := n) (T0 := T0) (d := d) (j - i) (by omega) (fun t => s (i + t)) (hGF i (by omega)).1 (hGF i (by omega)).2 (fun t ht => hs (i + t) (by omega)) (fun a ha => ?_)
  rw [show i + (j - i) = j by omega]
  exact (hb a ha).symm
end
end Go.Proofs.YtpeglenapmkdfaaGreat

