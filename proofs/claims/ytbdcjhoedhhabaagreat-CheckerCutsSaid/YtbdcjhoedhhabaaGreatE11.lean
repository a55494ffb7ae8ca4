/- Contracts of the functions that the statements reach, part 11. -/
import Derived.Test.YtbdcjhoedhhabaaGreatE10
set_option linter.unusedSimpArgs false
set_option linter.unusedVariables false

/- The executor's drawn regions: any order that the region allows comes to the same. -/
namespace Go.Proofs.YtbdcjhoedhhabaaGreat
set_option linter.unusedSectionVars false
open Go.RowKit

/-! ### What a set of done operations has made of the memory and the registers -/

noncomputable def gD (R : Nat → Rec) (m0 : Mem) (D : Nat → Bool) : Nat → Nat → Option Blk
 | 0, b => m0.blks.get b
 | k + 1, b => if D k = true ∧ (R k).touch b = true then (R k).post.blks.get b else gD R m0 D k b

noncomputable def rD (dst : Nat → Option Nat) (R : Nat → Rec) (r0 : Regs) (D : Nat → Bool) : Nat → Nat → AV
 | 0, t => r0.at t
 | k + 1, t => if D k = true ∧ dst k = some t then (R k).v else rD dst R r0 D k t

def SD (R : Nat → Rec) (m0 : Mem) (D : Nat → Bool) (n b : Nat) : Prop := b < m0.next ∨ ∃ i, i < n ∧ D i = true ∧ (R i).on = true ∧ (R i).pre.next ≤ b ∧ b < (R i).post.next

def dset (D : Nat → Bool) (j : Nat) : Nat → Bool := fun i => if i = j then true else D i

theorem dset_at (D : Nat → Bool) (j : Nat) : dset D j j = true := if_pos rfl
theorem dset_ne (D : Nat → Bool) {i j : Nat} (h : i ≠ j) : dset D j i = D i := if_neg h

section
variable {R : Nat → Rec} {m0 : Mem} {r0 : Regs} {dst : Nat → Option Nat} {D : Nat → Bool}

/-- Done up to j and nothing behind it, as far as block b goes. -/
theorem gD_upto {j b : Nat} {E : Nat → Bool} : ∀ {k : Nat}, j ≤ k → (∀ i, i < k → (R i).touch b = true → (D i = true ↔ i < j)) → (∀ i, i < j → E i = true) → gD R m0 D k b = gD R m0 E j b
 | 0, hj, h, hE => by have : j = 0 := by omega
                      subst this; rfl
 | k + 1, hj, h, hE => by
   rw [gD]
   by_cases hk : j = k + 1
   ·subst hk
    rw [gD]
    have ih : gD R m0 D k b = gD R m0 E k b := gD_upto (j := k) (Nat.le_refl _) (fun i hi ht => by rw [h i (by omega) ht]; omega) (fun i hi => hE i (by omega))
    rw [ih]
    by_cases ht : (R k).touch b = true
    ·have h1 := (h k (by omega) ht).2 (by omega)
     rw [h1, hE k (by omega)]
    ·rw [if_neg (fun x => ht x.2), if_neg (fun x => ht x.2)]
   ·rw [if_neg]
    ·exact gD_upto (by omega) (fun i hi => h i (by omega)) hE
    ·rintro ⟨h1, h2⟩
     have := (h k (by omega) h2).1 h1
     omega

theorem rD_upto {j t : Nat} {E : Nat → Bool} : ∀ {k : Nat}, j ≤ k → (∀ i, i < k → dst i = some t → (D i = true ↔ i < j)) → (∀ i, i < j → E i = true) → rD dst R r0 D k t = rD dst R r0 E j t
 | 0, hj, h, hE => by have : j = 0 := by omega
                      subst this; rfl
 | k + 1, hj, h, hE => by
   rw [rD]
   by_cases hk : j = k + 1
   ·subst hk
    rw [rD]
    have ih : rD dst R r0 D k t = rD dst R r0 E k t := rD_upto (j := k) (Nat.le_refl _) (fun i hi ht => by rw [h i (by omega) ht]; omega) (fun i hi => hE i (by omega))
    rw [ih]
    by_cases ht : dst k = some t
    ·have h1 := (h k (by omega) ht).2 (by omega)
     rw [h1, hE k (by omega)]
    ·rw [if_neg (fun x => ht x.2), if_neg (fun x => ht x.2)]
   ·rw [if_neg]
    ·exact rD_upto (by omega) (fun i hi => h i (by omega)) hE
    ·rintro ⟨h1, h2⟩
     have := (h k (by omega) h2).1 h1
     omega

theorem gD_add {j b : Nat} (hD : D j = false) : ∀ {k : Nat}, (j < k → (∀ i, j < i → i < k → D i = true → (R i).touch b = true → (R j).touch b = true → False) → gD R m0 (dset D j) k b = if (R j).touch b = true then (R j).post.blks.get b else gD R m0 D k b) ∧ (k ≤ j → gD R m0 (dset D j) k b = gD R m0 D k b)
 | 0 => ⟨fun h => by omega, fun _ => rfl⟩
 | k + 1 => by
   obtain ⟨ih1, ih2⟩ := gD_add hD (k := k) (b := b)
   refine ⟨fun hj h => ?_, fun hk => ?_⟩
   ·rw [gD, gD]
    by_cases hjk : k = j
    ·subst hjk
     rw [dset_at, hD, ih2 (Nat.le_refl _)]
     simp
    ·rw [dset_ne _ hjk, ih1 (by omega) (fun i h1 h2 => h i h1 (by omega))]
     by_cases hd : D k = true ∧ (R k).touch b = true
     ·rw [if_pos hd, if_pos hd]
      rw [if_neg (fun ht => h k (by omega) (by omega) hd.1 hd.2 ht)]
     ·rw [if_neg hd, if_neg hd]
   ·rw [gD, gD, dset_ne _ (by omega), ih2 (by omega)]

theorem rD_add {j t : Nat} (hD : D j = false) : ∀ {k : Nat}, (j < k → (∀ i, j < i → i < k → D i = true → dst i = some t → dst j = some t → False) → rD dst R r0 (dset D j) k t = if dst j = some t then (R j).v else rD dst R r0 D k t) ∧ (k ≤ j → rD dst R r0 (dset D j) k t = rD dst R r0 D k t)
 | 0 => ⟨fun h => by omega, fun _ => rfl⟩
 | k + 1 => by
   obtain ⟨ih1, ih2⟩ := rD_add hD (k := k) (t := t)
   refine ⟨fun hj h => ?_, fun hk => ?_⟩
   ·rw [rD, rD]
    by_cases hjk : k = j
    ·subst hjk
     rw [dset_at, hD, ih2 (Nat.le_refl _)]
     simp
    ·rw [dset_ne _ hjk, ih1 (by omega) (fun i h1 h2 => h i h1 (by omega))]
     by_cases hd : D k = true ∧ dst k = some t
     ·rw [if_pos hd, if_pos hd]
      rw [if_neg (fun ht => h k (by omega) (by omega) hd.1 hd.2 ht)]
     ·rw [if_neg hd, if_neg hd]
   ·rw [rD, rD, dset_ne _ (by omega), ih2 (by omega)]

end

/-! ### For what an operation waits -/

theorem anc_bit {acc : List Nat} {i : Nat} : ∀ {es : List Edge}, Nat.testBit (ancE acc es) i = true ↔ ∃ e ∈ es, Region.binds .any e = true ∧ (e.on = i ∨ Nat.testBit (acc.getD e.on 0) i = true)
 | [] => by simp [ancE]
 | e :: es => by
   rw [ancE]
   cases hb : Region.binds .any e with
   | true =>
     rw [cond_true, Nat.testBit_or, Nat.testBit_or, Nat.testBit_two_pow]
     simp only [Bool.or_eq_true, decide_eq_true_eq, List.mem_cons, anc_bit (es := es)]
     constructor
     ·rintro ((h | h) | ⟨f, h1, h2⟩)
      ·exact ⟨e, .inl rfl, hb, .inl h⟩
      ·exact ⟨e, .inl rfl, hb, .inr h⟩
      ·exact ⟨f, .inr h1, h2⟩
     ·rintro ⟨f, rfl | h1, h2, h3⟩
      ·exact .inl h3
      ·exact .inr ⟨f, h1, h2, h3⟩
   | false =>
     rw [cond_false, anc_bit (es := es)]
     simp only [List.mem_cons]
     constructor
     ·rintro ⟨f, h1, h2⟩; exact ⟨f, .inr h1, h2⟩
     ·rintro ⟨f, rfl | h1, h2, h3⟩
      ·rw [hb] at h2; cases h2
      ·exact ⟨f, h1, h2, h3⟩

theorem ancL_spec : ∀ (l : List Oper) (acc : List Nat), (ancL l acc).length = acc.length + l.length ∧ (∀ i, i < acc.length → (ancL l acc).getD i 0 = acc.getD i 0) ∧
 ∀ j o, l[j]? = some o → (ancL l acc).getD (acc.length + j) 0 = ancE ((ancL l acc).take (acc.length + j)) o.after.toList
 | [], acc => ⟨rfl, fun _ _ => rfl, fun j o h => by simp at h⟩
 | p :: l, acc => by
   obtain ⟨h1, h2, h3⟩ := ancL_spec l (acc ++ [ancE acc p.after.toList])
   rw [ancL]
   simp only [List.length_append, List.length_cons, List.length_nil, Nat.zero_add] at h1 h2 h3
   refine ⟨by rw [h1, List.length_cons]; omega, fun i hi => ?_, fun j o h => ?_⟩
   ·rw [h2 i (by omega), List.getD_eq_getElem?_getD, List.getD_eq_getElem?_getD, List.getElem?_append_left hi]
   ·cases j with
    | zero =>
      simp only [List.getElem?_cons_zero, Option.some.injEq] at h
      subst h
      rw [Nat.add_zero, h2 _ (by omega), List.getD_eq_getElem?_getD, List.getElem?_append_right (Nat.le_refl _), Nat.sub_self]
      simp only [List.getElem?_cons_zero, Option.getD_some]
      congr 1
      apply List.ext_getElem?
      intro i
      rw [List.getElem?_take]
      by_cases hi : i < acc.length
      ·rw [if_pos hi]
       have := h2 i (by omega)
       rw [List.getD_eq_getElem?_getD, List.getD_eq_getElem?_getD, List.getElem?_append_left hi, List.getElem?_eq_getElem hi, List.getElem?_eq_getElem (by rw [h1]; omega)] at this
       rw [List.getElem?_eq_getElem hi, List.getElem?_eq_getElem (by rw [h1]; omega)]
       simpa using this.symm
      ·rw [if_neg hi, List.getElem?_eq_none (by omega)]
    | succ j =>
      have := h3 j o h
      rw [show acc.length + 1 + j = acc.length + (j + 1) by omega] at this
      exact this

theorem regA_spec {ops : Array Oper} : ∀ (l : List Oper) (j : Nat) (la : List Nat) (done : List Oper), regA ops l j la done = true → done.length = j →
 ∀ i o, l[i]? = some o → (∀ e ∈ o.after, Region.binds .any e = true → e.on < j + i) ∧ ∀ k p, k < j + i → (done ++ l)[k]? = some p → Nat.testBit (la.getD i 0) k = true ∨ Oper.apart ops p o = true
 | [], j, la, done, h, hd, i, o, hi => by simp at hi
 | q :: l, j, [], done, h, hd, i, o, hi => by cases h
 | q :: l, j, a :: la, done, h, hd, i, o, hi => by
   rw [regA] at h
   simp only [Bool.and_eq_true, List.all_eq_true, Bool.or_eq_true, Bool.not_eq_true'] at h
   obtain ⟨⟨h1, h2⟩, h3⟩ := h
   cases i with
   | zero =>
     simp only [List.getElem?_cons_zero, Option.some.injEq] at hi
     subst hi
     refine ⟨fun e he hb => ?_, fun k p hk hp => ?_⟩
     ·rcases h1 e (by simpa using he) with h | h
      ·rw [hb] at h; cases h
      ·have : e.on < j := Nat.le_of_ble_eq_true h
       omega
     ·have hp : done[k]? = some p := by rw [List.getElem?_append_left (by omega)] at hp; exact hp
      have key : ∀ (d : List Oper) (s : Nat), pairsA ops a q s d = true → ∀ x p, d[x]? = some p → Nat.testBit a (s + x) = true ∨ Oper.apart ops p q = true := by
       intro d
       induction d with
       | nil => intro s _ x p hx; simp at hx
       | cons y d ih =>
         intro s hs x p hx
         rw [pairsA] at hs
         simp only [Bool.and_eq_true, Bool.or_eq_true] at hs
         cases x with
         | zero =>
           simp only [List.getElem?_cons_zero, Option.some.injEq] at hx
           subst hx
           exact hs.1
         | succ x =>
           have := ih (s + 1) hs.2 x p hx
           rw [show s + (x + 1) = s + 1 + x by omega]
           exact this
      have := key done 0 h2 k p hp
      rw [Nat.zero_add] at this
      exact this
   | succ i =>
     obtain ⟨g1, g2⟩ := regA_spec l (j + 1) la (done ++ [q]) h3 (by simp [hd]) i o hi
     refine ⟨fun e he hb => ?_, fun k p hk hp => ?_⟩
     ·have := g1 e he hb; omega
     ·have := g2 k p (by omega) (by rw [List.append_assoc]; exact hp)
      exact this

end Go.Proofs.YtbdcjhoedhhabaaGreat

