/- Contracts of the functions that the statements reach, part 10. -/
import Derived.Test.YtdambnieminnfaaGreatRows
import Derived.Deep.RegionHeld3
import Derived.Deep.DrawnRows
import Derived.Laws.OwnMore
import Derived.Lib.Strings
import Derived.Lib.Slices
import Derived.Laws.Strings3
import Derived.Deep.LoopGhost
import Derived.Laws.IdiomStrings
import Derived.Test.YtdambnieminnfaaGreatZ2
import Derived.Test.YtdambnieminnfaaGreatZ3
import Derived.Test.YtdambnieminnfaaGreatZ4
import Derived.Test.YtdambnieminnfaaGreatZ7
import Derived.Test.YtdambnieminnfaaGreatZ8
import Derived.Test.YtdambnieminnfaaGreatZ9
set_option linter.unusedSimpArgs false
set_option linter.unusedVariables false

/- Compare of package integer and of the reference. -/
namespace Go.Proofs.YtdambnieminnfaaGreat
open Go.RowKit
attribute [local go_sem ↓] Go.wp_at_zero Go.wp_at_succ
attribute [local go_sem] beq_self_eq_true

theorem sign_cases (a : Int) : (a < 0 ∧ a.sign = -1) ∨ (a = 0 ∧ a.sign = 0) ∨ (0 < a ∧ a.sign = 1) := by
 rcases Int.lt_trichotomy a 0 with h | h | h
 ·exact Or.inl ⟨h, Int.sign_eq_neg_one_of_neg h⟩
 ·exact Or.inr (Or.inl ⟨h, by rw [h]; rfl⟩)
 ·exact Or.inr (Or.inr ⟨h, Int.sign_eq_one_of_pos h⟩)
theorem sv_cases (n : Bool) (xs : List Nat) : (sv n xs = (val xs : Nat)) ∨ (sv n xs = -((val xs : Nat) : Int)) := by
 cases n
 ·exact Or.inl (sv_false xs)
 ·exact Or.inr (sv_true xs)
theorem cmp_lt {a b : Int} (h : a.sign < b.sign) : (a - b).sign = -1 := by
 rcases sign_cases a with ⟨h1, e1⟩ | ⟨h1, e1⟩ | ⟨h1, e1⟩ <;> rcases sign_cases b with ⟨h2, e2⟩ | ⟨h2, e2⟩ | ⟨h2, e2⟩ <;> rw [e1, e2] at h <;>
  rcases sign_cases (a - b) with ⟨h3, e3⟩ | ⟨h3, e3⟩ | ⟨h3, e3⟩ <;> omega
theorem cmp_gt {a b : Int} (h : b.sign < a.sign) : (a - b).sign = 1 := by
 rcases sign_cases a with ⟨h1, e1⟩ | ⟨h1, e1⟩ | ⟨h1, e1⟩ <;> rcases sign_cases b with ⟨h2, e2⟩ | ⟨h2, e2⟩ | ⟨h2, e2⟩ <;> rw [e1, e2] at h <;>
  rcases sign_cases (a - b) with ⟨h3, e3⟩ | ⟨h3, e3⟩ | ⟨h3, e3⟩ <;> omega
theorem cmp_eq {n1 n2 : Bool} {xs ys : List Nat} (h : (sv n1 xs).sign = (sv n2 ys).sign) : (sv n1 xs).sign * cmpN (val xs) (val ys) = (sv n1 xs - sv n2 ys).sign := by
 have hc : (val xs < val ys ∧ cmpN (val xs) (val ys) = -1) ∨ (val xs = val ys ∧ cmpN (val xs) (val ys) = 0) ∨ (val ys < val xs ∧ cmpN (val xs) (val ys) = 1) := by
  rcases Nat.lt_trichotomy (val xs) (val ys) with h | h | h
  ·exact Or.inl ⟨h, cmpN_lt h⟩
  ·exact Or.inr (Or.inl ⟨h, cmpN_eq h⟩)
  ·exact Or.inr (Or.inr ⟨h, cmpN_gt h⟩)
 have a1 := sv_cases n1 xs
 have a2 := sv_cases n2 ys
 generalize sv n1 xs = a at *
 generalize sv n2 ys = b at *
 rcases sign_cases a with ⟨h1, e1⟩ | ⟨h1, e1⟩ | ⟨h1, e1⟩ <;> rcases sign_cases b with ⟨h2, e2⟩ | ⟨h2, e2⟩ | ⟨h2, e2⟩ <;> rw [e1] at h ⊢ <;> rw [e2] at h <;>
  rcases sign_cases (a - b) with ⟨h3, e3⟩ | ⟨h3, e3⟩ | ⟨h3, e3⟩ <;> rw [e3] <;> rcases hc with ⟨h4, e4⟩ | ⟨h4, e4⟩ | ⟨h4, e4⟩ <;> rw [e4] <;> omega

theorem add_len (a b : Int) (k : Nat) (ha : (dig a.natAbs).length ≤ k) (hb : (dig b.natAbs).length ≤ k) : (dig (a + b).natAbs).length ≤ k + 1 := by
 have h1 := val_lt (can_dig a.natAbs).1
 have h2 := val_lt (can_dig b.natAbs).1
 rw [val_dig] at h1 h2
 have h3 : 4294967296 ^ (dig a.natAbs).length ≤ 4294967296 ^ k := Nat.pow_le_pow_right (by omega) ha
 have h4 : 4294967296 ^ (dig b.natAbs).length ≤ 4294967296 ^ k := Nat.pow_le_pow_right (by omega) hb
 refine dig_len_le ?_
 rw [Nat.pow_succ]
 omega
theorem sub_len (a b : Int) (k : Nat) (ha : (dig a.natAbs).length ≤ k) (hb : (dig b.natAbs).length ≤ k) : (dig (a - b).natAbs).length ≤ k + 1 := by
 rw [Int.sub_eq_add_neg]
 exact add_len a (-b) k ha (by rw [Int.natAbs_neg]; exact hb)
theorem sv_len (n : Bool) (xs : List Nat) (h : Ws xs) : (dig (sv n xs).natAbs).length ≤ xs.length := by rw [sv_abs]; exact dig_len_le (val_lt h)

set_option maxHeartbeats 2000000 in
theorem icompare_any (w : World) (X : Nat → Prop) (v1 v2 : Value) (n1 n2 : Bool) (xs ys : List Nat) (h1 : IntR w X v1 n1 xs) (h2 : IntR w X v2 n2 ys) :
 Calls Tryz.prog 94 #[v1, v2] w fun e w' => e = .returned (.int .i64 (sv n1 xs - sv n2 ys).sign) ∧ Below w.heap.size w w' := by
 obtain ⟨A, c, rfl, _, _, H1⟩ := h1.open_
 obtain ⟨B, d, rfl, _, _, H2⟩ := h2.open_
 have HC1 := Lib.hid (can_trimL H1.2)
 have HC2 := Lib.hid (can_trimL H2.2)
 have c1 := cmp_lt (a := sv n1 xs) (b := sv n2 ys)
 have c2 := cmp_gt (a := sv n1 xs) (b := sv n2 ys)
 have c3 := cmp_eq (n1 := n1) (n2 := n2) (xs := xs) (ys := ys)
 have hsa := sign_cases (sv n1 xs)
 have hsb := sign_cases (sv n2 ys)
 have hv : cmpN (val (trimL xs)) (val (trimL ys)) = cmpN (val xs) (val ys) := by rw [val_trimL, val_trimL]
 have HV := Lib.hid hv
 have hbr : -1 ≤ (sv n1 xs - sv n2 ys).sign ∧ (sv n1 xs - sv n2 ys).sign ≤ 1 := by
  rcases sign_cases (sv n1 xs - sv n2 ys) with ⟨_, e⟩ | ⟨_, e⟩ | ⟨_, e⟩ <;> rw [e] <;> omega
 generalize hr : (sv n1 xs - sv n2 ys).sign = r at *
 generalize hs1 : (sv n1 xs).sign = s1 at *
 generalize hs2 : (sv n2 ys).sign = s2 at *
 generalize cmpN (val xs) (val ys) = cm at *
 have hb1 : -1 ≤ s1 ∧ s1 ≤ 1 := by omega
 have hb2 : -1 ≤ s2 ∧ s2 ≤ 1 := by omega
 have G1 := Lib.hid hs1
 have G2 := Lib.hid hs2
 have C1 := Lib.hid c1
 have C2 := Lib.hid c2
 have C3 := Lib.hid c3
 clear hr hs1 hs2 hsa hsb c1 c2 c3 hv
 go_enter Tryz.func94, Tryz.ntmps94
 go_wp2_with fail
 have K1 := (H1.weak (Y := fun _ => False) (fun _ _ h => h.elim)).below (below2 w (.cells #[.bool n1, .slice A xs.length c] 58) (.cells #[.bool n2, .slice B ys.length d] 58))
 have K2 := (H2.weak (Y := fun _ => False) (fun _ _ h => h.elim)).below (below2 w (.cells #[.bool n1, .slice A xs.length c] 58) (.cells #[.bool n2, .slice B ys.length d] 58))
 obtain ⟨La, Lb, hB0, hsz0⟩ := locs2 (c1 := #[.bool n1, .slice A xs.length c]) (c2 := #[.bool n2, .slice B ys.length d]) (t1 := 58) (t2 := 58) (Below.refl _ ((w.alloc _).alloc _))
 generalize ((w.alloc (.cells #[.bool n1, .slice A xs.length c] 58)).alloc (.cells #[.bool n2, .slice B ys.length d] 58)) = w0 at *
 clear H1 H2 h1 h2
 have KS : Hid (∀ W, Below w0.heap.size w0 W → ((W.cell? ⟨w.heap.size, 0, none⟩ = some (.bool n1) ∧ W.cell? ⟨w.heap.size, 1, none⟩ = some (.slice A xs.length c)) ∧ W.cell? ⟨w.heap.size + 1, 0, none⟩ = some (.bool n2) ∧ W.cell? ⟨w.heap.size + 1, 1, none⟩ = some (.slice B ys.length d))) := fun W hW => cells_of ⟨La.below hW, Lb.below hW⟩
 go_region_held3 (fun W => ((W.cell? ⟨w.heap.size, 0, none⟩ = some (.bool n1) ∧ W.cell? ⟨w.heap.size, 1, none⟩ = some (.slice A xs.length c)) ∧ W.cell? ⟨w.heap.size + 1, 0, none⟩ = some (.bool n2) ∧ W.cell? ⟨w.heap.size + 1, 1, none⟩ = some (.slice B ys.length d)))
  (first | exact KS.out _ k2 | exact KS.out _ k1 | exact KS.out _ (Below.refl _ _).drew)
  (first
   | (go_at_call_of 135 (Value.agg #[Value.bool n1, Value.slice A xs.length c]); refine (sign_any _ (fun _ => False) _ n1 xs ⟨_, rfl, K1.below (Below.refl _ _).drew⟩).mono ?_; rintro e wa ⟨he, hka⟩; rw [G1.out] at he; subst he; have k1 := below_undrew hka)
   | (go_at_call_of 135 (Value.agg #[Value.bool n2, Value.slice B ys.length d]); refine (sign_any _ (fun _ => False) _ n2 ys ⟨_, rfl, K2.below k1⟩).mono ?_; rintro e wb ⟨he, hkb⟩; rw [G2.out] at he; subst he; have k2 := k1.trans (hkb.mono k1.size)))
 all_goals
  have hBn := hB0.trans (k2.mono (by omega))
  have Ka := K1.below k2
  have Kb := K2.below k2
  have La2 := La.below k2
  have Lb2 := Lb.below k2
  clear K1 K2 La Lb KS k1 hka hkb
  by_cases hlt : s1 < s2
  ·have HR := Lib.hid (C1.out hlt)
   go_wp2_with fail
   go_ret
   exact ⟨ret_eq (int_eq HR.out.symm), hBn⟩
  ·by_cases hgt : s2 < s1
   ·have HR := Lib.hid (C2.out hgt)
    go_wp2_with fail
    go_ret
    exact ⟨ret_eq (int_eq HR.out.symm), hBn⟩
   ·obtain rfl : s1 = s2 := by omega
    have HR := Lib.hid (C3.out rfl)
    have KS : Hid (∀ W, Below wb.heap.size wb W → ((W.cell? ⟨w.heap.size, 0, none⟩ = some (.bool n1) ∧ W.cell? ⟨w.heap.size, 1, none⟩ = some (.slice A xs.length c)) ∧ W.cell? ⟨w.heap.size + 1, 0, none⟩ = some (.bool n2) ∧ W.cell? ⟨w.heap.size + 1, 1, none⟩ = some (.slice B ys.length d))) := fun W hW => cells_of ⟨La2.below hW, Lb2.below hW⟩
    go_wp2_with fail
    go_region_held3 (fun W => ((W.cell? ⟨w.heap.size, 0, none⟩ = some (.bool n1) ∧ W.cell? ⟨w.heap.size, 1, none⟩ = some (.slice A xs.length c)) ∧ W.cell? ⟨w.heap.size + 1, 0, none⟩ = some (.bool n2) ∧ W.cell? ⟨w.heap.size + 1, 1, none⟩ = some (.slice B ys.length d)))
     (first | exact KS.out _ (Below.refl _ _).drew | exact KS.out _ (below_drewN (Below.refl _ _) _))
     (first
      | (go_at_call_of 129 (Value.slice A xs.length c); refine (trim_any _ (fun _ => False) (.slice A xs.length c) xs (Ka.below (Below.refl _ _).drew)).mono ?_; rintro e w' ⟨va, rfl, ha, rfl⟩)
      | (go_at_call_of 129 (Value.slice B ys.length d); refine (trim_any _ (fun _ => False) (.slice B ys.length d) ys (Kb.below (Below.refl _ _).drew)).mono ?_; rintro e w' ⟨vb, rfl, hb, rfl⟩)
      | (go_at_call 132; refine (compare_any _ (fun _ => False) va vb _ _ ha hb HC1.out HC2.out).mono ?_; rintro e w' ⟨he, n, rfl⟩; rw [HV.out] at he; subst he))
    all_goals
     try go_wp2_with fail
     go_ret
     refine ⟨ret_eq (int_eq ?_), hBn.trans ((below_drewN (Below.refl _ _) _).mono hBn.size)⟩
     rw [HR.out, IntKind.wrap_i64]
     omega
end Go.Proofs.YtdambnieminnfaaGreat

/- append(own row, words...): one law for a source that is nil or not; in a list of operations, and as one step of a region that draws. -/
namespace Go.Proofs.YtdambnieminnfaaGreat
open Go.RowKit

theorem run_append_none {P : Program} {w : World} (base : Nat) (t ty e : TypeId) (i : TypeInfo) (size c : Nat) (ht : P.underlying t = some (.slice e)) (hi : P.info? e = some i)
 (v : Value) (n : Nat) (xs : List Value) (hown : w.ownsRow base e size v n xs) :
 (Builtin.append_ #[t, t] ty #[v, .slice none 0 c]).run P w = .ok v w := by
 rcases hown.2 with ⟨rfl, rfl⟩ | ⟨g, cap, cur, rfl, _, _, hnc, _⟩
 ·simp [Builtin.append_, run_underlying ht, sizeOf, typeInfo, hi, Builtin.lenOf, Builtin.firstCells]
 ·simp [Builtin.append_, run_underlying ht, sizeOf, typeInfo, hi, Builtin.lenOf, Builtin.firstCells, hnc, storeCells]

section
variable {P : Program} {ops : Array Oper} {rest : List Oper} {o : Oper} {a : Act} {K : Act → World → Prop} {Q : Exit → Act → World → Prop} {E : Prop} {t e : TypeId} {X : Nat → Prop}

theorem wp_words (w : World) (s x : Operand) (ho : o.op = .call { callee := .builtin .append, args := #[s, x], argTypes := #[t, t] })
 (ht : P.underlying t = some (.slice e)) (hE : (P.info? e).map (fun i => (i.zero, i.size, i.bytes)) = some (some (.int .u32 0), 1, 4))
 (base : Nat) (v : Value) (n : Nat) (xs : List Value) (hs : a.eval s = v) (hown : w.ownsRow base e 1 v n xs)
 (ys : List Nat) (vx : Value) (hx : a.eval x = vx) (W : Words w X vx ys)
 (hn : n + ys.length ≤ 35184372088832) (hm : n + ys.length ≤ maxLen) (hbase : base ≤ w.heap.size)
 (h : ∀ v' w', w'.ownsRow base e 1 v' (n + ys.length) (xs ++ nums .u32 ys) → w.grownBy w' v.ownBlock → (v'.ownBlock = v.ownBlock ∨ ∀ b, v'.ownBlock = some b → base ≤ b) → K (a.put o.dst v') w') : o.wp P a w K Q := by
 obtain ⟨i, hi, hz0, hz1, hz2⟩ := info_parts hE
 obtain ⟨A, c, rfl, _, _, H⟩ := W.open_
 rcases A with _ | ad
 ·have h0 : ys = [] := by
   rcases ys with _ | ⟨y, ys⟩
   ·rfl
   ·obtain ⟨_, e1, _⟩ := H.at_ (k := 0) (by simp)
    cases e1
  subst h0
  have hr := run_append_none (P := P) (w := w) base t o.type e i 1 c ht hi v n xs hown
  unfold Oper.wp execOp
  simp only [List.length_nil] at hx h
  simp only [ho, resolve, invoke, builtin, Sem.run_bind, Sem.run_pure, Result.andThen_ok, List.map_toArray, List.map_cons, List.map_nil, hs, hx, hr]
  exact h v w (by simpa [nums] using hown) ⟨rfl, rfl, rfl, Nat.le_refl _, fun _ _ _ => rfl⟩ (Or.inl rfl)
 ·refine wp_append_own w s x t ho base e i (.int .u32 0) 1 4 ht hi hz0 hz1 hz2 rfl (by omega) v n xs hs hown ad ys.length c (nums .u32 ys) hx (by simp) (fun j u hu => H.news j u hu) (nums_one _ _) hm (by omega) hbase ?_
  intro v' w' h1 h2 _
  refine h v' w' h1 h2 ?_
  right
  intro b hb
  exact (h1.lt b hb).1

/-- The same, as a step of a region that draws. -/
theorem step_words (w : World) (hgd : o.guard = none) (s x : Operand) (ho : o.op = .call { callee := .builtin .append, args := #[s, x], argTypes := #[t, t] })
 (ht : P.underlying t = some (.slice e)) (hE : (P.info? e).map (fun i => (i.zero, i.size, i.bytes)) = some (some (.int .u32 0), 1, 4))
 (base : Nat) (v : Value) (n : Nat) (xs : List Value) (hs : a.eval s = v) (hown : w.ownsRow base e 1 v n xs)
 (ys : List Nat) (vx : Value) (hx : a.eval x = vx) (W : Words w X vx ys)
 (hn : n + ys.length ≤ 35184372088832) (hm : n + ys.length ≤ maxLen) (hbase : base ≤ w.heap.size)
 (h : ∀ v' w', w'.ownsRow base e 1 v' (n + ys.length) (xs ++ nums .u32 ys) → w.grownBy w' v.ownBlock → (v'.ownBlock = v.ownBlock ∨ ∀ b, v'.ownBlock = some b → base ≤ b) → K (a.put o.dst v') w') :
 if Region.wanted o (yielded ops a.tmps) = true then Oper.wp P o a w K Q else E := by
 have hw : Region.wanted o (yielded ops a.tmps) = true := by simp [Region.wanted, hgd]
 rw [if_pos hw]
 exact wp_words w s x ho ht hE base v n xs hs hown ys vx hx W hn hm hbase h

/-- The same, in a list of operations. -/
theorem wpList_words (w : World) (hgd : o.guard = none) (s x : Operand) (ho : o.op = .call { callee := .builtin .append, args := #[s, x], argTypes := #[t, t] })
 (ht : P.underlying t = some (.slice e)) (hE : (P.info? e).map (fun i => (i.zero, i.size, i.bytes)) = some (some (.int .u32 0), 1, 4))
 (base : Nat) (v : Value) (n : Nat) (xs : List Value) (hs : a.eval s = v) (hown : w.ownsRow base e 1 v n xs)
 (ys : List Nat) (vx : Value) (hx : a.eval x = vx) (W : Words w X vx ys)
 (hn : n + ys.length ≤ 35184372088832) (hm : n + ys.length ≤ maxLen) (hbase : base ≤ w.heap.size)
 (h : ∀ v' w', w'.ownsRow base e 1 v' (n + ys.length) (xs ++ nums .u32 ys) → w.grownBy w' v.ownBlock → (v'.ownBlock = v.ownBlock ∨ ∀ b, v'.ownBlock = some b → base ≤ b) → wpList P ops Q rest (a.put o.dst v') w') :
 wpList P ops Q (o :: rest) a w :=
 wpList_plain hgd fun _ hK => wp_words w s x ho ht hE base v n xs hs hown ys vx hx W hn hm hbase fun v' w' h1 h2 h3 => hK _ _ (h v' w' h1 h2 h3)
end
end Go.Proofs.YtdambnieminnfaaGreat

/- mulWords of the reference. -/
namespace Go.Proofs.YtdambnieminnfaaGreat
open Go.RowKit
attribute [local go_sem ↓] Go.wp_at_zero Go.wp_at_succ

theorem below_via {a W w' : World} (hb : Below W.heap.size W w') (h : Below a.heap.size a W) : Below a.heap.size a w' := h.trans (hb.mono h.size)
theorem len_mul {xs ys : List Nat} (hx : Ws xs) (hy : Ws ys) : (dig (val xs * val ys)).length ≤ xs.length + ys.length := by
 refine dig_len_le ?_
 rw [Nat.pow_add]
 have h1 := val_lt hx
 have h2 := val_lt hy
 exact Nat.mul_lt_mul'' h1 h2
theorem len_mul1 {xs : List Nat} (hx : Ws xs) {d : Nat} (hd : d < 4294967296) : (dig (val xs * d)).length ≤ xs.length + 1 := by
 refine dig_len_le ?_
 rw [Nat.pow_succ]
 exact Nat.mul_lt_mul'' (val_lt hx) hd
theorem ws_dig (n : Nat) : Ws (dig n) := (can_dig n).1

set_option maxRecDepth 20000 in
set_option maxHeartbeats 1000000 in
theorem mulWords_any (w : World) (X : Nat → Prop) (va vb : Value) (xs ys : List Nat) (ha : Words w X va xs) (hb : Words w X vb ys) (hs : xs.length + ys.length ≤ 100000000000) :
 Calls Tryz.prog 114 #[va, vb] w fun e w' => ∃ v', e = .returned v' ∧ Words w' (Old w) v' (dig (val xs * val ys)) ∧ Below w.heap.size w w' := by
 obtain ⟨A, c, rfl, hc, _, HA⟩ := ha.open_
 obtain ⟨B, d, rfl, hd, _, HB⟩ := hb.open_
 have hm := HB.lt_max
 go_enter Tryz.func114, Tryz.ntmps114
 go_wp2_with fail
 go_loopw [5, 6] (fun o i wr => ∃ (k : Nat), k ≤ ys.length ∧ i = .int .i64 ((k : Int) - 1) ∧ Words wr (Old w) o (dig (val xs * val (ys.drop k))) ∧ Below w.heap.size w wr) (fun _ i _ => (intOf i + 1).toNat)
 case atStart => exact ⟨ys.length, by omega, rfl, by rw [List.drop_length]; show Words _ _ _ (dig (val xs * 0)); rw [Nat.mul_zero, dig_zero]; exact Words.lit [] (Loc.new _ _ _) (by simp) (by simp [Old]) (by unfold maxLen; simp), below1 _ _⟩
 case round =>
  obtain ⟨k, hk, hi, hw, hbr⟩ := hrel
  by_cases hk0 : k = 0
  ·subst hk0
   obtain rfl := hi
   rw [List.drop_zero] at hw
   go_wp2_with fail
   go_ret
   exact ⟨_, rfl, hw, hbr⟩
  ·obtain ⟨j, rfl⟩ : ∃ j, k = j + 1 := ⟨k - 1, by omega⟩
   obtain rfl := hi.trans (show Value.int .i64 (((j + 1 : Nat) : Int) - 1) = .int .i64 (j : Int) by congr 1; omega)
   clear hi
   have HBr := HB.below hbr
   have HAr := HA.below hbr
   obtain ⟨a, rfl, _, _, hcb⟩ := HBr.at_ (k := j) (by omega)
   have hlt := HB.lt (i := j) (by omega)
   have KS : Hid (∀ W, Below wr.heap.size wr W → W.cell? (a.add j) = some (.int .u32 (ys[j] : Nat))) := fun W hW => by
    obtain ⟨a', e, _, _, hc⟩ := (HBr.below hW).at_ (k := j) (by omega)
    injection e with e
    subst e
    exact hc
   have hsum : val xs * val (ys.drop j) = val (0 :: dig (val xs * val (ys.drop (j + 1)))) + val (dig (val xs * ys[j])) := by
    rw [List.drop_eq_getElem_cons (by omega : j < ys.length), val_dig]
    show val xs * (ys[j] + 4294967296 * val (ys.drop (j + 1))) = 0 + 4294967296 * val (dig _) + _
    rw [val_dig, Nat.mul_add, ← Nat.mul_assoc, Nat.mul_comm (val xs) 4294967296, Nat.mul_assoc]
    omega
   have hl1 := len_mul HA.2 (ys := ys.drop (j + 1)) (fun x hx => HB.2 x (List.mem_of_mem_drop hx))
   have hl2 := len_mul1 HA.2 hlt
   rw [List.length_drop] at hl1
   have HSUM := Lib.hid hsum
   have HL1 := Lib.hid hl1
   have HL2 := Lib.hid hl2
   have b1 : (0 : Int) ≤ (j : Int) := by omega
   have b2 : (j : Int) < (ys.length : Int) := by omega
   have HWD := Lib.hid (ws_dig (val xs * val (ys.drop (j + 1))))
   clear hsum hl1 hl2
   generalize dig (val xs * val (ys.drop (j + 1))) = qs at *
   generalize hx : ys[j] = x at *
   generalize hps : dig (val xs * x) = ps at *
   have HPS := Lib.hid hps
   clear hps hx
   have hql := HL1.out
   have hpl := HL2.out
   go_wp2_with fail
   have hwx := hw.weak (Y := fun _ => False) (fun _ _ h => h.elim)
   have hw64 : IntKind.u64.wrap ((x : Nat) : Int) = ((x : Nat) : Int) := by rw [IntKind.wrap_u64]; omega
   have ho0 : Hid ((wr.alloc (.cells #[.int .u32 0] 129)).drew.ownsRow wr.heap.size 129 1 (.slice (some ⟨wr.heap.size, 0, none⟩) 1 1) 1 [.int .u32 0]) := World.ownsRow_lit (e := 129) (size := 1) wr #[.int .u32 0] 1 (Nat.le_refl _) (by unfold maxLen; omega) rfl
   have hz0 : Hid (∀ {v1 : Value} {w1 w2 : World}, w1.ownsRow wr.heap.size 129 1 v1 (1 + qs.length) ([.int .u32 0] ++ nums .u32 qs) → Below w1.heap.size w1 w2 → Words w2 (fun _ => False) v1 (0 :: qs)) := fun ho hb => (Words.of_own (xs := 0 :: qs) (by rw [List.length_cons, Nat.add_comm]; exact ho) (by intro x hx; rcases List.mem_cons.1 hx with e | e; (subst e; omega); exact HWD.out x e) (fun _ _ _ _ h => h)).below hb
   go_region_held3 (fun W => W.cell? (a.add j) = some (.int .u32 (x : Nat)))
    (first | exact KS.out _ (by repeat' (first | exact a1 | exact t2 | exact t3 | exact Below.refl _ _ | refine Below.drew ?_ | refine Below.alloc ?_ (by first | exact Nat.le_refl _ | exact t2.size) _)))
    (first
     | (go_at_call 145; refine (timesWord_any _ (fun _ => False) _ xs x ((HAr.weak (Y := fun _ => False) (fun _ _ h => h.elim)).below (by repeat' (first | exact a1 | exact t2 | exact t3 | exact Below.refl _ _ | refine Below.drew ?_ | refine Below.alloc ?_ (by first | exact Nat.le_refl _ | exact t2.size) _))) (by omega) (by omega)).mono ?_; rintro e w2 ⟨v2, rfl, h2, hb2⟩; rw [HPS.out] at h2; have hw1 := hz0.out hown1 hb2; have t2 : Below wr.heap.size wr w2 := below_via hb2 (by repeat' (first | exact a1 | exact t2 | exact t3 | exact Below.refl _ _ | refine Below.drew ?_ | refine Below.alloc ?_ (by first | exact Nat.le_refl _ | exact t2.size) _)))
     | (go_at_call 111; refine (addWords_any _ (fun _ => False) _ _ (0 :: qs) ps hw1 (h2.weak (fun _ _ h => h.elim)) (by simp only [List.length_cons]; omega)).mono ?_; rintro e w3 ⟨v3, rfl, h3, hb3⟩; rw [← HSUM.out] at h3; have t3 := t2.trans (hb3.mono t2.size))
     | (refine step_words _ rfl _ _ rfl Tryz.underlying56 info_u32 wr.heap.size _ 1 [.int .u32 0] rfl ho0.out qs _ rfl (hwx.below (below1 wr _).drew) (by omega) (by unfold maxLen; omega) (by simp) ?_; intro v1 w1 hown1 hg1 hob1; have a1 : Below wr.heap.size wr w1 := below_own (below1 wr (.cells #[.int .u32 0] 129)).drew ho0.out hg1 (Nat.le_refl _) (by simp)))
   all_goals
    clear KS ho0 hz0
    go_wp2_with fail
    go_roundw
    case rel => exact ⟨j, by omega, by go_num, h3.weak (fun b _ hb => by simp only [Old] at hb ⊢; have := hbr.size; have := t2.size; omega), hbr.trans (t3.mono hbr.size)⟩
    case measure => simp only [intOf]; omega

/- Mul of the reference. -/

set_option maxHeartbeats 1000000 in
theorem rmul_any (w : World) (X : Nat → Prop) (v1 v2 : Value) (n1 n2 : Bool) (xs ys : List Nat) (h1 : IntR w X v1 n1 xs) (h2 : IntR w X v2 n2 ys) (hs1 : xs.length ≤ 40000000000) (hs2 : ys.length ≤ 40000000000) :
 Calls Tryz.prog 69 #[v1, v2] w fun e w' => ∃ v', e = .returned v' ∧ IntV w' (Old w) v' (sv n1 xs * sv n2 ys) ∧ Below w.heap.size w w' := by
 obtain ⟨A, c, rfl, _, _, H1⟩ := h1.open_
 obtain ⟨B, d, rfl, _, _, H2⟩ := h2.open_
 have l1 := trimL_len xs
 have l2 := trimL_len ys
 have hlm := len_mul (can_trimL H1.2).1 (can_trimL H2.2).1
 have HLM := Lib.hid hlm
 clear hlm
 go_enter Tryz.func69, Tryz.ntmps69
 go_wp2_with fail
 have KS := boxes3 w #[.bool n1, .slice A xs.length c] #[.bool n2, .slice B ys.length d] #[.bool false, .slice none 0 0] 58 58 58
 have K1 := (H1.weak (Y := fun _ => False) (fun _ _ h => h.elim)).below (below3 w (.cells #[.bool n1, .slice A xs.length c] 58) (.cells #[.bool n2, .slice B ys.length d] 58) (.cells #[.bool false, .slice none 0 0] 58))
 have K2 := (H2.weak (Y := fun _ => False) (fun _ _ h => h.elim)).below (below3 w (.cells #[.bool n1, .slice A xs.length c] 58) (.cells #[.bool n2, .slice B ys.length d] 58) (.cells #[.bool false, .slice none 0 0] 58))
 obtain ⟨-, -, Lr, hB0, hsz0⟩ := locs3 (c1 := #[.bool n1, .slice A xs.length c]) (c2 := #[.bool n2, .slice B ys.length d]) (c3 := #[.bool false, .slice none 0 0]) (t1 := 58) (t2 := 58) (t3 := 58) (Below.refl _ (((w.alloc _).alloc _).alloc _))
 generalize (((w.alloc (.cells #[.bool n1, .slice A xs.length c] 58)).alloc (.cells #[.bool n2, .slice B ys.length d] 58)).alloc (.cells #[.bool false, .slice none 0 0] 58)) = w1 at *
 clear H1 H2 h1 h2
 go_region_held3 (fun w' => (w'.cell? ⟨w.heap.size, 0, none⟩ = some (.bool n1) ∧ w'.cell? ⟨w.heap.size, 1, none⟩ = some (.slice A xs.length c)) ∧ w'.cell? ⟨w.heap.size + 1, 0, none⟩ = some (.bool n2) ∧ w'.cell? ⟨w.heap.size + 1, 1, none⟩ = some (.slice B ys.length d))
  (first | exact cells_of (KS.out _ (((k4.mono (by omega)).setCell (by simp) _).setCell (by simp) _)) | exact cells_of (KS.out _ (k4.mono (by omega))) | exact cells_of (KS.out _ (k3.mono (by omega))) | exact cells_of (KS.out _ (k2.mono (by omega))) | exact cells_of (KS.out _ (k1.mono (by omega))) | exact cells_of (KS.out _ (Below.refl _ _).drew) | go_keep)
  (first
   | (go_at_call_of 109 (Value.slice A xs.length c); refine (rtrim_any _ (fun _ => False) (.slice A xs.length c) xs (K1.below (Below.refl _ _).drew) (by omega)).mono ?_; rintro e wa ⟨va, rfl, ha, hka⟩; have k1 := below_undrew hka)
   | (go_at_call_of 109 (Value.slice B ys.length d); refine (rtrim_any _ (fun _ => False) (.slice B ys.length d) ys (K2.below k1) (by omega)).mono ?_; rintro e wb ⟨vb, rfl, hb, hkb⟩; have k2 := k1.trans (hkb.mono k1.size); have ha2 := ha.below hkb)
   | (go_at_call 114; refine (mulWords_any _ (fun _ => False) va vb _ _ (ha2.weak (fun _ _ h => h.elim)) (hb.weak (fun _ _ h => h.elim)) (by omega)).mono ?_; rintro e wc ⟨vm, rfl, hm, hkc⟩; have k3 := k2.trans (hkc.mono k2.size))
   | (go_at_call 110; refine (made_any _ (fun _ => False) _ vm _ (hm.weak (fun _ _ h => h.elim)) (by have := HLM.out; omega)).mono ?_; rintro e w3 ⟨vs, rfl, hs, hb3⟩; have k4 := k3.trans (hb3.mono k3.size); have hk3 := k3.size; rw [sv_mul n1 n2 (trimL xs) (trimL ys) _ (val_dig _), sv_trim, sv_trim] at hs; obtain ⟨bs, As, ns, cs, rfl, hs⟩ := hs.op; have Lr2 := Lr.below k4; have cc := Lr2.cell; have cf := Lr2.frz))
 all_goals
  clear KS Lr
  go_wp2_with fail
  refine bodyPost_ret (by simp [results, Tryz.results69, go_sem, cc, cf] <;> rfl) rfl ⟨_, rfl, IntV.stored (g := w.heap.size + 1 + 1) (Y := Old w) hs (by simp only [Old]; omega) _ _ (by intro b _ hb; simp only [Old] at hb ⊢; omega), below_set2 (hB0.trans (k4.mono (by omega))) (by omega) _ _⟩
end Go.Proofs.YtdambnieminnfaaGreat

/- Parse: the sign cut off. -/
namespace Go.Proofs.YtdambnieminnfaaGreat
open Go.RowKit

end Go.Proofs.YtdambnieminnfaaGreat

/- Decimal texts. Plain arithmetic. -/
namespace Go.Proofs.YtdambnieminnfaaGreat

/-- The number of little-endian decimal digits. -/
def dval : List Nat → Nat
 | [] => 0
 | d :: ds => d + 10 * dval ds
def Ds (ds : List Nat) : Prop := ∀ d ∈ ds, d < 10

@[simp] theorem dval_nil : dval [] = 0 := rfl
@[simp] theorem dval_cons (d : Nat) (ds : List Nat) : dval (d :: ds) = d + 10 * dval ds := rfl
theorem Ds.cons {x : Nat} {xs : List Nat} : Ds (x :: xs) ↔ x < 10 ∧ Ds xs := by simp [Ds]
theorem Ds.append {xs ys : List Nat} : Ds (xs ++ ys) ↔ Ds xs ∧ Ds ys := by
 simp only [Ds, List.mem_append]
 exact ⟨fun h => ⟨fun x hx => h x (.inl hx), fun x hx => h x (.inr hx)⟩, fun h x hx => hx.elim (h.1 x) (h.2 x)⟩
theorem Ds.take {xs : List Nat} (h : Ds xs) (n : Nat) : Ds (xs.take n) := fun x hx => h x (List.mem_of_mem_take hx)
/-- The characters of digits. -/
def chars (ds : List Nat) : List Nat := ds.map (48 + ·)
@[simp] theorem chars_length (ds : List Nat) : (chars ds).length = ds.length := by simp [chars]
/-- Bytes out of numbers. -/
def bytesOf (xs : List Nat) : List UInt8 := xs.map UInt8.ofNat
@[simp] theorem bytesOf_length (xs : List Nat) : (bytesOf xs).length = xs.length := by simp [bytesOf]
end Go.Proofs.YtdambnieminnfaaGreat

/- Parse: what it answers; the plain law. -/
namespace Go.Proofs.YtdambnieminnfaaGreat
open Go.RowKit

def good (c : UInt8) : Prop := 48 ≤ c.toNat ∧ c.toNat ≤ 57
instance (c : UInt8) : Decidable (good c) := inferInstanceAs (Decidable (_ ∧ _))
/-- No number's canonical digits. -/
def synt (neg : Bool) (ds : List UInt8) : Prop := ds = [] ∨ (ds.head? = some 48 ∧ (1 < ds.length ∨ neg = true))
instance (neg : Bool) (ds : List UInt8) : Decidable (synt neg ds) := inferInstanceAs (Decidable (_ ∨ _))
/-! The text of what was parsed. -/

/- Parse of package integer. -/

theorem IntV.zero (w : World) (X : Nat → Prop) : IntV w X (.agg #[.bool false, .slice none 0 0]) 0 := by
 refine ⟨_, rfl, ?_⟩
 have : dig (0 : Int).natAbs = [] := dig_zero
 rw [this]
 exact Words.nil _ _

theorem Words.one {w : World} {t : TypeId} {X : Nat → Prop} (d : Nat) (h : d < 4294967296) (z : Int) (e : z = (d : Nat)) (hX : ∀ b, X b → b < w.heap.size) :
 Words (w.alloc (.cells #[.int .u32 z] t)) X (.slice (some ⟨w.heap.size, 0, none⟩) 1 1) [d] := by
 subst e
 exact Words.lit (t := t) [d] (Loc.new _ _ _) (by simpa using h) (fun h => by have := hX _ h; omega) (by unfold maxLen; simp)
end Go.Proofs.YtdambnieminnfaaGreat

/- Of and Small of package integer and of the reference; same of the law. -/
namespace Go.Proofs.YtdambnieminnfaaGreat
open Go.RowKit
attribute [local go_sem ↓] Go.wp_at_zero Go.wp_at_succ

/-- The two words of an int. -/
theorem words2_val (m : Nat) (h : m < 18446744073709551616) : val [m % 4294967296, m / 4294967296] = m := by
 simp; omega

theorem Words.two {w : World} {o : Obj} {t : TypeId} {X : Nat → Prop} (m : Nat) (h : m < 18446744073709551616) (z1 z2 : Int) (e1 : z1 = ((m % 4294967296 : Nat) : Int)) (e2 : z2 = ((m / 4294967296 : Nat) : Int)) (hX : ∀ b, X b → b < w.heap.size) :
 Words ((w.alloc o).alloc (.cells #[.int .u32 z1, .int .u32 z2] t)) X (.slice (some ⟨w.heap.size + 1, 0, none⟩) 2 2) [m % 4294967296, m / 4294967296] := by
 subst e1 e2
 refine Words.lit (t := t) [m % 4294967296, m / 4294967296] ?_ (by simp; omega) (fun h => by have := hX _ h; omega) (by unfold maxLen; simp)
 have := Loc.new (w.alloc o) #[.int .u32 ((m % 4294967296 : Nat) : Int), .int .u32 ((m / 4294967296 : Nat) : Int)] t
 simpa [nums] using this

set_option maxHeartbeats 400000 in
theorem of_any (w : World) (n : Int) (h0 : -9223372036854775808 ≤ n) (h1 : n ≤ 9223372036854775807) :
 Calls Tryz.prog 128 #[.int .i64 n] w fun e w' => ∃ v', e = .returned v' ∧ IntV w' (Old w) v' n ∧ Below w.heap.size w w' := by
 obtain ⟨m, hm⟩ : ∃ m, m = n.natAbs := ⟨_, rfl⟩
 have hs : sv (decide (n < 0)) [m % 4294967296, m / 4294967296] = n := by unfold sv; rw [words2_val m (by omega)]; split <;> simp_all <;> omega
 have HT : Hid (n < 0 → sv true [m % 4294967296, m / 4294967296] = n) := fun h => by rw [← hs]; simp [h]
 have HF : Hid (¬ n < 0 → sv false [m % 4294967296, m / 4294967296] = n) := fun h => by rw [← hs]; simp [h]
 have HM := Lib.hid hm
 clear hs hm
 by_cases hn : n < 0
 all_goals
  go_enter Tryz.func128, Tryz.ntmps128
  go_wp2_with fail
  refine (signed_any _ (Old w) _ _ [m % 4294967296, m / 4294967296] (Words.two m (by have := HM.out; omega) _ _ (by have := HM.out; (try simp only [IntKind.wrap_u64]); omega) (by have := HM.out; (try simp only [IntKind.wrap_u64]); omega) (by simp [Old])) (by simp)).mono ?_
  rintro e w2 ⟨v2, rfl, h2, hb2⟩
  first | rw [HT.out (by omega)] at h2 | rw [HF.out (by omega)] at h2
  obtain ⟨b2, A2, n2, c2, rfl, h2⟩ := h2.op
  obtain ⟨Lr, _, hB, hsz2⟩ := locs2 hb2
  have cc := Lr.cell
  have cf := Lr.frz
  go_wp2_with fail
  refine bodyPost_ret (by simp [results, Tryz.results128, go_sem, cc, cf] <;> rfl) rfl ⟨_, rfl, ?_, below_set2 hB (by omega) _ _⟩
  exact IntV.stored (g := w.heap.size) h2 (by simp only [Old, World.size_alloc]; omega) _ _ (by intro b _ hb; simp only [Old, World.size_alloc] at hb ⊢; omega)

/- Of of the reference; Small of both. -/

set_option maxHeartbeats 400000 in
theorem rof_any (w : World) (n : Int) (h0 : -9223372036854775808 ≤ n) (h1 : n ≤ 9223372036854775807) :
 Calls Tryz.prog 148 #[.int .i64 n] w fun e w' => ∃ v', e = .returned v' ∧ IntV w' (Old w) v' n ∧ Below w.heap.size w w' := by
 obtain ⟨m, hm⟩ : ∃ m, m = n.natAbs := ⟨_, rfl⟩
 have hs : sv (decide (n < 0)) [m % 4294967296, m / 4294967296] = n := by unfold sv; rw [words2_val m (by omega)]; split <;> simp_all <;> omega
 have HT : Hid (n < 0 → sv true [m % 4294967296, m / 4294967296] = n) := fun h => by rw [← hs]; simp [h]
 have HF : Hid (¬ n < 0 → sv false [m % 4294967296, m / 4294967296] = n) := fun h => by rw [← hs]; simp [h]
 have HM := Lib.hid hm
 clear hs hm
 by_cases hn : n < 0
 all_goals
  go_enter Tryz.func148, Tryz.ntmps148
  go_wp2_with fail
  refine (made_any _ (Old w) _ _ [m % 4294967296, m / 4294967296] (Words.two m (by have := HM.out; omega) _ _ (by have := HM.out; (try simp only [IntKind.wrap_u64, IntKind.wrap_i64]); omega) (by have := HM.out; (try simp only [IntKind.wrap_u64, IntKind.wrap_i64]); omega) (by simp [Old])) (by simp)).mono ?_
  rintro e w2 ⟨v2, rfl, h2, hb2⟩
  first | rw [HT.out (by omega)] at h2 | rw [HF.out (by omega)] at h2
  obtain ⟨b2, A2, n2, c2, rfl, h2⟩ := h2.op
  obtain ⟨Lr, _, hB, hsz2⟩ := locs2 hb2
  have cc := Lr.cell
  have cf := Lr.frz
  go_wp2_with fail
  refine bodyPost_ret (by simp [results, Tryz.results148, go_sem, cc, cf] <;> rfl) rfl ⟨_, rfl, ?_, below_set2 hB (by omega) _ _⟩
  exact IntV.stored (g := w.heap.size) h2 (by simp only [Old, World.size_alloc]; omega) _ _ (by intro b _ hb; simp only [Old, World.size_alloc] at hb ⊢; omega)

end Go.Proofs.YtdambnieminnfaaGreat

