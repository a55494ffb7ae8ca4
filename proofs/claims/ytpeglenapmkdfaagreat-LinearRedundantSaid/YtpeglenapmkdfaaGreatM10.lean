/- Contracts of the functions that the statements reach, part 10. -/
import Derived.Test.YtpeglenapmkdfaaGreatRows
import Derived.Laws.OwnMore
import Derived.Deep.RegionHeld3
import Derived.Deep.DrawnRows
import Derived.Lib.Strings
import Derived.Lib.Slices
import Derived.Laws.Strings3
import Derived.Test.YtpeglenapmkdfaaGreatM1
import Derived.Test.YtpeglenapmkdfaaGreatM2
import Derived.Test.YtpeglenapmkdfaaGreatM8
import Derived.Test.YtpeglenapmkdfaaGreatM9
set_option linter.unusedSimpArgs false
set_option linter.unusedVariables false

/- append(own row, words...): one law for a source that is nil or not; in a list of operations, and as one step of a region that draws. -/
namespace Go.Proofs.YtpeglenapmkdfaaGreat
open Go.RowKit

theorem run_append_none {P : Program} {w : World} (base : Nat) (t ty e : TypeId) (i : TypeInfo) (size c : Nat) (ht : P.underlying t = some (.slice e)) (hi : P.info? e = some i)
    (v : Value) (n : Nat) (xs : List Value) (hown : w.ownsRow base e size v n xs) :
    (Builtin.append_ #[t, t] ty #[v, .slice none 0 c]).run P w = .ok v w := by
  rcases hown.2 with ⟨rfl, rfl⟩ | ⟨g, cap, cur, rfl, _, _, hnc, _⟩
  · simp [Builtin.append_, run_underlying ht, sizeOf, typeInfo, hi, Builtin.lenOf, Builtin.firstCells]
  · simp [Builtin.append_, run_underlying ht, sizeOf, typeInfo, hi, Builtin.lenOf, Builtin.firstCells, hnc, storeCells]

section
variable {P : Program} {ops : Array Oper} {rest : List Oper} {o : Oper} {a : Act} {K : Act → World → Prop} {Q : Exit → Act → World → Prop} {E : Prop} {t e : TypeId} {X : Nat → Prop}

theorem wp_words (w : World) (s x : Operand) (ho : o.op = .call { callee := .builtin .append, args := #[s, x], argTypes := #[t, t] })
    (ht : P.underlying t = some (.slice e)) (hE : (P.info? e).map (fun i => (i.zero, i.size, i.bytes)) = some (some (.int .u32 0), 1, 4))
    (base : Nat) (v : Value) (n : Nat) (xs : List Value) (hs : a.eval s = v) (hown : w.ownsRow base e 1 v n xs)
    (ys : List Nat) (vx : Value) (hx : a.eval x = vx) (W : Words w X vx ys)
    (hn : n + ys.length ≤ 35184372088832) (hm : n + ys.length ≤ maxLen) (hbase : base ≤ w.heap.size)
    (h : ∀ v' w', w'.ownsRow base e 1 v' (n + ys.length) (xs ++ nums .u32 ys) → w.grownBy w' v.ownBlock → (v'.ownBlock = v.ownBlock ∨ ∀ b, v'.ownBlock = some b → base ≤ b) → K (a.put o.dst v') w') : o.wp P a w K Q := by
  obtain ⟨i, hi, hz0, hz1, hz2⟩ := info_parts hE
  obtain ⟨A, c, rfl, _, _, H⟩ := W.open_
  rcases A with _ | ad
  · have h0 : ys = [] := by
      rcases ys with _ | ⟨y, ys⟩
      · rfl
      · obtain ⟨_, e1, _⟩ := H.at_ (k := 0) (by simp)
        cases e1
    subst h0
    have hr := run_append_none (P := P) (w := w) base t o.type e i 1 c ht hi v n xs hown
    unfold Oper.wp execOp
    simp only [List.length_nil] at hx h
    simp only [ho, resolve, invoke, builtin, Sem.run_bind, Sem.run_pure, Result.andThen_ok, List.map_toArray, List.map_cons, List.map_nil, hs, hx, hr]
    exact h v w (by simpa [nums] using hown) ⟨rfl, rfl, rfl, Nat.le_refl _, fun _ _ _ => rfl⟩ (Or.inl rfl)
  · refine wp_append_own w s x t ho base e i (.int .u32 0) 1 4 ht hi hz0 hz1 hz2 rfl (by omega) v n xs hs hown ad ys.length c (nums .u32 ys) hx (by simp) (fun j u hu => H.news j u hu) (nums_one _ _) hm (by omega) hbase ?_
    intro v' w' h1 h2 _
    refine h v' w' h1 h2 ?_
    right
    intro b hb
    exact (h1.lt b hb).1

/-- The same, as a step of a region that draws. -/
theorem step_words (w : World) (hgd : o.guard = none) (s x : Operand) (ho : o.op = .call { callee := .builtin .append, args := #[s, x], argTypes := #[t, t] })
    (ht : P.underlying t = some (.slice e)) (hE : (P.info? e).map (fun i => (i.zero, i.size, i.bytes)) = some (some (.int .u32 0), 1, 4))
    (base : Nat) (v : Value) (n : Nat) (xs : List Value) (hs : a.eval s = v) (hown : w.ownsRow base e 1 v n xs)
    (ys : List Nat) (vx : Value) (hx : a.eval x = vx) (W : Words w X vx ys)
    (hn : n + ys.length ≤ 35184372088832) (hm : n + ys.length ≤ maxLen) (hbase : base ≤ w.heap.size)
    (h : ∀ v' w', w'.ownsRow base e 1 v' (n + ys.length) (xs ++ nums .u32 ys) → w.grownBy w' v.ownBlock → (v'.ownBlock = v.ownBlock ∨ ∀ b, v'.ownBlock = some b → base ≤ b) → K (a.put o.dst v') w') :
    if Region.wanted o (yielded ops a.tmps) = true then Oper.wp P o a w K Q else E := by
  have hw : Region.wanted o (yielded ops a.tmps) = true := by simp [Region.wanted, hgd]
  rw [if_pos hw]
  exact wp_words w s x ho ht hE base v n xs hs hown ys vx hx W hn hm hbase h

/-- The same, in a list of operations. -/
theorem wpList_words (w : World) (hgd : o.guard = none) (s x : Operand) (ho : o.op = .call { callee := .builtin .append, args := #[s, x], argTypes := #[t, t] })
    (ht : P.underlying t = some (.slice e)) (hE : (P.info? e).map (fun i => (i.zero, i.size, i.bytes)) = some (some (.int .u32 0), 1, 4))
    (base : Nat) (v : Value) (n : Nat) (xs : List Value) (hs : a.eval s = v) (hown : w.ownsRow base e 1 v n xs)
    (ys : List Nat) (vx : Value) (hx : a.eval x = vx) (W : Words w X vx ys)
    (hn : n + ys.length ≤ 35184372088832) (hm : n + ys.length ≤ maxLen) (hbase : base ≤ w.heap.size)
    (h : ∀ v' w', w'.ownsRow base e 1 v' (n + ys.length) (xs ++ nums .u32 ys) → w.grownBy w' v.ownBlock → (v'.ownBlock = v.ownBlock ∨ ∀ b, v'.ownBlock = some b → base ≤ b) → wpList P ops Q rest (a.put o.dst v') w') :
    wpList P ops Q (o :: rest) a w :=
  wpList_plain hgd fun _ hK => wp_words w s x ho ht hE base v n xs hs hown ys vx hx W hn hm hbase fun v' w' h1 h2 h3 => hK _ _ (h v' w' h1 h2 h3)
end
end Go.Proofs.YtpeglenapmkdfaaGreat

/- mulWords of the reference. -/
namespace Go.Proofs.YtpeglenapmkdfaaGreat
open Go.RowKit
attribute [local go_sem ↓] Go.wp_at_zero Go.wp_at_succ

theorem below_via {a W w' : World} (hb : Below W.heap.size W w') (h : Below a.heap.size a W) : Below a.heap.size a w' := h.trans (hb.mono h.size)
theorem len_mul {xs ys : List Nat} (hx : Ws xs) (hy : Ws ys) : (dig (val xs * val ys)).length ≤ xs.length + ys.length := by
  refine dig_len_le ?_
  rw [Nat.pow_add]
  have h1 := val_lt hx
  have h2 := val_lt hy
  exact Nat.mul_lt_mul'' h1 h2
theorem len_mul1 {xs : List Nat} (hx : Ws xs) {d : Nat} (hd : d < 4294967296) : (dig (val xs * d)).length ≤ xs.length + 1 := by
  refine dig_len_le ?_
  rw [Nat.pow_succ]
  exact Nat.mul_lt_mul'' (val_lt hx) hd
theorem ws_dig (n : Nat) : Ws (dig n) := (can_dig n).1

set_option maxRecDepth 20000 in
set_option maxHeartbeats 1000000 in
theorem mulWords_any (w : World) (X : Nat → Prop) (va vb : Value) (xs ys : List Nat) (ha : Words w X va xs) (hb : Words w X vb ys) (hs : xs.length + ys.length ≤ 100000000000) :
    Calls Tryz.prog 81 #[va, vb] w fun e w' => ∃ v', e = .returned v' ∧ Words w' (Old w) v' (dig (val xs * val ys)) ∧ Below w.heap.size w w' := by
  obtain ⟨A, c, rfl, hc, _, HA⟩ := ha.open_
  obtain ⟨B, d, rfl, hd, _, HB⟩ := hb.open_
  have hm := HB.lt_max
  go_enter Tryz.func81, Tryz.ntmps81
  go_wp2_with fail
  go_loopw [5, 6] (fun o i wr => ∃ (k : Nat), k ≤ ys.length ∧ i = .int .i64 ((k : Int) - 1) ∧ Words wr (Old w) o (dig (val xs * val (ys.drop k))) ∧ Below w.heap.size w wr) (fun _ i _ => (intOf i + 1).toNat)
  case atStart => exact ⟨ys.length, by omega, rfl, by rw [List.drop_length]; show Words _ _ _ (dig (val xs * 0)); rw [Nat.mul_zero, dig_zero]; exact Words.lit [] (Loc.new _ _ _) (by simp) (by simp [Old]) (by unfold maxLen; simp), below1 _ _⟩
  case round =>
    obtain ⟨k, hk, hi, hw, hbr⟩ := hrel
    by_cases hk0 : k = 0
    · subst hk0
      obtain rfl := hi
      rw [List.drop_zero] at hw
      go_wp2_with fail
      go_ret
      exact ⟨_, rfl, hw, hbr⟩
    · obtain ⟨j, rfl⟩ : ∃ j, k = j + 1 := ⟨k - 1, by omega⟩
      obtain rfl := hi.trans (show Value.int .i64 (((j + 1 : Nat) : Int) - 1) = .int .i64 (j : Int) by congr 1; omega)
      clear hi
      have HBr := HB.below hbr
      have HAr := HA.below hbr
      obtain ⟨a, rfl, _, _, hcb⟩ := HBr.at_ (k := j) (by omega)
      have hlt := HB.lt (i := j) (by omega)
      have KS : Hid (∀ W, Below wr.heap.size wr W → W.cell? (a.add j) = some (.int .u32 (ys[j] : Nat))) := fun W hW => by
        obtain ⟨a', e, _, _, hc⟩ := (HBr.below hW).at_ (k := j) (by omega)
        injection e with e
        subst e
        exact hc
      have hsum : val xs * val (ys.drop j) = val (0 :: dig (val xs * val (ys.drop (j + 1)))) + val (dig (val xs * ys[j])) := by
        rw [List.drop_eq_getElem_cons (by omega : j < ys.length), val_dig]
        show val xs * (ys[j] + 4294967296 * val (ys.drop (j + 1))) = 0 + 4294967296 * val (dig _) + _
        rw [val_dig, Nat.mul_add, ← Nat.mul_assoc, Nat.mul_comm (val xs) 4294967296, Nat.mul_assoc]
        omega
      have hl1 := len_mul HA.2 (ys := ys.drop (j + 1)) (fun x hx => HB.2 x (List.mem_of_mem_drop hx))
      have hl2 := len_mul1 HA.2 hlt
      rw [List.length_drop] at hl1
      have HSUM := Lib.hid hsum
      have HL1 := Lib.hid hl1
      have HL2 := Lib.hid hl2
      have b1 : (0 : Int) ≤ (j : Int) := by omega
      have b2 : (j : Int) < (ys.length : Int) := by omega
      have HWD := Lib.hid (ws_dig (val xs * val (ys.drop (j + 1))))
      clear hsum hl1 hl2
      generalize dig (val xs * val (ys.drop (j + 1))) = qs at *
      generalize hx : ys[j] = x at *
      generalize hps : dig (val xs * x) = ps at *
      have HPS := Lib.hid hps
      clear hps hx
      have hql := HL1.out
      have hpl := HL2.out
      go_wp2_with fail
      have hwx := hw.weak (Y := fun _ => False) (fun _ _ h => h.elim)
      have hw64 : IntKind.u64.wrap ((x : Nat) : Int) = ((x : Nat) : Int) := by rw [IntKind.wrap_u64]; omega
      have ho0 : Hid ((wr.alloc (.cells #[.int .u32 0] 113)).drew.ownsRow wr.heap.size 113 1 (.slice (some ⟨wr.heap.size, 0, none⟩) 1 1) 1 [.int .u32 0]) := World.ownsRow_lit (e := 113) (size := 1) wr #[.int .u32 0] 1 (Nat.le_refl _) (by unfold maxLen; omega) rfl
      have hz0 : Hid (∀ {v1 : Value} {w1 w2 : World}, w1.ownsRow wr.heap.size 113 1 v1 (1 + qs.length) ([.int .u32 0] ++ nums .u32 qs) → Below w1.heap.size w1 w2 → Words w2 (fun _ => False) v1 (0 :: qs)) := fun ho hb => (Words.of_own (xs := 0 :: qs) (by rw [List.length_cons, Nat.add_comm]; exact ho) (by intro x hx; rcases List.mem_cons.1 hx with e | e; (subst e; omega); exact HWD.out x e) (fun _ _ _ _ h => h)).below hb
      go_region_held3 (fun W => W.cell? (a.add j) = some (.int .u32 (x : Nat)))
        (first | exact KS.out _ (by repeat' (first | exact a1 | exact t2 | exact t3 | exact Below.refl _ _ | refine Below.drew ?_ | refine Below.alloc ?_ (by first | exact Nat.le_refl _ | exact t2.size) _)))
        (first
          | (go_at_call 101; refine (timesWord_any _ (fun _ => False) _ xs x ((HAr.weak (Y := fun _ => False) (fun _ _ h => h.elim)).below (by repeat' (first | exact a1 | exact t2 | exact t3 | exact Below.refl _ _ | refine Below.drew ?_ | refine Below.alloc ?_ (by first | exact Nat.le_refl _ | exact t2.size) _))) (by omega) (by omega)).mono ?_; rintro e w2 ⟨v2, rfl, h2, hb2⟩; rw [HPS.out] at h2; have hw1 := hz0.out hown1 hb2; have t2 : Below wr.heap.size wr w2 := below_via hb2 (by repeat' (first | exact a1 | exact t2 | exact t3 | exact Below.refl _ _ | refine Below.drew ?_ | refine Below.alloc ?_ (by first | exact Nat.le_refl _ | exact t2.size) _)))
          | (go_at_call 78; refine (addWords_any _ (fun _ => False) _ _ (0 :: qs) ps hw1 (h2.weak (fun _ _ h => h.elim)) (by simp only [List.length_cons]; omega)).mono ?_; rintro e w3 ⟨v3, rfl, h3, hb3⟩; rw [← HSUM.out] at h3; have t3 := t2.trans (hb3.mono t2.size))
          | (refine step_words _ rfl _ _ rfl Tryz.underlying40 info_u32 wr.heap.size _ 1 [.int .u32 0] rfl ho0.out qs _ rfl (hwx.below (below1 wr _).drew) (by omega) (by unfold maxLen; omega) (by simp) ?_; intro v1 w1 hown1 hg1 hob1; have a1 : Below wr.heap.size wr w1 := below_own (below1 wr (.cells #[.int .u32 0] 113)).drew ho0.out hg1 (Nat.le_refl _) (by simp)))
      all_goals
        clear KS ho0 hz0
        go_wp2_with fail
        go_roundw
        case rel => exact ⟨j, by omega, by go_num, h3.weak (fun b _ hb => by simp only [Old] at hb ⊢; have := hbr.size; have := t2.size; omega), hbr.trans (t3.mono hbr.size)⟩
        case measure => simp only [intOf]; omega
end Go.Proofs.YtpeglenapmkdfaaGreat

/- Mul of the reference. -/
namespace Go.Proofs.YtpeglenapmkdfaaGreat
open Go.RowKit
attribute [local go_sem ↓] Go.wp_at_zero Go.wp_at_succ

set_option maxHeartbeats 1000000 in
theorem rmul_any (w : World) (X : Nat → Prop) (v1 v2 : Value) (n1 n2 : Bool) (xs ys : List Nat) (h1 : IntR w X v1 n1 xs) (h2 : IntR w X v2 n2 ys) (hs1 : xs.length ≤ 40000000000) (hs2 : ys.length ≤ 40000000000) :
    Calls Tryz.prog 52 #[v1, v2] w fun e w' => ∃ v', e = .returned v' ∧ IntV w' (Old w) v' (sv n1 xs * sv n2 ys) ∧ Below w.heap.size w w' := by
  obtain ⟨A, c, rfl, _, _, H1⟩ := h1.open_
  obtain ⟨B, d, rfl, _, _, H2⟩ := h2.open_
  have l1 := trimL_len xs
  have l2 := trimL_len ys
  have hlm := len_mul (can_trimL H1.2).1 (can_trimL H2.2).1
  have HLM := Lib.hid hlm
  clear hlm
  go_enter Tryz.func52, Tryz.ntmps52
  go_wp2_with fail
  have KS := boxes3 w #[.bool n1, .slice A xs.length c] #[.bool n2, .slice B ys.length d] #[.bool false, .slice none 0 0] 42 42 42
  have K1 := (H1.weak (Y := fun _ => False) (fun _ _ h => h.elim)).below (below3 w (.cells #[.bool n1, .slice A xs.length c] 42) (.cells #[.bool n2, .slice B ys.length d] 42) (.cells #[.bool false, .slice none 0 0] 42))
  have K2 := (H2.weak (Y := fun _ => False) (fun _ _ h => h.elim)).below (below3 w (.cells #[.bool n1, .slice A xs.length c] 42) (.cells #[.bool n2, .slice B ys.length d] 42) (.cells #[.bool false, .slice none 0 0] 42))
  obtain ⟨-, -, Lr, hB0, hsz0⟩ := locs3 (c1 := #[.bool n1, .slice A xs.length c]) (c2 := #[.bool n2, .slice B ys.length d]) (c3 := #[.bool false, .slice none 0 0]) (t1 := 42) (t2 := 42) (t3 := 42) (Below.refl _ (((w.alloc _).alloc _).alloc _))
  generalize (((w.alloc (.cells #[.bool n1, .slice A xs.length c] 42)).alloc (.cells #[.bool n2, .slice B ys.length d] 42)).alloc (.cells #[.bool false, .slice none 0 0] 42)) = w1 at *
  clear H1 H2 h1 h2
  go_region_held3 (fun w' => (w'.cell? ⟨w.heap.size, 0, none⟩ = some (.bool n1) ∧ w'.cell? ⟨w.heap.size, 1, none⟩ = some (.slice A xs.length c)) ∧ w'.cell? ⟨w.heap.size + 1, 0, none⟩ = some (.bool n2) ∧ w'.cell? ⟨w.heap.size + 1, 1, none⟩ = some (.slice B ys.length d))
    (first | exact cells_of (KS.out _ (((k4.mono (by omega)).setCell (by simp) _).setCell (by simp) _)) | exact cells_of (KS.out _ (k4.mono (by omega))) | exact cells_of (KS.out _ (k3.mono (by omega))) | exact cells_of (KS.out _ (k2.mono (by omega))) | exact cells_of (KS.out _ (k1.mono (by omega))) | exact cells_of (KS.out _ (Below.refl _ _).drew) | go_keep)
    (first
      | (go_at_call_of 76 (Value.slice A xs.length c); refine (rtrim_any _ (fun _ => False) (.slice A xs.length c) xs (K1.below (Below.refl _ _).drew) (by omega)).mono ?_; rintro e wa ⟨va, rfl, ha, hka⟩; have k1 := below_undrew hka)
      | (go_at_call_of 76 (Value.slice B ys.length d); refine (rtrim_any _ (fun _ => False) (.slice B ys.length d) ys (K2.below k1) (by omega)).mono ?_; rintro e wb ⟨vb, rfl, hb, hkb⟩; have k2 := k1.trans (hkb.mono k1.size); have ha2 := ha.below hkb)
      | (go_at_call 81; refine (mulWords_any _ (fun _ => False) va vb _ _ (ha2.weak (fun _ _ h => h.elim)) (hb.weak (fun _ _ h => h.elim)) (by omega)).mono ?_; rintro e wc ⟨vm, rfl, hm, hkc⟩; have k3 := k2.trans (hkc.mono k2.size))
      | (go_at_call 77; refine (made_any _ (fun _ => False) _ vm _ (hm.weak (fun _ _ h => h.elim)) (by have := HLM.out; omega)).mono ?_; rintro e w3 ⟨vs, rfl, hs, hb3⟩; have k4 := k3.trans (hb3.mono k3.size); have hk3 := k3.size; rw [sv_mul n1 n2 (trimL xs) (trimL ys) _ (val_dig _), sv_trim, sv_trim] at hs; obtain ⟨bs, As, ns, cs, rfl, hs⟩ := hs.op; have Lr2 := Lr.below k4; have cc := Lr2.cell; have cf := Lr2.frz))
  all_goals
    clear KS Lr
    go_wp2_with fail
    refine bodyPost_ret (by simp [results, Tryz.results52, go_sem, cc, cf] <;> rfl) rfl ⟨_, rfl, IntV.stored (g := w.heap.size + 1 + 1) (Y := Old w) hs (by simp only [Old]; omega) _ _ (by intro b _ hb; simp only [Old] at hb ⊢; omega), below_set2 (hB0.trans (k4.mono (by omega))) (by omega) _ _⟩
end Go.Proofs.YtpeglenapmkdfaaGreat

/- Parse: the sign cut off. -/
namespace Go.Proofs.YtpeglenapmkdfaaGreat
open Go.RowKit

/-- A string of bytes. -/
abbrev str (bs : List UInt8) : Value := .string ⟨bs.toArray⟩
def isNeg (bs : List UInt8) : Bool := Lib.hasPrefix bs [45]
def strip (bs : List UInt8) : List UInt8 := if isNeg bs then bs.drop 1 else bs

theorem isNeg_nil : isNeg [] = false := rfl
theorem isNeg_cons (b : UInt8) (bs : List UInt8) : isNeg (b :: bs) = (b == 45) := by
  rw [isNeg, ← Lib.hasPrefix_of_take]; simp
theorem strip_neg {bs : List UInt8} (h : isNeg bs = true) : strip bs = bs.drop 1 := by simp [strip, h]
theorem strip_pos {bs : List UInt8} (h : isNeg bs = false) : strip bs = bs := by simp [strip, h]
theorem strip_len (bs : List UInt8) : (strip bs).length ≤ bs.length := by unfold strip; split <;> simp
theorem isNeg_len {bs : List UInt8} (h : isNeg bs = true) : 1 ≤ bs.length := by
  cases bs with
  | nil => cases h
  | cons b bs => simp
end Go.Proofs.YtpeglenapmkdfaaGreat

/- Decimal texts. Plain arithmetic. -/
namespace Go.Proofs.YtpeglenapmkdfaaGreat

/-- The number of little-endian decimal digits. -/
def dval : List Nat → Nat
  | [] => 0
  | d :: ds => d + 10 * dval ds
/-- The decimal digits of a number, the least first. -/
def decR (n : Nat) : List Nat := if n = 0 then [] else (n % 10) :: decR (n / 10)
termination_by n
decreasing_by omega

def Ds (ds : List Nat) : Prop := ∀ d ∈ ds, d < 10

@[simp] theorem dval_nil : dval [] = 0 := rfl
@[simp] theorem dval_cons (d : Nat) (ds : List Nat) : dval (d :: ds) = d + 10 * dval ds := rfl
theorem Ds.cons {x : Nat} {xs : List Nat} : Ds (x :: xs) ↔ x < 10 ∧ Ds xs := by simp [Ds]
theorem Ds.append {xs ys : List Nat} : Ds (xs ++ ys) ↔ Ds xs ∧ Ds ys := by
  simp only [Ds, List.mem_append]
  exact ⟨fun h => ⟨fun x hx => h x (.inl hx), fun x hx => h x (.inr hx)⟩, fun h x hx => hx.elim (h.1 x) (h.2 x)⟩
theorem Ds.take {xs : List Nat} (h : Ds xs) (n : Nat) : Ds (xs.take n) := fun x hx => h x (List.mem_of_mem_take hx)
theorem dval_append (xs ys : List Nat) : dval (xs ++ ys) = dval xs + 10 ^ xs.length * dval ys := by
  induction xs with
  | nil => simp
  | cons x xs ih =>
    simp only [List.cons_append, dval_cons, ih, List.length_cons, Nat.pow_succ]
    rw [Nat.mul_add, Nat.add_assoc, ← Nat.mul_assoc, Nat.mul_comm 10 (10 ^ xs.length)]
theorem dval_snoc (xs : List Nat) (y : Nat) : dval (xs ++ [y]) = dval xs + 10 ^ xs.length * y := by rw [dval_append]; simp
theorem decR_zero : decR 0 = [] := by rw [decR]; simp
theorem decR_pos {n : Nat} (h : n ≠ 0) : decR n = (n % 10) :: decR (n / 10) := by rw [decR, if_neg h]
theorem dval_decR (n : Nat) : dval (decR n) = n := by
  induction n using Nat.strongRecOn with
  | _ n ih =>
    by_cases h : n = 0
    · subst h; rw [decR_zero]; rfl
    · rw [decR_pos h, dval_cons, ih _ (by omega)]; omega
theorem ds_decR (n : Nat) : Ds (decR n) := by
  induction n using Nat.strongRecOn with
  | _ n ih =>
    by_cases h : n = 0
    · subst h; rw [decR_zero]; simp [Ds]
    · rw [decR_pos h]; exact Ds.cons.2 ⟨by omega, ih _ (by omega)⟩
theorem decR_last {n : Nat} (h : decR n ≠ []) : (decR n).getLast h ≠ 0 := by
  induction n using Nat.strongRecOn with
  | _ n ih =>
    have h0 : n ≠ 0 := by rintro rfl; exact h decR_zero
    have e := decR_pos h0
    by_cases h1 : n / 10 = 0
    · have : decR n = [n % 10] := by rw [e, h1, decR_zero]
      simp only [this, List.getLast_singleton]; omega
    · have hne : decR (n / 10) ≠ [] := by rw [decR_pos h1]; simp
      have := ih (n / 10) (by omega) hne
      simp only [e, List.getLast_cons hne]
      exact this
/-- Digits without a zero at the end are those of their number. -/
theorem decR_of {ds : List Nat} (h : Ds ds) (hl : ∀ h : ds ≠ [], ds.getLast h ≠ 0) : ds = decR (dval ds) := by
  induction ds with
  | nil => exact decR_zero.symm
  | cons d ds ih =>
    have hd := Ds.cons.1 h
    by_cases h0 : ds = []
    · subst h0
      have := hl (by simp)
      simp at this
      rw [dval_cons, dval_nil, decR_pos (by omega)]
      have : (d + 10 * 0) / 10 = 0 := by omega
      rw [this, decR_zero]
      congr 1; omega
    · have hl' : ∀ h : ds ≠ [], ds.getLast h ≠ 0 := fun hn => by have := hl (by simp); rwa [List.getLast_cons hn] at this
      have e := ih hd.2 hl'
      have hp : dval ds ≠ 0 := by intro hz; rw [hz, decR_zero] at e; exact h0 e
      rw [dval_cons, decR_pos (by omega)]
      have e1 : (d + 10 * dval ds) / 10 = dval ds := by omega
      rw [e1, ← e]
      congr 1; omega
theorem dval_zeros (ds : List Nat) (h : ∀ j, (h : j < ds.length) → ds[j] = 0) : dval ds = 0 := by
  induction ds with
  | nil => rfl
  | cons x xs ih =>
    have h0 := h 0 (by simp)
    have := ih (fun j hj => by have := h (j + 1) (by simpa using hj); simpa using this)
    simp at h0
    simp [h0, this]
theorem dval_take (ds : List Nat) (k : Nat) (h : ∀ j, k ≤ j → (h : j < ds.length) → ds[j] = 0) : dval (ds.take k) = dval ds := by
  have e : dval ds = dval (ds.take k ++ ds.drop k) := by rw [List.take_append_drop]
  rw [e, dval_append, dval_zeros (ds.drop k)]
  · simp
  · intro j hj
    rw [List.getElem_drop]
    exact h _ (by omega) (by simp at hj; omega)
/-- Stripped of zeros behind its first digit a positive number's digits are its own. -/
theorem decR_strip (ds : List Nat) (k : Nat) (h : Ds ds) (hk : k ≤ ds.length) (h1 : 1 ≤ k) (hz : ∀ j, k ≤ j → (h : j < ds.length) → ds[j] = 0) (hl : 1 < k → (h : k - 1 < ds.length) → ds[k - 1] ≠ 0) (hp : 0 < dval ds) :
    ds.take k = decR (dval ds) := by
  rw [← dval_take ds k hz]
  refine decR_of (h.take k) fun hne => ?_
  rw [List.getLast_eq_getElem, List.getElem_take]
  have hlen : (ds.take k).length = k := by rw [List.length_take]; omega
  simp only [hlen]
  by_cases h2 : 1 < k
  · exact hl h2 (by omega)
  · obtain rfl : k = 1 := by omega
    intro h0
    have : dval (ds.take 1) = 0 := dval_zeros _ (fun j hj => by
      rw [List.length_take] at hj
      rw [List.getElem_take]
      obtain rfl : j = 0 := by omega
      exact h0)
    rw [dval_take ds 1 hz] at this
    omega
theorem pow10_bound (m n : Nat) (h : 10 ^ m < 4294967296 ^ n) : m ≤ 11 * n := by
  have h1 : (2 ^ 3) ^ m ≤ 10 ^ m := Nat.pow_le_pow_left (by omega) m
  have h2 : (4294967296 : Nat) ^ n = (2 ^ 32) ^ n := by rw [show (2 : Nat) ^ 32 = 4294967296 from by omega]
  rw [← Nat.pow_mul] at h1 h2
  rw [h2] at h
  have : 2 ^ (3 * m) < 2 ^ (32 * n) := by omega
  have := (Nat.pow_lt_pow_iff_right (show 1 < 2 by omega)).1 this
  omega

/-- The characters of digits. -/
def chars (ds : List Nat) : List Nat := ds.map (48 + ·)
theorem chars_lt {ds : List Nat} (h : Ds ds) : ∀ x ∈ chars ds, x < 256 := by
  intro x hx
  obtain ⟨d, hd, rfl⟩ := List.mem_map.1 hx
  have := h d hd
  omega
@[simp] theorem chars_length (ds : List Nat) : (chars ds).length = ds.length := by simp [chars]
theorem chars_get (ds : List Nat) (i : Nat) (h : i < ds.length) : (chars ds)[i]'(by simpa using h) = 48 + ds[i] := by simp [chars]
theorem chars_take (ds : List Nat) (k : Nat) : (chars ds).take k = chars (ds.take k) := by simp [chars, List.map_take]
theorem chars_snoc (ds : List Nat) (d : Nat) : chars ds ++ [48 + d] = chars (ds ++ [d]) := by simp [chars]

/-- Bytes out of numbers. -/
def bytesOf (xs : List Nat) : List UInt8 := xs.map UInt8.ofNat
/-- The decimal text of an integer. -/
def textB (z : Int) : List UInt8 := if z = 0 then [48] else bytesOf ((if z < 0 then [45] else []) ++ (chars (decR z.natAbs)).reverse)

@[simp] theorem bytesOf_length (xs : List Nat) : (bytesOf xs).length = xs.length := by simp [bytesOf]
theorem bytesOf_get (xs : List Nat) (i : Nat) (h : i < xs.length) (hx : ∀ x ∈ xs, x < 256) : ((bytesOf xs)[i]'(by simpa using h)).toNat = xs[i] := by
  have := hx _ (List.getElem_mem h)
  simp [bytesOf]
  omega
theorem textB_pos (n : Nat) (h : 0 < n) : textB (n : Int) = bytesOf (chars (decR n)).reverse := by
  unfold textB
  rw [if_neg (by omega), if_neg (by omega)]
  simp
theorem textB_neg (n : Nat) (h : 0 < n) : textB (-(n : Int)) = bytesOf (chars (decR n) ++ [45]).reverse := by
  unfold textB
  rw [if_neg (by omega), if_pos (by omega)]
  simp

/-- One round of digits. -/
theorem digit_step (ds0 : List Nat) (ds : List Nat) (r : Nat) (S : Nat) (h : dval ds + 10 ^ ds.length * r = S) : dval (ds ++ [r % 10]) + 10 ^ (ds ++ [r % 10]).length * (r / 10) = S := by
  rw [dval_snoc, List.length_append, List.length_singleton, Nat.pow_succ, ← h, Nat.mul_assoc, Nat.add_assoc, ← Nat.mul_add]
  congr 2; omega
theorem chunk_step (ds es : List Nat) (r q N : Nat) (he : dval es = dval ds + 10 ^ ds.length * r) (hl : es.length = ds.length + 9) (hN : N = q * 1000000000 + r) :
    dval es + 10 ^ es.length * q = dval ds + 10 ^ ds.length * N := by
  rw [he, hl, hN, Nat.pow_add, Nat.add_assoc, Nat.mul_assoc, ← Nat.mul_add]
  congr 2; omega
end Go.Proofs.YtpeglenapmkdfaaGreat

