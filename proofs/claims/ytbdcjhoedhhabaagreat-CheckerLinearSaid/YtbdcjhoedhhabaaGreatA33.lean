/- Contracts of the functions that the statements reach, part 33. -/
import Derived.Test.YtbdcjhoedhhabaaGreatRows
import Derived.Test.YtbdcjhoedhhabaaGreatA29
import Derived.Test.YtbdcjhoedhhabaaGreatA30
import Derived.Test.YtbdcjhoedhhabaaGreatA32
set_option linter.unusedSimpArgs false
set_option linter.unusedVariables false

/- slices.ContainsFunc at lists of fractions and at lists of those, for any predicate. -/
namespace Go.Proofs.YtbdcjhoedhhabaaGreat
open Go.RowKit
attribute [local go_sem ↓] Go.wp_at_zero Go.wp_at_succ

/-- A function that tells whether P, at fractions. -/
def TellsR (k : Nat) (w : World) (F : Nat) (caps : Array Value) (P : Rat → Prop) : Prop :=
 ∀ (W : World) (v : Value) (q : Rat), Below w.heap.size w W → RatL k W (fun _ => False) v q → Calls Tryz.prog F (#[v] ++ caps) W fun e w' => Tells (P q) e ∧ Below W.heap.size W w'
set_option maxRecDepth 100000 in
set_option maxHeartbeats 4000000 in
theorem indexR_any (w : World) (F : Nat) (caps : Array Value) (P : Rat → Prop) (v : Value) (m k : Nat) (f : Nat → Rat) (h : Nums k w (fun _ => False) v m f) (hen : Enters F) (hF : TellsR k w F caps P) :
 Calls Tryz.prog 230 #[v, .func (Fn.func F) #[] caps] w fun e w' => ∃ r : Int, e = .returned (.int .i64 r) ∧ ((0 ≤ r ∧ ∃ i, i < m ∧ P (f i)) ∨ (r < 0 ∧ ∀ i, i < m → ¬ P (f i))) ∧ Below w.heap.size w w' := by
 have H := Lib.hid h
 have HF := Lib.hid hF
 have hen2 : ∀ (args : Array Value) (W : World), (callFunc F args).run Tryz.prog W = .ok (.enter F args) W := hen
 obtain ⟨A, cap, rfl, h, l1, l2⟩ := h.op
 have lm : m ≤ 9223372036854775807 := by unfold maxLen at l2; omega
 clear h hF
 go_enter Tryz.func230, Tryz.ntmps230
 go_wp2_with fail
 go_loopw [8] (fun i wr => ∃ (c : Nat), c ≤ m ∧ i = .int .i64 c ∧ Hid (∀ i, i < c → ¬ P (f i)) ∧ Below w.heap.size w wr) (fun i _ => m - (intOf i).toNat)
 case atStart => exact ⟨0, by omega, rfl, Lib.hid (fun i hi => absurd hi (by omega)), bel⟩
 case round =>
  obtain ⟨c, hc, rfl, hall, hB⟩ := hrel
  obtain ⟨wo, rfl⟩ : ∃ wo : World, wo = wr := ⟨_, rfl⟩
  have y5 := hB.size; (try simp only [zs] at y5)
  by_cases hlt : c < m
  ·obtain ⟨a, b3, A3, m3, c3, b3', A3', m3', c3', rfl, ha, -, x0, x1, x2, x3, r3⟩ := Nums.at (Nums.keep H.out (.of_below hB)) hlt
   replace x1 : wo.cell? ⟨(a.add (c * 4)).block, (a.add (c * 4)).off + 1, none⟩ = _ := x1
   replace x2 : wo.cell? ⟨(a.add (c * 4)).block, (a.add (c * 4)).off + 2, none⟩ = _ := x2
   replace x3 : wo.cell? ⟨(a.add (c * 4)).block, (a.add (c * 4)).off + 3, none⟩ = _ := x3
   have k0 : (0 : Int) ≤ (c : Int) := by omega
   have k1 : (c : Int) < (m : Int) := by omega
   have HLT := Lib.hid hlt
   go_wp2_with fail
   refine (HF.out _ _ (f c) hB r3).mono ?_
   rintro e w2 ⟨⟨b, rfl, hb⟩, hb2⟩
   have y2 := hb2.size; (try simp only [zs] at y2)
   cases b
   ·have HGD : Hid (¬ P (f c)) := fun h => by have := hb.out.2 h; cases this
    clear hb
    go_wp2_with fail
    go_roundw
    case rel =>
     refine ⟨c + 1, by omega, by go_num, Lib.hid (fun i hi => ?_), bel⟩
     by_cases hic : i < c
     ·exact hall.out i hic
     ·obtain rfl : i = c := by omega
      exact HGD.out
    case measure => simp only [intOf]; omega
   ·have HGD : Hid (P (f c)) := hb.out.1 rfl
    clear hb
    go_wp2_with fail
    go_ret
    exact ⟨_, rfl, .inl ⟨by omega, c, HLT.out, HGD.out⟩, bel⟩
  ·obtain rfl : c = m := by omega
   go_wp2_with fail
   go_ret
   exact ⟨_, rfl, .inr ⟨by decide, hall.out⟩, hB⟩
set_option maxRecDepth 100000 in
set_option maxHeartbeats 4000000 in
theorem containsR_any (w : World) (F : Nat) (caps : Array Value) (P : Rat → Prop) (v : Value) (m k : Nat) (f : Nat → Rat) (h : Nums k w (fun _ => False) v m f) (hen : Enters F) (hF : TellsR k w F caps P) :
 Calls Tryz.prog 104 #[v, .func (Fn.func F) #[] caps] w fun e w' => Tells (∃ i, i < m ∧ P (f i)) e ∧ Below w.heap.size w w' := by
 have H := Lib.hid h
 have HF := Lib.hid hF
 obtain ⟨A, cap, rfl, h, l1, l2⟩ := h.op
 clear h hF
 go_enter Tryz.func104, Tryz.ntmps104
 go_wp2_with fail
 refine (indexR_any _ F caps P _ m k f H.out hen HF.out).mono ?_
 rintro e w1 ⟨r, rfl, hr, hb1⟩
 have y1 := hb1.size; (try simp only [zs] at y1)
 have HR := Lib.hid hr
 clear hr
 by_cases h0 : 0 ≤ r
 ·have HV : Hid (∃ i, i < m ∧ P (f i)) := by
   rcases HR.out with ⟨_, h⟩ | ⟨h, _⟩
   ·exact h
   ·omega
  go_wp2_with fail
  go_ret
  exact ⟨Tells.yes HV.out, bel⟩
 ·have HV : Hid (¬ ∃ i, i < m ∧ P (f i)) := by
   rcases HR.out with ⟨h, _⟩ | ⟨_, h⟩
   ·omega
   ·exact fun ⟨i, hi, hp⟩ => h i hi hp
  have hd : decide (0 ≤ r) = false := decide_eq_false h0
  go_wp2_with fail
  go_ret
  exact ⟨by first | exact Tells.no HV.out | (simp only [hd]; exact Tells.no HV.out), bel⟩

/- slices.ContainsFunc at lists of lists of fractions; refinement.matrix. -/

/- refinement.matrix, refinement.whole. -/

/- New of the reference. -/

/- Of the reference: Clean, Of, Sign, Neg, Mul. -/

/- Of the reference: Mul, Add, Sub, Divide, Compare. -/

/- Of the reference: Add, Sub, Divide, Compare; printed by gen_rat11.py. -/

/- rational.Sum and the reference's. -/

def RF.val (e : RF) : Rat := rv e.n1 e.xs e.n2 e.ys
theorem RatAt.on {w w' : World} {a : Addr} {e : RF} (h : RatAt w (fun _ => False) a e) (ha : a.block < w.heap.size) (hB : Below w.heap.size w w') : RatAt w' (fun _ => False) a e := by
 obtain ⟨C, c, D, d, h0, h1, h2, h3, hr⟩ := h
 have hk : Keep (fun _ => False) w w' := .of_below hB
 have key : ∀ (n : Nat) (u : Value), w.cell? (a.add n) = some u → w'.cell? (a.add n) = some u := fun n u hu => by
  have e : (a.add n).block = a.block := by unfold Addr.add; split <;> rfl
  have hb := hk.block (a.add n).block (by rw [e]; exact ha) id
  unfold World.cell? at hu ⊢
  rw [hb]; exact hu
 exact ⟨C, c, D, d, key 0 _ h0, key 1 _ h1, key 2 _ h2, key 3 _ h3, hr.keep hk⟩

/- rational.Sum of a list that is read. -/

theorem sum_rsz {k n : Nat} {f : Nat → Rat} (h : ∀ i, i < n → Rsz k (f i)) : ∀ i, i ≤ n → Rsz ((k + 1) * i + 2) (sm i f)
 | 0, _ => (rsz_int (z := 0) (by decide) (by decide)).mono (by omega)
 | i + 1, hi => by
   rw [sm_succ]
   exact ((sum_rsz h i (by omega)).add (h i (by omega))).mono (by rw [Nat.mul_add]; omega)

set_option maxHeartbeats 4000000 in
theorem sumN_any (w : World) (v : Value) (n k0 : Nat) (f : Nat → Rat) (h : Nums k0 w (fun _ => False) v n f) (hn : n ≤ 200) (hk1 : 1 ≤ k0) (hk2 : k0 ≤ 2000) :
 Calls Tryz.prog 385 #[v] w fun e w' => ∃ v', e = .returned v' ∧ RatV w' (Old w) v' (sm n f) ∧ Below w.heap.size w w' := by
 obtain ⟨A, cap, rfl, h, l1, l2⟩ := h.op
 have H := Lib.hid h
 have HALL : Hid (∀ i, i < n → Rsz k0 (f i)) := h.rsz hk1
 have HSZ : Hid (∀ i, i ≤ n → Rsz 900000 (sm i f)) := fun i hi => (sum_rsz HALL.out i hi).mono (by
  have h1 : (k0 + 1) * i ≤ 2001 * 200 := Nat.mul_le_mul (by omega) (by omega)
  omega)
 have L := made1 w #[.bool false, .slice none 0 0, .bool false, .slice none 0 0] 213
 clear h
 go_enter Tryz.func385, Tryz.ntmps385
 go_wp2_with fail
 refine (zero_rat _).mono ?_
 rintro e w1 ⟨v1, rfl, i1, hb1⟩
 obtain ⟨b1, A1, m1, c1, b1', A1', m1', c1', rfl, i1, -, -⟩ := i1.op
 have y1 := hb1.size; (try simp only [zs] at y1)
 have M1 := made1 w1 #[.bool b1, .slice A1 m1 c1, .bool b1', .slice A1' m1' c1'] 213
 go_wp2_with fail
 go_loopw [9] (fun i wr => ∃ (k : Nat) (b : Bool) (A : Option Addr) (m c : Nat) (b' : Bool) (A' : Option Addr) (m' c' : Nat), k ≤ n ∧ i = .int .i64 k ∧
  Loc wr w1.heap.size 213 #[.bool b, .slice A m c, .bool b', .slice A' m' c'] ∧ RatV wr (fun g => g ≤ w.heap.size ∨ g = w1.heap.size) (.agg #[.bool b, .slice A m c, .bool b', .slice A' m' c']) (sm k f) ∧
  Loc wr w.heap.size 213 #[.bool false, .slice none 0 0, .bool false, .slice none 0 0] ∧ Below w.heap.size w wr) (fun i _ => n - (intOf i).toNat)
 case atStart => exact ⟨0, b1, A1, m1, c1, b1', A1', m1', c1', by omega, rfl, M1, RatV.out i1, L.to, bel⟩
 case round =>
  obtain ⟨k, b, A2, m, c, b', A', m', c', hk, rfl, N1, s1, NL, hB⟩ := hrel
  obtain ⟨wo, rfl⟩ : ∃ wo : World, wo = wr := ⟨_, rfl⟩
  clear i1 M1 L
  have y5 := hB.size; (try simp only [zs] at y5)
  have q1 := Loc.lt N1
  have q4 := Loc.lt NL
  by_cases hlt : k < n
  ·obtain ⟨a, n1, C, x1, cc, n2, D, x2, d, rfl, hab, -, g0, g1, g2, g3, r2⟩ := Nums.at (Nums.keep H.out (.of_below hB)) hlt
   replace g1 : wo.cell? ⟨(a.add (k * 4)).block, (a.add (k * 4)).off + 1, none⟩ = _ := g1
   replace g2 : wo.cell? ⟨(a.add (k * 4)).block, (a.add (k * 4)).off + 2, none⟩ = _ := g2
   replace g3 : wo.cell? ⟨(a.add (k * 4)).block, (a.add (k * 4)).off + 3, none⟩ = _ := g3
   have kk0 : (0 : Int) ≤ (k : Int) := by omega
   have kk1 : (k : Int) < (n : Int) := by omega
   have HT : Hid (sm (k + 1) f = sm k f + f k) := rfl
   obtain ⟨e1, f1, -⟩ := Loc.all N1 (w' := wo.alloc (.cells #[.bool n1, .slice C x1 cc, .bool n2, .slice D x2 d] 213))
   have HR := Lib.hid (HSZ.out k (by omega))
   go_wp2_with fail
   refine (add_rat _ (fun _ => False) _ _ (sm k f) (f k) (RatL.to ((s1.len HR.out).mono (by omega))) (RatL.to (r2.mono (by omega)))).mono ?_
   rintro e u1 ⟨v5, rfl, i5, hb5⟩
   rw [← HT.out] at i5
   obtain ⟨b5, A5, m5, c5, b5', A5', m5', c5', rfl, i5, -, -⟩ := i5.op
   have y8 := hb5.size; (try simp only [zs] at y8)
   clear e1 f1
   obtain ⟨e1, f1, -⟩ := Loc.all N1 (w' := u1)
   go_wp2_with fail
   go_roundw
   case rel => exact ⟨k + 1, b5, A5, m5, c5, b5', A5', m5', c5', by omega, by go_num, Loc.fill4 (Loc.to N1 (w' := u1)), RatV.out i5, Loc.to NL, bel⟩
   case measure => simp only [intOf]; omega
  ·obtain rfl : k = n := by omega
   obtain ⟨e1, f1, -⟩ := Loc.all N1 (w' := wo)
   obtain ⟨e4, f4, -⟩ := Loc.all NL (w' := wo)
   go_wp2_with fail
   refine bodyPost_ret (by simp [results, Tryz.results385, go_sem, e4, f4] <;> rfl) rfl ⟨_, rfl, RatV.out s1, bel⟩

/- The checker's numbers: negative, sum, dot. -/

set_option maxHeartbeats 2000000 in
theorem cnegative_any (w : World) (k : Nat) (v : Value) (q : Rat) (h : RatL k w (fun _ => False) v q) :
 Calls Tryz.prog 236 #[v] w fun e w' => e = .returned (.bool (decide (q < 0))) ∧ Below w.heap.size w w' := by
 have hq := sign_neg_iff q
 obtain ⟨b, hb⟩ : ∃ b, decide (q < 0) = b := ⟨_, rfl⟩
 rw [hb]
 obtain ⟨n1, A, m, c, n2, B, m', d, rfl, h, -⟩ := h.op
 have HB : Hid (decide (q.num.sign < 0) = b) := by show _ = _; rw [← hb]; exact decide_eq_decide.2 hq
 clear hq hb
 go_enter Tryz.func236, Tryz.ntmps236
 go_wp2_with fail
 refine (sign_rat _ (fun _ => False) k _ q h.to).mono ?_
 rintro e w1 ⟨rfl, hb1⟩
 have z1 := sz1 hb1
 have HB2 := HB.out
 generalize q.num.sign = s at *
 clear HB
 cases b
 ·have h2 : ¬ s < 0 := of_decide_eq_false HB2
  go_wp2_with fail
  go_ret
  refine ⟨?_, bel⟩
  simp
 ·have h2 : s < 0 := of_decide_eq_true HB2
  go_wp2_with fail
  go_ret
  exact ⟨rfl, bel⟩

set_option maxHeartbeats 2000000 in
theorem ksum_any (w : World) (v : Value) (n k0 : Nat) (f : Nat → Rat) (h : Nums k0 w (fun _ => False) v n f) (hn : n ≤ 200) (hk1 : 1 ≤ k0) (hk2 : k0 ≤ 2000) :
 Calls Tryz.prog 297 #[v] w fun e w' => ∃ v', e = .returned v' ∧ RatV w' (Old w) v' (sm n f) ∧ Below w.heap.size w w' := by
 have H := Lib.hid h
 have L := made1 w #[.bool false, .slice none 0 0, .bool false, .slice none 0 0] 213
 clear h
 go_enter Tryz.func297, Tryz.ntmps297
 go_wp2_with fail
 refine (sumN_any _ _ n k0 f (H.out.keep kp) hn hk1 hk2).mono ?_
 rintro e w1 ⟨v1, rfl, i1, hb1⟩
 obtain ⟨b1, A1, m1, c1, b1', A1', m1', c1', rfl, i1, -, -⟩ := i1.op
 have z1 := sz1 hb1
 obtain ⟨e6, g6, l6⟩ := L.all (w' := w1)
 have LF := Loc.fill4 (u := .bool b1) (v := .slice A1 m1 c1) (x := .bool b1') (y := .slice A1' m1' c1') (L.to (w' := w1))
 obtain ⟨e8, g8, -⟩ := LF.all (w' := ((((w1.setCell ⟨w.heap.size, 0, none⟩ (.bool b1)).setCell ⟨w.heap.size, 1, none⟩ (.slice A1 m1 c1)).setCell ⟨w.heap.size, 2, none⟩ (.bool b1')).setCell ⟨w.heap.size, 3, none⟩ (.slice A1' m1' c1')))
 go_wp2_with fail
 refine bodyPost_ret (by simp [results, Tryz.results297, go_sem, e8, g8] <;> rfl) rfl ⟨_, rfl, RatV.out i1, bel⟩

set_option maxRecDepth 100000 in
set_option maxHeartbeats 8000000 in
theorem cdot_any (w : World) (v1 v2 : Value) (n n2 k : Nat) (f q : Nat → Rat) (h1 : Nums k w (fun _ => False) v1 n f) (h2 : Nums k w (fun _ => False) v2 n2 q) (hn : n ≤ n2) (hm : n ≤ 200) (hk1 : 1 ≤ k) (hk : k ≤ 900) :
 Calls Tryz.prog 238 #[v1, v2] w fun e w' => ∃ v', e = .returned v' ∧ RatV w' (Old w) v' (sm n (fun i => f i * q i)) ∧ Below w.heap.size w w' := by
 have HF : Hid (∀ i, i < n → Rsz k (f i)) := h1.rsz hk1
 have HQ : Hid (∀ i, i < n2 → Rsz k (q i)) := h2.rsz hk1
 have H1 := Lib.hid h1
 have H2 := Lib.hid h2
 have HN := Lib.hid hn
 obtain ⟨A, c1, rfl, h1, l1, l2⟩ := h1.op
 obtain ⟨B, c2, rfl, h2, l3, l4⟩ := h2.op
 have L := made1 w #[.bool false, .slice none 0 0, .bool false, .slice none 0 0] 213
 clear h1 h2 hn
 go_enter Tryz.func238, Tryz.ntmps238
 go_wp2_with fail
 go_loopw [5, 9] (fun v i wr => ∃ (c : Nat) (rs : List R4), c ≤ n ∧ i = .int .i64 c ∧ OwnR wr (w.heap.size + 1) v rs ∧ rs.length = c ∧ ValL (k + k) wr (fun b => v.ownBlock = some b) rs (fun i => f i * q i) ∧ Loc wr w.heap.size 213 #[.bool false, .slice none 0 0, .bool false, .slice none 0 0] ∧ Below w.heap.size w wr) (fun _ i _ => n - (intOf i).toNat)
 case atStart => exact ⟨0, [], by omega, rfl, OwnR.nil _ _, rfl, fun i r hr => by simp at hr, L, bel⟩
 case round =>
  obtain ⟨c, rs, hc, rfl, hown, hrl, hv, NL, hB⟩ := hrel
  obtain ⟨wo, rfl⟩ : ∃ wo : World, wo = wr := ⟨_, rfl⟩
  have y5 := hB.size; (try simp only [zs] at y5)
  have q1 := NL.lt
  by_cases hlt : c < n
  ·have hc2 : c < n2 := by have := HN.out; omega
   obtain ⟨a, b3, A3, m3, c3, b3', A3', m3', c3', rfl, ha, -, x0, x1, x2, x3, r3⟩ := Nums.at H1.out hlt
   obtain ⟨a', b4, A4, m4, c4, b4', A4', m4', c4', rfl, ha', -, y0, y1, y2, y3, r4⟩ := Nums.at H2.out hc2
   have HL : Hid (∀ W, Below w.heap.size w W → ((W.cell? (a.add (c * 4)) = some (.bool b3) ∧ W.cell? ⟨(a.add (c * 4)).block, (a.add (c * 4)).off + 1, none⟩ = some (.slice A3 m3 c3)) ∧ W.cell? ⟨(a.add (c * 4)).block, (a.add (c * 4)).off + 2, none⟩ = some (.bool b3') ∧ W.cell? ⟨(a.add (c * 4)).block, (a.add (c * 4)).off + 3, none⟩ = some (.slice A3' m3' c3')) ∧
    (W.cell? (a'.add (c * 4)) = some (.bool b4) ∧ W.cell? ⟨(a'.add (c * 4)).block, (a'.add (c * 4)).off + 1, none⟩ = some (.slice A4 m4 c4)) ∧ W.cell? ⟨(a'.add (c * 4)).block, (a'.add (c * 4)).off + 2, none⟩ = some (.bool b4') ∧ W.cell? ⟨(a'.add (c * 4)).block, (a'.add (c * 4)).off + 3, none⟩ = some (.slice A4' m4' c4')) := fun W hW => by
    refine ⟨⟨⟨?_, ?_⟩, ?_, ?_⟩, ⟨?_, ?_⟩, ?_, ?_⟩
    ·exact cell_keep (X := fun _ => False) x0 (by rw [add_block]; exact ha) id (.of_below hW)
    ·exact cell_keep (X := fun _ => False) x1 (by simp only [add_block]; exact ha) id (.of_below hW)
    ·exact cell_keep (X := fun _ => False) x2 (by simp only [add_block]; exact ha) id (.of_below hW)
    ·exact cell_keep (X := fun _ => False) x3 (by simp only [add_block]; exact ha) id (.of_below hW)
    ·exact cell_keep (X := fun _ => False) y0 (by rw [add_block]; exact ha') id (.of_below hW)
    ·exact cell_keep (X := fun _ => False) y1 (by simp only [add_block]; exact ha') id (.of_below hW)
    ·exact cell_keep (X := fun _ => False) y2 (by simp only [add_block]; exact ha') id (.of_below hW)
    ·exact cell_keep (X := fun _ => False) y3 (by simp only [add_block]; exact ha') id (.of_below hW)
   clear x0 x1 x2 x3 y0 y1 y2 y3
   have HM : Hid (Rsz (k + k) (f c * q c)) := (HF.out c hlt).mul (HQ.out c hc2)
   have hown7 : Hid (∀ b, u5.ownBlock = some b → b < wo.heap.size) := fun b hb => (hown.lt hb).1
   have hown8 : Hid (∀ b, u5.ownBlock = some b → w.heap.size + 1 ≤ b) := fun b hb => (hown.lt hb).2
   clear L
   go_wp2_with fail
   go_region_held3 (fun W => ((W.cell? (a.add (c * 4)) = some (.bool b3) ∧ W.cell? ⟨(a.add (c * 4)).block, (a.add (c * 4)).off + 1, none⟩ = some (.slice A3 m3 c3)) ∧ W.cell? ⟨(a.add (c * 4)).block, (a.add (c * 4)).off + 2, none⟩ = some (.bool b3') ∧ W.cell? ⟨(a.add (c * 4)).block, (a.add (c * 4)).off + 3, none⟩ = some (.slice A3' m3' c3')) ∧
    (W.cell? (a'.add (c * 4)) = some (.bool b4) ∧ W.cell? ⟨(a'.add (c * 4)).block, (a'.add (c * 4)).off + 1, none⟩ = some (.slice A4 m4 c4)) ∧ W.cell? ⟨(a'.add (c * 4)).block, (a'.add (c * 4)).off + 2, none⟩ = some (.bool b4') ∧ W.cell? ⟨(a'.add (c * 4)).block, (a'.add (c * 4)).off + 3, none⟩ = some (.slice A4' m4' c4'))
    (first | exact HL.out _ bel | exact HL.out _ (below_own (bel : Below w.heap.size w (u1.alloc (.cells #[.bool b5, .slice A5 m5 c5, .bool b5', .slice A5' m5' c5'] 213))) (hown.below (bel : Below wo.heap.size wo (u1.alloc (.cells #[.bool b5, .slice A5 m5 c5, .bool b5', .slice A5' m5' c5'] 213)))) hg9 (Nat.le_succ _) (by simp only [World.size_alloc]; omega)))
    (first
     | (go_at_call 293; refine (mul_rat _ (fun _ => False) _ _ (f c) (q c) (RatL.to (r3.mono (by omega))) (RatL.to (r4.mono (by omega)))).mono ?_; rintro e u1 ⟨v5, rfl, i5, hb5⟩; obtain ⟨b5, A5, m5, c5, b5', A5', m5', c5', rfl, i5, -, -⟩ := i5.op; have y6 := hb5.size; (try simp only [zs] at y6))
     | (refine step_pushR _ rfl _ _ rfl (w.heap.size + 1) u5 rs rfl (hown.below (bel : Below wo.heap.size wo (u1.alloc (.cells #[.bool b5, .slice A5 m5 c5, .bool b5', .slice A5' m5' c5'] 213)))) _ ⟨b5, A5, m5, c5, b5', A5', m5', c5'⟩ rfl (heap_alloc_new u1 _) (by omega) (by simp only [World.size_alloc]; omega) ?_; intro g cap w9 hown9 hg9 ho9 hl9))
   all_goals
    have hb99 : Below w.heap.size w w9 := below_own (bel : Below w.heap.size w (u1.alloc (.cells #[.bool b5, .slice A5 m5 c5, .bool b5', .slice A5' m5' c5'] 213))) (hown.below (bel : Below wo.heap.size wo (u1.alloc (.cells #[.bool b5, .slice A5 m5 c5, .bool b5', .slice A5' m5' c5'] 213)))) hg9 (Nat.le_succ _) (by simp only [World.size_alloc]; omega)
    have hvv : ValL (k + k) (u1.alloc (.cells #[.bool b5, .slice A5 m5 c5, .bool b5', .slice A5' m5' c5'] 213)) (fun b => u5.ownBlock = some b) rs (fun i => f i * q i) := hv.keep (Keep.of_below (bel : Below wo.heap.size wo (u1.alloc (.cells #[.bool b5, .slice A5 m5 c5, .bool b5', .slice A5' m5' c5'] 213))))
    have hrr9 : RatL (k + k) (u1.alloc (.cells #[.bool b5, .slice A5 m5 c5, .bool b5', .slice A5' m5' c5'] 213)) (fun b => u5.ownBlock = some b) (R4.v ⟨b5, A5, m5, c5, b5', A5', m5', c5'⟩) (f rs.length * q rs.length) := by
     rw [hrl]
     exact RatL.keep (RatL.weak (i5.len HM.out) (fun b _ hb => by have := hown7.out b hb; show b < _; simp only [size_drew] at *; omega)) kp
    have hg3 := ValL.grow hvv hrr9 hg9 ho9
    have NL9 : Loc w9 w.heap.size 213 #[.bool false, .slice none 0 0, .bool false, .slice none 0 0] := Loc.to (Loc.to NL (w' := (u1.alloc (.cells #[.bool b5, .slice A5 m5 c5, .bool b5', .slice A5' m5' c5'] 213)))) (k := Stay.refl.grown hg9 (fun e => by have := hown8.out _ e; omega))
    clear hvv hrr9 hb5
    go_wp2_with fail
    go_roundw
    case rel =>
     refine ⟨c + 1, rs ++ [⟨b5, A5, m5, c5, b5', A5', m5', c5'⟩], by omega, by go_num, (by rw [hrl] at hown9; exact hown9), by simp [hrl], hg3.weak (fun b _ hb => ?_), NL9, hb99⟩
     injection hb with hb
     exact hb.symm
    case measure => simp only [intOf]; omega
  ·obtain rfl : c = n := by omega
   obtain ⟨e4, f4, -⟩ := NL.all (w' := wo)
   have hnums : Nums (k + k) wo (fun _ => False) u5 rs.length (fun i => f i * q i) := hown.nums hv (fun _ _ h => h.elim) (fun _ _ h => h)
   rw [hrl] at hnums
   have HNU := Lib.hid hnums
   clear hnums hv
   go_wp2_with fail
   refine (ksum_any _ _ c (k + k) _ HNU.out hm (by omega) (by omega)).mono ?_
   rintro e w1 ⟨v1, rfl, i1, hb1⟩
   obtain ⟨b1, A1, m1, c1, b1', A1', m1', c1', rfl, i1, -, -⟩ := i1.op
   have y7 := hb1.size; (try simp only [zs] at y7)
   obtain ⟨e6, g6, l6⟩ := NL.all (w' := w1)
   have LF := Loc.fill4 (u := .bool b1) (v := .slice A1 m1 c1) (x := .bool b1') (y := .slice A1' m1' c1') (NL.to (w' := w1))
   obtain ⟨e8, g8, -⟩ := LF.all (w' := ((((w1.setCell ⟨w.heap.size, 0, none⟩ (.bool b1)).setCell ⟨w.heap.size, 1, none⟩ (.slice A1 m1 c1)).setCell ⟨w.heap.size, 2, none⟩ (.bool b1')).setCell ⟨w.heap.size, 3, none⟩ (.slice A1' m1' c1')))
   go_wp2_with fail
   refine bodyPost_ret (by simp [results, Tryz.results238, go_sem, e8, g8] <;> rfl) rfl ⟨_, rfl, RatV.out i1, bel⟩

/- The checker's points. -/

set_option maxRecDepth 100000 in
set_option maxHeartbeats 8000000 in
theorem cpoint_any (w : World) (va vb vx : Value) (m nx mb k : Nat) (N : Nat → Nat) (F : Nat → Nat → Rat) (f bv : Nat → Rat) (h : Mat k w (fun _ => False) va m N F)
 (hx : Nums k w (fun _ => False) vx nx f) (hbv : Nums k w (fun _ => False) vb mb bv) (hm1 : 1 ≤ m) (hm2 : m ≤ 80) (hn : N 0 ≤ 80) (hN : ∀ i, i < m → N i = N 0) (hmb : m ≤ mb) (hk1 : 1 ≤ k) (hk : k ≤ 900) :
 Calls Tryz.prog 111 #[.agg #[va, vb], vx] w fun e w' => Tells (SV m (N 0) nx F f bv) e ∧ Below w.heap.size w w' := by
 have H := Lib.hid h
 have HX := Lib.hid hx
 have HBV := Lib.hid hbv
 obtain ⟨A, c1, rfl, h, l1, l2⟩ := h.op
 obtain ⟨C, c3, rfl, hx, l3, l4⟩ := hx.op
 obtain ⟨B, c2, rfl, hbv, l5, l6⟩ := hbv.op
 obtain ⟨a, D, d, rfl, hab, -, hcell, hnum, l7, l8⟩ := Mat.at h (show 0 < m by omega)
 have e0 : a.add 0 = a := by simp [Addr.add]
 rw [e0] at hcell
 have hc2 : (w.alloc (.cells #[.slice (some a) m c1, .slice B mb c2] 73)).cell? a = _ := cell_keep (X := fun _ => False) hcell hab id kp
 have q0 : (0 : Int) < (m : Int) := by omega
 obtain ⟨n, hnn⟩ : ∃ n, N 0 = n := ⟨_, rfl⟩
 rw [hnn] at hcell hnum hc2 l7 hN hn
 rw [hnn]
 have HN := Lib.hid hN
 have L := made1 w #[.slice (some a) m c1, .slice B mb c2] 73
 clear hN hnn hnum h hx hbv
 by_cases h1 : nx ≠ n
 ·have hv : Hid (¬ SV m n nx F f bv) := fun h => h1 h.1
  have h4 : ((nx : Int) == (n : Int)) = false := beq_eq_false_iff_ne.2 (by omega)
  have h5 : ((nx : Int) != (n : Int)) = true := bne_iff_ne.2 (by omega)
  go_enter Tryz.func111, Tryz.ntmps111
  go_wp2_with fail
  go_ret
  exact ⟨Tells.no hv.out, bel⟩
 obtain rfl : nx = n := Classical.not_not.1 h1
 clear h1
 go_enter Tryz.func111, Tryz.ntmps111
 go_wp2_with fail
 refine (containsR_any _ 236 #[] (fun q => q < 0) _ nx k f (Nums.keep HX.out kp) (enters Tryz.func236 (by kernel_rfl) (by kernel_rfl)) (show TellsR k _ 236 #[] (fun q => q < 0) from fun W v q _ hq => (cnegative_any W k v q hq).mono fun e w' he => ⟨⟨_, he.1, by simp [Hid]⟩, he.2⟩)).mono ?_
 rintro e w1 ⟨⟨b, rfl, hbi⟩, hb1⟩
 have z1 := sz1 hb1
 have HB : Hid (b = false ↔ ∀ i, i < nx → ¬ f i < 0) := by
  show _ ↔ _
  have := hbi.out
  constructor
  ·intro h i hi hf
   rw [h] at this
   have := this.2 ⟨i, hi, hf⟩
   cases this
  ·intro h
   cases b with
   | false => rfl
   | true => obtain ⟨i, hi, hf⟩ := this.1 rfl; exact absurd hf (h i hi)
 clear hbi
 cases b
 ·have HP : Hid (∀ i, i < nx → ¬ f i < 0) := HB.out.1 rfl
  obtain ⟨e1, f1, -⟩ := L.all (w' := w1)
  clear HB hc2
  go_wp2_with fail
  go_loopw [22] (fun i wr => ∃ (c : Nat), c ≤ m ∧ i = .int .i64 c ∧ Hid (∀ i, i < c → sm nx (fun j => F i j * f j) = bv i) ∧ Loc wr w.heap.size 73 #[.slice (some a) m c1, .slice B mb c2] ∧ Below w.heap.size w wr) (fun i _ => m - (intOf i).toNat)
  case atStart => exact ⟨0, by omega, rfl, Lib.hid (fun i hi => absurd hi (by omega)), L.to, bel⟩
  case round =>
   obtain ⟨c, hc, rfl, hall, NL, hB⟩ := hrel
   obtain ⟨wo, rfl⟩ : ∃ wo : World, wo = wr := ⟨_, rfl⟩
   have y5 := hB.size; (try simp only [zs] at y5)
   by_cases hlt : c < m
   ·obtain ⟨a5, D5, d5, ea5, hab5, -, hcell5, hnum5, l9, l10⟩ := Mat.at (Mat.keep H.out (.of_below hB)) hlt
    injection ea5 with ea5
    subst ea5
    rw [HN.out c hlt] at hcell5 hnum5 l9
    have hcm : c < mb := by omega
    have hcm2 : (c : Int) < (mb : Int) := by omega
    have hcm3 : (0 : Int) ≤ (c : Int) := by omega
    obtain ⟨a6, b6, A6, m6, c6, b6', A6', m6', c6', rfl, ha6, -, x0, x1, x2, x3, r6⟩ := Nums.at (Nums.keep HBV.out (.of_below hB)) hcm
    have HD : Hid (Rsz 900000 (sm nx (fun j => F c j * f j))) := dot_rsz (hnum5.rsz hk1) (HX.out.rsz hk1) (by omega) (by omega)
    have HL : Hid (∀ W, Below wo.heap.size wo W → W.cell? ⟨w.heap.size, 1, none⟩ = some (.slice (some a6) mb c2) ∧ (W.cell? (a6.add (c * 4)) = some (.bool b6) ∧ W.cell? ⟨(a6.add (c * 4)).block, (a6.add (c * 4)).off + 1, none⟩ = some (.slice A6 m6 c6)) ∧ W.cell? ⟨(a6.add (c * 4)).block, (a6.add (c * 4)).off + 2, none⟩ = some (.bool b6') ∧ W.cell? ⟨(a6.add (c * 4)).block, (a6.add (c * 4)).off + 3, none⟩ = some (.slice A6' m6' c6')) := fun W hW => by
     refine ⟨Loc.c 1 (Loc.to NL (w' := W)), ⟨?_, ?_⟩, ?_, ?_⟩
     ·exact cell_keep (X := fun _ => False) x0 (by rw [add_block]; exact ha6) id (.of_below hW)
     ·exact cell_keep (X := fun _ => False) x1 (by simp only [add_block]; exact ha6) id (.of_below hW)
     ·exact cell_keep (X := fun _ => False) x2 (by simp only [add_block]; exact ha6) id (.of_below hW)
     ·exact cell_keep (X := fun _ => False) x3 (by simp only [add_block]; exact ha6) id (.of_below hW)
    obtain ⟨dv, hdv⟩ : ∃ q, sm nx (fun j => F c j * f j) = q := ⟨_, rfl⟩
    rw [hdv] at HD
    have HDV := Lib.hid hdv
    obtain ⟨qq, hqq⟩ : ∃ q, rcmp dv (bv c) = q := ⟨_, rfl⟩
    have HQ : Hid (qq = 0 ↔ dv = bv c) := by show _ ↔ _; rw [← hqq]; exact rcmp_zero dv (bv c)
    have HQQ := Lib.hid hqq
    clear x0 x1 x2 x3 hdv hqq
    go_wp2_with fail
    go_region_held3 (fun W => W.cell? ⟨w.heap.size, 1, none⟩ = some (.slice (some a6) mb c2) ∧ (W.cell? (a6.add (c * 4)) = some (.bool b6) ∧ W.cell? ⟨(a6.add (c * 4)).block, (a6.add (c * 4)).off + 1, none⟩ = some (.slice A6 m6 c6)) ∧ W.cell? ⟨(a6.add (c * 4)).block, (a6.add (c * 4)).off + 2, none⟩ = some (.bool b6') ∧ W.cell? ⟨(a6.add (c * 4)).block, (a6.add (c * 4)).off + 3, none⟩ = some (.slice A6' m6' c6'))
     (exact HL.out _ bel)
     (first
      | (go_at_call 238; refine (cdot_any _ _ _ nx nx k (F c) f (Nums.keep hnum5 kp) (Nums.keep HX.out kp) (Nat.le_refl _) (by omega) hk1 (by omega)).mono ?_; rintro e u1 ⟨v7, rfl, i7, hb7⟩; rw [HDV.out] at i7; obtain ⟨b7, A7, m7, c7, b7', A7', m7', c7', rfl, i7, -, -⟩ := i7.op; have y7 := hb7.size; (try simp only [zs] at y7))
      | (go_at_call 237; refine (ratcompare_any _ (fun _ => False) _ _ dv (bv c) (RatL.to ((i7.len HD.out).mono (by omega))) (RatL.to (r6.mono (by omega)))).mono ?_; rintro e u2 ⟨he, hb8⟩; rw [HQQ.out] at he; subst he; have y8 := hb8.size; (try simp only [zs] at y8)))
    all_goals
     by_cases hq0 : qq = 0
     ·subst hq0
      have HE := Lib.hid (HQ.out.1 rfl)
      clear HQ HQQ
      go_wp2_with fail
      go_roundw
      case rel =>
       refine ⟨c + 1, by omega, by go_num, Lib.hid (fun i hi => ?_), Loc.to NL, bel⟩
       by_cases hic : i < c
       ·exact hall.out i hic
       ·obtain rfl : i = c := by omega
        rw [HDV.out]; exact HE.out
      case measure => simp only [intOf]; omega
     ·have HV : Hid (¬ SV m nx nx F f bv) := fun hh => hq0 (HQ.out.2 (by rw [← HDV.out]; exact hh.2.2 c hlt))
      have hq1 : (qq == 0) = false := beq_eq_false_iff_ne.2 hq0
      have hq2 : (qq != 0) = true := bne_iff_ne.2 hq0
      clear HQ HQQ
      go_wp2_with fail
      go_ret
      exact ⟨Tells.no HV.out, bel⟩
   ·obtain rfl : c = m := by omega
    go_wp2_with fail
    go_ret
    exact ⟨Tells.yes ⟨rfl, HP.out, hall.out⟩, hB⟩
 ·have HV : Hid (¬ SV m nx nx F f bv) := fun h => by have := HB.out.2 h.2.1; cases this
  clear HB
  go_wp2_with fail
  go_ret
  exact ⟨Tells.no HV.out, bel⟩
end Go.Proofs.YtbdcjhoedhhabaaGreat

