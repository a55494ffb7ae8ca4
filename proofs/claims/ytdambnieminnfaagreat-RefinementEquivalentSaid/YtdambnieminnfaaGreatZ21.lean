/- Contracts of the functions that the statements reach, part 21. -/
import Derived.Test.YtdambnieminnfaaGreatRows
import Derived.Test.YtdambnieminnfaaGreatZ13
import Derived.Test.YtdambnieminnfaaGreatZ15
import Derived.Test.YtdambnieminnfaaGreatZ20
set_option linter.unusedSimpArgs false
set_option linter.unusedVariables false

/- rational.Sum and the reference's. -/
namespace Go.Proofs.YtdambnieminnfaaGreat
open Go.RowKit
attribute [local go_sem ↓] Go.wp_at_zero Go.wp_at_succ

def RF.val (e : RF) : Rat := rv e.n1 e.xs e.n2 e.ys
theorem RatAt.on {w w' : World} {a : Addr} {e : RF} (h : RatAt w (fun _ => False) a e) (ha : a.block < w.heap.size) (hB : Below w.heap.size w w') : RatAt w' (fun _ => False) a e := by
 obtain ⟨C, c, D, d, h0, h1, h2, h3, hr⟩ := h
 have hk : Keep (fun _ => False) w w' := .of_below hB
 have key : ∀ (n : Nat) (u : Value), w.cell? (a.add n) = some u → w'.cell? (a.add n) = some u := fun n u hu => by
  have e : (a.add n).block = a.block := by unfold Addr.add; split <;> rfl
  have hb := hk.block (a.add n).block (by rw [e]; exact ha) id
  unfold World.cell? at hu ⊢
  rw [hb]; exact hu
 exact ⟨C, c, D, d, key 0 _ h0, key 1 _ h1, key 2 _ h2, key 3 _ h3, hr.keep hk⟩

/- rational.Sum of a list that is read. -/

theorem sum_rsz {k n : Nat} {f : Nat → Rat} (h : ∀ i, i < n → Rsz k (f i)) : ∀ i, i ≤ n → Rsz ((k + 1) * i + 2) (sm i f)
 | 0, _ => (rsz_int (z := 0) (by decide) (by decide)).mono (by omega)
 | i + 1, hi => by
   rw [sm_succ]
   exact ((sum_rsz h i (by omega)).add (h i (by omega))).mono (by rw [Nat.mul_add]; omega)

set_option maxHeartbeats 4000000 in
theorem sumN_any (w : World) (v : Value) (n k0 : Nat) (f : Nat → Rat) (h : Nums k0 w (fun _ => False) v n f) (hn : n ≤ 200) (hk1 : 1 ≤ k0) (hk2 : k0 ≤ 2000) :
 Calls Tryz.prog 88 #[v] w fun e w' => ∃ v', e = .returned v' ∧ RatV w' (Old w) v' (sm n f) ∧ Below w.heap.size w w' := by
 obtain ⟨A, cap, rfl, h, l1, l2⟩ := h.op
 have H := Lib.hid h
 have HALL : Hid (∀ i, i < n → Rsz k0 (f i)) := h.rsz hk1
 have HSZ : Hid (∀ i, i ≤ n → Rsz 900000 (sm i f)) := fun i hi => (sum_rsz HALL.out i hi).mono (by
  have h1 : (k0 + 1) * i ≤ 2001 * 200 := Nat.mul_le_mul (by omega) (by omega)
  omega)
 have L := made1 w #[.bool false, .slice none 0 0, .bool false, .slice none 0 0] 60
 clear h
 go_enter Tryz.func88, Tryz.ntmps88
 go_wp2_with fail
 refine (zero_rat _).mono ?_
 rintro e w1 ⟨v1, rfl, i1, hb1⟩
 obtain ⟨b1, A1, m1, c1, b1', A1', m1', c1', rfl, i1, -, -⟩ := i1.op
 have y1 := hb1.size; (try simp only [zs] at y1)
 have M1 := made1 w1 #[.bool b1, .slice A1 m1 c1, .bool b1', .slice A1' m1' c1'] 60
 go_wp2_with fail
 go_loopw [9] (fun i wr => ∃ (k : Nat) (b : Bool) (A : Option Addr) (m c : Nat) (b' : Bool) (A' : Option Addr) (m' c' : Nat), k ≤ n ∧ i = .int .i64 k ∧
  Loc wr w1.heap.size 60 #[.bool b, .slice A m c, .bool b', .slice A' m' c'] ∧ RatV wr (fun g => g ≤ w.heap.size ∨ g = w1.heap.size) (.agg #[.bool b, .slice A m c, .bool b', .slice A' m' c']) (sm k f) ∧
  Loc wr w.heap.size 60 #[.bool false, .slice none 0 0, .bool false, .slice none 0 0] ∧ Below w.heap.size w wr) (fun i _ => n - (intOf i).toNat)
 case atStart => exact ⟨0, b1, A1, m1, c1, b1', A1', m1', c1', by omega, rfl, M1, RatV.out i1, L.to, bel⟩
 case round =>
  obtain ⟨k, b, A2, m, c, b', A', m', c', hk, rfl, N1, s1, NL, hB⟩ := hrel
  obtain ⟨wo, rfl⟩ : ∃ wo : World, wo = wr := ⟨_, rfl⟩
  clear i1 M1 L
  have y5 := hB.size; (try simp only [zs] at y5)
  have q1 := Loc.lt N1
  have q4 := Loc.lt NL
  by_cases hlt : k < n
  ·obtain ⟨a, n1, C, x1, cc, n2, D, x2, d, rfl, hab, -, g0, g1, g2, g3, r2⟩ := Nums.at (Nums.keep H.out (.of_below hB)) hlt
   replace g1 : wo.cell? ⟨(a.add (k * 4)).block, (a.add (k * 4)).off + 1, none⟩ = _ := g1
   replace g2 : wo.cell? ⟨(a.add (k * 4)).block, (a.add (k * 4)).off + 2, none⟩ = _ := g2
   replace g3 : wo.cell? ⟨(a.add (k * 4)).block, (a.add (k * 4)).off + 3, none⟩ = _ := g3
   have kk0 : (0 : Int) ≤ (k : Int) := by omega
   have kk1 : (k : Int) < (n : Int) := by omega
   have HT : Hid (sm (k + 1) f = sm k f + f k) := rfl
   obtain ⟨e1, f1, -⟩ := Loc.all N1 (w' := wo.alloc (.cells #[.bool n1, .slice C x1 cc, .bool n2, .slice D x2 d] 60))
   have HR := Lib.hid (HSZ.out k (by omega))
   go_wp2_with fail
   refine (add_rat _ (fun _ => False) _ _ (sm k f) (f k) (RatL.to ((s1.len HR.out).mono (by omega))) (RatL.to (r2.mono (by omega)))).mono ?_
   rintro e u1 ⟨v5, rfl, i5, hb5⟩
   rw [← HT.out] at i5
   obtain ⟨b5, A5, m5, c5, b5', A5', m5', c5', rfl, i5, -, -⟩ := i5.op
   have y8 := hb5.size; (try simp only [zs] at y8)
   clear e1 f1
   obtain ⟨e1, f1, -⟩ := Loc.all N1 (w' := u1)
   go_wp2_with fail
   go_roundw
   case rel => exact ⟨k + 1, b5, A5, m5, c5, b5', A5', m5', c5', by omega, by go_num, Loc.fill4 (Loc.to N1 (w' := u1)), RatV.out i5, Loc.to NL, bel⟩
   case measure => simp only [intOf]; omega
  ·obtain rfl : k = n := by omega
   obtain ⟨e1, f1, -⟩ := Loc.all N1 (w' := wo)
   obtain ⟨e4, f4, -⟩ := Loc.all NL (w' := wo)
   go_wp2_with fail
   refine bodyPost_ret (by simp [results, Tryz.results88, go_sem, e4, f4] <;> rfl) rfl ⟨_, rfl, RatV.out s1, bel⟩

/- refinement.stochastic. -/

set_option maxHeartbeats 2000000 in
theorem sto1_any (w : World) (v : Value) (n k : Nat) (f : Nat → Rat) (h : Nums k w (fun _ => False) v n f) (hn : n ≤ 200) (hk1 : 1 ≤ k) (hk2 : k ≤ 2000) :
 Calls Tryz.prog 87 #[v] w fun e w' => Tells (¬ sm n f = 1) e ∧ Below w.heap.size w w' := by
 have H := Lib.hid h
 obtain ⟨A, cp, rfl, h, l1, l2⟩ := h.op
 have HSZ : Hid (Rsz 900000 (sm n f)) := (sum_rsz (h.rsz hk1) n (Nat.le_refl _)).mono (by
  have h1 : (k + 1) * n ≤ 2001 * 200 := Nat.mul_le_mul (by omega) (by omega)
  omega)
 clear h
 obtain ⟨q, hq⟩ : ∃ q, rcmp (sm n f) ((1 : Int) : Rat) = q := ⟨_, rfl⟩
 have HQ := Lib.hid hq
 have HZ : Hid (q = 0 ↔ sm n f = 1) := by show _ ↔ _; rw [← hq]; exact rcmp_zero _ _
 clear hq
 go_enter Tryz.func87, Tryz.ntmps87
 go_wp2_with fail
 refine (sumN_any _ _ n k f (H.out.keep kp) hn hk1 hk2).mono ?_
 rintro e w1 ⟨v1, rfl, i1, hb1⟩
 have y1 := hb1.size; (try simp only [zs] at y1)
 obtain ⟨b1, A1, m1, c1, b1', A1', m1', c1', rfl, i1, -, -⟩ := i1.op
 go_wp2_with fail
 refine (rwhole_any _ 1 (by decide) (by decide)).mono ?_
 rintro e w2 ⟨v2, rfl, i2, hb2⟩
 have y2 := hb2.size; (try simp only [zs] at y2)
 obtain ⟨b2, A2, m2, c2, b2', A2', m2', c2', rfl, i2, -, -⟩ := i2.op
 go_wp2_with fail
 refine (ratcompare_any _ (fun _ => False) _ _ (sm n f) ((1 : Int) : Rat) (RatL.to ((i1.len HSZ.out).mono (by omega))) (RatL.to (i2.len ((rsz_int (z := 1) (by decide) (by decide)).mono (by omega))))).mono ?_
 rintro e w3 ⟨he, hb3⟩
 rw [HQ.out] at he
 subst he
 by_cases h0 : q = 0
 ·have HV : Hid (¬ ¬ sm n f = 1) := fun h => h (HZ.out.1 h0)
  have d1 : (q == 0) = true := beq_iff_eq.2 h0
  have d2 : (q != 0) = false := by simp only [bne, d1]; rfl
  clear HZ h0
  go_wp2_with fail
  go_ret
  exact ⟨Tells.no HV.out, bel⟩
 ·have HV : Hid (¬ sm n f = 1) := fun h => h0 (HZ.out.2 h)
  have d1 : (q == 0) = false := beq_eq_false_iff_ne.2 h0
  have d2 : (q != 0) = true := bne_iff_ne.2 h0
  clear HZ
  go_wp2_with fail
  go_ret
  exact ⟨Tells.yes HV.out, bel⟩
/-- A stochastic matrix. -/
def STO (m : Nat) (N : Nat → Nat) (F : Nat → Nat → Rat) : Prop := MX m N F ∧ ∀ i, i < m → sm (N i) (F i) = 1
set_option maxHeartbeats 2000000 in
theorem stochastic_any (w : World) (v : Value) (m k : Nat) (N : Nat → Nat) (F : Nat → Nat → Rat) (h : Mat k w (fun _ => False) v m N F) (hN : ∀ i, i < m → N i ≤ 200) (hk1 : 1 ≤ k) (hk2 : k ≤ 2000) :
 Calls Tryz.prog 48 #[v] w fun e w' => Tells (STO m N F) e ∧ Below w.heap.size w w' := by
 have H := Lib.hid h
 have HN := Lib.hid hN
 obtain ⟨A, cA, rfl, h, l1, l2⟩ := h.op
 clear h hN
 go_enter Tryz.func48, Tryz.ntmps48
 go_wp2_with fail
 refine (matrix_any _ _ m k N F (H.out.keep kp)).mono ?_
 rintro e w1 ⟨⟨b, rfl, hb⟩, hb1⟩
 have y1 := hb1.size; (try simp only [zs] at y1)
 cases b
 ·have HV : Hid (¬ STO m N F) := fun h => by have := hb.out.2 h.1; cases this
  clear hb
  go_wp2_with fail
  go_ret
  exact ⟨Tells.no HV.out, bel⟩
 have HM : Hid (MX m N F) := hb.out.1 rfl
 clear hb
 go_wp2_with fail
 refine (containsN_any _ 87 #[] (fun n f => ¬ sm n f = 1) _ m k N F (H.out.keep kp) (enters Tryz.func87 (by kernel_rfl) (by kernel_rfl)) (fun n => n ≤ 200) HN.out (show TellsN k _ 87 #[] (fun n f => ¬ sm n f = 1) (fun n => n ≤ 200) from fun W v n f _ hn hv => sto1_any W v n k f hv hn hk1 hk2)).mono ?_
 rintro e w2 ⟨⟨b, rfl, hb⟩, hb2⟩
 cases b
 ·have HV : Hid (STO m N F) := ⟨HM.out, fun i hi => Classical.not_not.1 (fun hne => by have := hb.out.2 ⟨i, hi, hne⟩; cases this)⟩
  clear hb
  go_wp2_with fail
  go_ret
  exact ⟨Tells.yes HV.out, bel⟩
 ·have HV : Hid (¬ STO m N F) := fun h => by
   obtain ⟨i, hi, hne⟩ := hb.out.1 rfl
   exact hne (h.2 i hi)
  clear hb
  go_wp2_with fail
  go_ret
  exact ⟨Tells.no HV.out, bel⟩

/- Of the reference: Sub, Divide, Compare; printed by gen_rat11.py. -/

/- The law's side of layer 40: whole, part. -/

set_option maxRecDepth 100000 in
set_option maxHeartbeats 4000000 in
theorem lpart_any (w : World) (z y : Int) (hy : y ≠ 0) (h0 : -9223372036854775808 ≤ z) (h1 : z ≤ 9223372036854775807) (h2 : -9223372036854775808 ≤ y) (h3 : y ≤ 9223372036854775807) :
 Calls Tryz.prog 44 #[.int .i64 z, .int .i64 y] w fun e w' => ∃ v', e = .returned v' ∧ RatV w' (Old w) v' (Rat.divInt z y) ∧ Below w.heap.size w w' := by
 have L := made1 w #[.bool false, .slice none 0 0, .bool false, .slice none 0 0] 60
 go_enter Tryz.func44, Tryz.ntmps44
 go_wp2_with fail
 refine (rratof_any _ z y hy h0 h1 h2 h3).mono ?_
 rintro e w1 ⟨v1, rfl, i1, hb1⟩
 obtain ⟨b1, A1, m1, c1, b1', A1', m1', c1', rfl, i1, -, -⟩ := i1.op
 have z1 := sz1 hb1
 have M := made1 w1 #[.bool b1, .slice A1 m1 c1, .bool b1', .slice A1' m1' c1'] 60
 obtain ⟨e4, g4, -⟩ := L.all (w' := w1.alloc (.cells #[.bool b1, .slice A1 m1 c1, .bool b1', .slice A1' m1' c1'] 60))
 obtain ⟨e6, g6, l6⟩ := L.all (w' := w1)
 obtain ⟨e5, g5, -⟩ := M.all (w' := w1.alloc (.cells #[.bool b1, .slice A1 m1 c1, .bool b1', .slice A1' m1' c1'] 60))
 have LF := Loc.fill4 (u := .bool b1) (v := .slice A1 m1 c1) (x := .bool b1') (y := .slice A1' m1' c1') (L.to (w' := w1))
 obtain ⟨e8, g8, -⟩ := LF.all (w' := ((((w1.setCell ⟨w.heap.size, 0, none⟩ (.bool b1)).setCell ⟨w.heap.size, 1, none⟩ (.slice A1 m1 c1)).setCell ⟨w.heap.size, 2, none⟩ (.bool b1')).setCell ⟨w.heap.size, 3, none⟩ (.slice A1' m1' c1')).alloc (.cells #[.bool b1, .slice A1 m1 c1, .bool b1', .slice A1' m1' c1'] 60))
 go_wp2_with fail
 refine bodyPost_ret (by simp [results, Tryz.results44, go_sem, e8, g8] <;> rfl) rfl ⟨_, rfl, RatV.out i1, bel⟩

/- The law's side of layer 40: valid. -/

set_option maxRecDepth 100000 in
set_option maxHeartbeats 8000000 in
theorem lvalid_any (w : World) (v0 : Value) (L : List (List Int)) (h : IMat w v0 L) :
 Calls Tryz.prog 65 #[.agg #[v0]] w fun e w' => Tells (VC L) e ∧ Below w.heap.size w w' := by
 have H := Lib.hid h
 obtain ⟨A, cA, rfl, h, l1, l2⟩ := h.op
 clear h
 obtain ⟨m, hm⟩ : ∃ m, L.length = m := ⟨_, rfl⟩
 have HM := Lib.hid hm
 rw [hm] at l1 H
 rw [hm]
 clear hm
 by_cases h1 : m < 1
 ·have HV : Hid (¬ VC L) := fun h => by have := h.1; rw [HM.out] at this; omega
  go_enter Tryz.func65, Tryz.ntmps65
  go_wp2_with fail
  go_ret
  exact ⟨Tells.no HV.out, bel⟩
 by_cases h2 : 256 < m
 ·have HV : Hid (¬ VC L) := fun h => by have := h.2.1; rw [HM.out] at this; omega
  go_enter Tryz.func65, Tryz.ntmps65
  go_wp2_with fail
  go_ret
  exact ⟨Tells.no HV.out, bel⟩
 have q0 : (0 : Int) < (m : Int) := by omega
 obtain ⟨l0, he⟩ : ∃ l, L[0]? = some l := ⟨_, List.getElem?_eq_getElem (by have := HM.out; omega)⟩
 obtain ⟨a0, D, d, rfl, hab, hcell, hints, l3, l4⟩ := H.out.at he
 rw [addr_zero] at hcell
 have H0 : Hid (L.getD 0 [] = l0) := by show _ = _; rw [List.getD_eq_getElem?_getD, he]; rfl
 obtain ⟨n, hn⟩ : ∃ n, l0.length = n := ⟨_, rfl⟩
 have HN := Lib.hid hn
 rw [hn] at hcell hints l3
 obtain ⟨R, hR⟩ : ∃ R, rsumA 0 l0 = R := ⟨_, rfl⟩
 have HR := Lib.hid hR
 have hrr := rsumA_range l0 0 (by decide) (by decide)
 rw [hR] at hrr
 have HVC : Hid (VC L ↔ 1 ≤ n ∧ n ≤ 256 ∧ 1 ≤ R ∧ ∀ l ∈ L, l.length = n ∧ rsumA 0 l = R) := by
  show _ ↔ _
  unfold VC
  rw [H0.out, HN.out, HR.out, HM.out]
  constructor
  ·rintro ⟨_, _, a, b, c, d⟩
   exact ⟨a, b, c, d⟩
  ·rintro ⟨a, b, c, d⟩
   exact ⟨by omega, by omega, a, b, c, d⟩
 have HI := Lib.hid hints
 have L1 := made1 w #[.slice (some a0) m cA] 24
 have hkb : Keep (fun _ => False) w (w.alloc (.cells #[.slice (some a0) m cA] 24)) := kp
 have hc1 : (w.alloc (.cells #[.slice (some a0) m cA] 24)).cell? a0 = _ := cell_keep hcell hab id hkb
 clear he hn hR hints
 by_cases h3 : n < 1
 ·have HV : Hid (¬ VC L) := fun h => by have := (HVC.out.1 h).1; omega
  go_enter Tryz.func65, Tryz.ntmps65
  go_wp2_with fail
  go_ret
  exact ⟨Tells.no HV.out, bel⟩
 by_cases h4 : 256 < n
 ·have HV : Hid (¬ VC L) := fun h => by have := (HVC.out.1 h).2.1; omega
  go_enter Tryz.func65, Tryz.ntmps65
  go_wp2_with fail
  go_ret
  exact ⟨Tells.no HV.out, bel⟩
 have HS : Hid (∀ W, Below w.heap.size w W → Loc W w.heap.size 24 #[.slice (some a0) m cA] → W.cell? ⟨w.heap.size, 0, none⟩ = some (.slice (some a0) m cA) ∧ W.cell? a0 = some (.slice D n d)) := fun W hW hL => ⟨Loc.cell hL 0, cell_keep (X := fun _ => False) hcell hab id (.of_below hW)⟩
 go_enter Tryz.func65, Tryz.ntmps65
 go_wp2_with fail
 clear hc1 hkb
 go_loopw [35] (fun i wr => ∃ (c : Nat), c ≤ m ∧ i = .int .i64 c ∧ Hid (∀ i l, i < c → L[i]? = some l → l.length = n ∧ rsumA 0 l = R) ∧ Below w.heap.size w wr ∧ Loc wr w.heap.size 24 #[.slice (some a0) m cA]) (fun i _ => m - (intOf i).toNat)
 case atStart => exact ⟨0, by omega, rfl, Lib.hid (fun i l hi => absurd hi (by omega)), bel, L1⟩
 case round =>
  obtain ⟨c, hc, rfl, hall, hB, LL⟩ := hrel
  obtain ⟨wo, rfl⟩ : ∃ wo : World, wo = wr := ⟨_, rfl⟩
  have y5 := hB.size
  have q5 := LL.lt
  have HBo := Lib.hid hB
  clear L1
  by_cases hlt : c < m
  ·obtain ⟨l, he⟩ : ∃ l, L[c]? = some l := ⟨_, List.getElem?_eq_getElem (by rw [HM.out]; exact hlt)⟩
   obtain ⟨a1, D1, d1, ea, hab1, hcell1, hints1, l5, l6⟩ := (H.out.keep (.of_below hB)).at he
   injection ea with ea
   subst ea
   have HE := Lib.hid he
   have HI1 := Lib.hid hints1
   obtain ⟨n1, hn1⟩ : ∃ n1, l.length = n1 := ⟨_, rfl⟩
   have HN1 := Lib.hid hn1
   rw [hn1] at hcell1 HI1 l5
   have k0 : (0 : Int) ≤ (c : Int) := by omega
   have k1 : (c : Int) < (m : Int) := by omega
   have HLW : Hid (∀ W, Below wo.heap.size wo W → W.cell? ⟨w.heap.size, 0, none⟩ = some (.slice (some a0) m cA) ∧ W.cell? a0 = some (.slice D n d)) := fun W hW => HS.out W (HBo.out.trans (hW.mono y5)) (LL.below hW)
   have HIW : Hid (∀ W, Below wo.heap.size wo W → IntsV W (.slice D n d) l0) := fun W hW => HI.out.keep (.of_below (HBo.out.trans (hW.mono y5)))
   obtain ⟨e1, f1, t1⟩ := LL.all (w' := wo)
   clear he hn1 hints1 hB
   by_cases hne : n1 = n
   ·subst hne
    obtain ⟨R1, hR1⟩ : ∃ R1, rsumA 0 l = R1 := ⟨_, rfl⟩
    have HR1 := Lib.hid hR1
    clear hR1
    by_cases hrr1 : R1 = R
    ·subst hrr1
     have b1 : (R1 != R1) = false := by simp
     go_wp2_with fail
     go_region_held3 (fun W => W.cell? ⟨w.heap.size, 0, none⟩ = some (.slice (some a0) m cA) ∧ W.cell? a0 = some (.slice D n1 d))
      (exact HLW.out _ bel)
      (first
       | (go_at_call_of 29 (Value.slice D1 n1 d1); refine (rowSum_any _ _ l (HI1.out.keep kp)).mono ?_; rintro e u1 ⟨he, hb1⟩; rw [HR1.out] at he; subst he; have y1 := hb1.size; (try simp only [zs] at y1))
       | (go_at_call_of 29 (Value.slice D n1 d); refine (rowSum_any _ _ l0 (HIW.out _ bel)).mono ?_; rintro e u2 ⟨he, hb2⟩; rw [HR.out] at he; subst he; have y2 := hb2.size; (try simp only [zs] at y2)))
     all_goals
      have LZ : Loc u2 w.heap.size _ _ := LL.to
      go_wp2_with fail
      go_roundw
      case rel =>
       refine ⟨c + 1, by omega, by go_num, Lib.hid (fun i l' hi hl' => ?_), HBo.out.trans ((bel : Below wo.heap.size wo _).mono y5), LL.to⟩
       by_cases hic : i < c
       ·exact hall.out i l' hic hl'
       ·obtain rfl : i = c := by omega
        rw [HE.out] at hl'
        injection hl' with hl'
        subst hl'
        exact ⟨HN1.out, HR1.out⟩
      case measure => simp only [intOf]; omega
    ·have HV : Hid (¬ VC L) := fun h => hrr1 (by rw [← HR1.out]; exact ((HVC.out.1 h).2.2.2 l (List.mem_of_getElem? HE.out)).2)
     have b1 : (R1 == R) = false := beq_eq_false_iff_ne.2 hrr1
     have b2 : (R1 != R) = true := bne_iff_ne.2 hrr1
     go_wp2_with fail
     go_region_held3 (fun W => W.cell? ⟨w.heap.size, 0, none⟩ = some (.slice (some a0) m cA) ∧ W.cell? a0 = some (.slice D n1 d))
      (exact HLW.out _ bel)
      (first
       | (go_at_call_of 29 (Value.slice D1 n1 d1); refine (rowSum_any _ _ l (HI1.out.keep kp)).mono ?_; rintro e u1 ⟨he, hb1⟩; rw [HR1.out] at he; subst he; have y1 := hb1.size; (try simp only [zs] at y1))
       | (go_at_call_of 29 (Value.slice D n1 d); refine (rowSum_any _ _ l0 (HIW.out _ bel)).mono ?_; rintro e u2 ⟨he, hb2⟩; rw [HR.out] at he; subst he; have y2 := hb2.size; (try simp only [zs] at y2)))
     all_goals
      go_wp2_with fail
      go_ret
      exact ⟨Tells.no HV.out, HBo.out.trans ((bel : Below wo.heap.size wo _).mono y5)⟩
   ·have HV : Hid (¬ VC L) := fun h => hne (by rw [← HN1.out]; exact ((HVC.out.1 h).2.2.2 l (List.mem_of_getElem? HE.out)).1)
    have b1 : ((n1 : Int) == (n : Int)) = false := beq_eq_false_iff_ne.2 (by omega)
    have b2 : ((n1 : Int) != (n : Int)) = true := bne_iff_ne.2 (by omega)
    go_wp2_with fail
    refine wp_region_noPanic ?_
    refine wp_region_held_drew (S := (fun W => W.cell? ⟨w.heap.size, 0, none⟩ = some (.slice (some a0) m cA) ∧ W.cell? a0 = some (.slice D n d))) (by kernel_rfl) ?_ (fun hHeld => ?_)
    ·exact HLW.out _ bel
    refine takeT 0 hHeld ?_
    (try simp only [Act.put, ly])
    refine takeT 1 hHeld ?_
    (try simp only [Act.put, ly])
    refine takeT 2 hHeld ?_
    (try simp only [Act.put, ly])
    refine takeT 3 hHeld ?_
    (try simp only [Act.put, ly])
    refine takeT 4 hHeld ?_
    (try simp only [Act.put, ly])
    refine takeT 5 hHeld ?_
    (try simp only [Act.put, ly])
    refine takeT 6 hHeld ?_
    (try simp only [Act.put, ly])
    refine takeT 7 hHeld ?_
    (try simp only [Act.put, ly])
    refine takeT 8 hHeld ?_
    (try simp only [Act.put, ly])
    refine offT 9 hHeld ?_
    refine offT 10 hHeld ?_
    refine offT 11 hHeld ?_
    refine offT 12 hHeld ?_
    refine offT 13 hHeld ?_
    refine offT 14 hHeld ?_
    refine offT 15 hHeld ?_
    refine offT 16 hHeld ?_
    (try simp only [Act.put, ly])
    refine takeT 17 hHeld ?_
    (try simp only [Act.put, ly])
    refine wpAnyH_done (by kernel_rfl) ?_ _
    refine NoPanic.normal ?_
    go_wp2_with fail
    go_ret
    exact ⟨Tells.no HV.out, HBo.out.trans ((bel : Below wo.heap.size wo _).mono y5)⟩
  ·obtain rfl : c = m := by omega
   obtain ⟨e1, f1, t1⟩ := LL.all (w' := wo)
   have hc2 : wo.cell? a0 = some (.slice D n d) := (HS.out wo hB LL).2
   clear hB
   go_wp2_with fail
   refine (rowSum_any _ _ l0 (HI.out.keep (.of_below HBo.out))).mono ?_
   rintro e w2 ⟨he, hb2⟩
   rw [HR.out] at he
   subst he
   have hle : R ≤ 1048576 := hrr.2
   by_cases h5 : 1 ≤ R
   ·have HV : Hid (VC L) := HVC.out.2 ⟨by omega, by omega, h5, fun l hl => by
     obtain ⟨i, hi, rfl⟩ := List.mem_iff_getElem.1 hl
     exact hall.out i _ (by rw [← HM.out]; exact hi) (List.getElem?_eq_getElem hi)⟩
    have b1 : decide (1 ≤ R) = true := decide_eq_true h5
    have b2 : decide (R ≤ 1048576) = true := decide_eq_true hle
    go_wp2_with fail
    go_ret
    exact ⟨Tells.yes HV.out, HBo.out.trans (hb2.mono y5)⟩
   ·have HV : Hid (¬ VC L) := fun h => h5 (HVC.out.1 h).2.2.1
    have b1 : decide (1 ≤ R) = false := decide_eq_false h5
    go_wp2_with fail
    go_ret
    exact ⟨Tells.no HV.out, HBo.out.trans (hb2.mono y5)⟩

/- The law's side of layer 40: pair. -/

/- The law's side of layer 40: few. -/

set_option maxHeartbeats 2000000 in
theorem few1_any (w : World) (A : Option Addr) (c : Nat) (l : List Int) :
 Calls Tryz.prog 45 #[.slice A l.length c] w fun e w' => Tells (5 < l.length) e ∧ Below w.heap.size w w' := by
 obtain ⟨n, hn⟩ : ∃ n, l.length = n := ⟨_, rfl⟩
 rw [hn]
 clear hn
 by_cases h : 5 < n
 ·have d1 : decide ((5 : Int) < (n : Int)) = true := decide_eq_true (by omega)
  have H := Lib.hid h
  go_enter Tryz.func45, Tryz.ntmps45
  go_wp2_with fail
  go_ret
  exact ⟨by first | exact Tells.yes H.out | (simp only [d1]; exact Tells.yes H.out), bel⟩
 ·have d1 : decide ((5 : Int) < (n : Int)) = false := decide_eq_false (by omega)
  have H : Hid (¬ 5 < n) := h
  go_enter Tryz.func45, Tryz.ntmps45
  go_wp2_with fail
  go_ret
  exact ⟨by first | exact Tells.no H.out | (simp only [d1]; exact Tells.no H.out), bel⟩
/-- At most 5 rows of at most 5 numbers. -/
def Few40 (L : List (List Int)) : Prop := L.length ≤ 5 ∧ ∀ l ∈ L, l.length ≤ 5
set_option maxHeartbeats 4000000 in
theorem few40_any (w : World) (v0 : Value) (L : List (List Int)) (h : IMat w v0 L) :
 Calls Tryz.prog 14 #[.agg #[v0]] w fun e w' => Tells (Few40 L) e ∧ Below w.heap.size w w' := by
 have H := Lib.hid h
 obtain ⟨A, cA, rfl, h, l1, l2⟩ := h.op
 clear h
 obtain ⟨m, hm⟩ : ∃ m, L.length = m := ⟨_, rfl⟩
 have HM := Lib.hid hm
 rw [hm] at l1 H
 rw [hm]
 clear hm
 by_cases h5 : m ≤ 5
 ·have d1 : decide ((m : Int) ≤ 5) = true := decide_eq_true (by omega)
  have HW := Lib.hid (H.out.keep (kp : Keep (fun _ => False) w (w.alloc (.cells #[.slice A m cA] 24))))
  go_enter Tryz.func14, Tryz.ntmps14
  go_wp2_with fail
  refine (containsI_any _ 45 #[] (fun l => 5 < l.length) _ L HW.out (enters Tryz.func45 (by kernel_rfl) (by kernel_rfl)) (show TellsI _ 45 #[] (fun l => 5 < l.length) L from fun W A c l _ _ _ => few1_any W A c l)).mono ?_
  rintro e w2 ⟨⟨b, rfl, hb⟩, hb2⟩
  cases b
  ·have HV : Hid (Few40 L) := ⟨by rw [HM.out]; exact h5, fun l hl => by
    have : ¬ 5 < l.length := fun hno => by have := hb.out.2 ⟨l, hl, hno⟩; cases this
    omega⟩
   clear hb
   go_wp2_with fail
   go_ret
   exact ⟨Tells.yes HV.out, bel⟩
  ·have HV : Hid (¬ Few40 L) := fun h => by
    obtain ⟨l, hl, hno⟩ := hb.out.1 rfl
    have := h.2 l hl
    omega
   clear hb
   go_wp2_with fail
   go_ret
   exact ⟨Tells.no HV.out, bel⟩
 ·have d1 : decide ((m : Int) ≤ 5) = false := decide_eq_false (by omega)
  have HV : Hid (¬ Few40 L) := fun h => h5 (by rw [← HM.out]; exact h.1)
  go_enter Tryz.func14, Tryz.ntmps14
  go_wp2_with fail
  go_ret
  exact ⟨Tells.no HV.out, bel⟩

/- The law's side of layer 40: equal's inner closure. -/

end Go.Proofs.YtdambnieminnfaaGreat

