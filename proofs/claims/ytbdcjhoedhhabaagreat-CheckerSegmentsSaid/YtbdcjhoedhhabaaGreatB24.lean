/- Contracts of the functions that the statements reach, part 24. -/
import Derived.Test.YtbdcjhoedhhabaaGreatRows
import Derived.Test.YtbdcjhoedhhabaaGreatB23
set_option linter.unusedSimpArgs false
set_option linter.unusedVariables false

/- checker.holds, for any costs. -/
namespace Go.Proofs.YtbdcjhoedhhabaaGreat
open Go.RowKit
attribute [local go_sem ↓] Go.wp_at_zero Go.wp_at_succ

/-- An entry of a table. -/
def ent (L : List (List Int)) (j i : Nat) : Int := (((L[j]?).getD [])[i]?).getD 0
/-- The local conditions of a table. -/
def LocalOk (L : List (List Int)) (m n : Nat) (c : Nat → Nat → Int) : Prop := ∀ j i h : Nat, 1 ≤ j → j < m → i ≤ n → h ≤ i → (1 < j ∨ h = 0) → ent L j i ≤ ent L (j - 1) h + c h i
/-- A table proves a cost. -/
def SegOk (L : List (List Int)) (m n : Nat) (cost : Int) (c : Nat → Nat → Int) : Prop := ent L 0 0 = 0 ∧ cost ≤ ent L (m - 1) n ∧ LocalOk L m n c
/-- The code of what holds or not. -/
def HoCode (P : Prop) (r : Int) : Prop := (P → r = 0) ∧ (¬ P → r = 13)
theorem HoCode.yes {P : Prop} (h : P) : HoCode P 0 := ⟨fun _ => rfl, fun h' => absurd h h'⟩
theorem HoCode.no {P : Prop} (h : ¬ P) : HoCode P 13 := ⟨fun h' => absurd h' h, fun _ => rfl⟩

theorem IMat.entry {w : World} {A : Option Addr} {m cap n : Nat} {L : List (List Int)} (h : IMat w (.slice A m cap) L) (hf : ∀ l ∈ L, (l.length : Int) = (n : Int) + 1) {j i : Nat} (hj : j < L.length) (hi : i ≤ n) :
 ∃ (a a' : Addr) (d : Nat), A = some a ∧ a.block < w.heap.size ∧ a'.block < w.heap.size ∧ w.cell? (a.add j) = some (.slice (some a') (n + 1) d) ∧ w.cell? (a'.add i) = some (.int .i64 (ent L j i)) ∧ n + 1 ≤ d ∧ d ≤ maxLen := by
 have hl : L[j]? = some L[j] := List.getElem?_eq_getElem hj
 have hn := hf L[j] (List.getElem_mem hj)
 obtain ⟨a, B, d, rfl, hab, hcell, hnum, l3, l4⟩ := h.at hl
 have hi2 : i < L[j].length := by omega
 obtain ⟨a', rfl, hab', hc', -, -⟩ := hnum.at (List.getElem?_eq_getElem hi2)
 have e1 : L[j].length = n + 1 := by omega
 have e2 : Go.Proofs.YtbdcjhoedhhabaaGreat.ent L j i = L[j][i] := by unfold Go.Proofs.YtbdcjhoedhhabaaGreat.ent; rw [hl, Option.getD_some, List.getElem?_eq_getElem hi2, Option.getD_some]
 rw [e1] at hcell l3
 refine ⟨a, a', d, rfl, hab, hab', hcell, ?_, l3, l4⟩
 rw [e2]; exact hc'

theorem ent_range {L : List (List Int)} (h : TbRange L) (j i : Nat) : 0 ≤ ent L j i ∧ ent L j i ≤ 1152921504606846976 := by
 unfold ent
 cases hl : L[j]? with
 | none => simp
 | some l =>
   rw [Option.getD_some]
   cases hx : l[i]? with
   | none => simp
   | some x => rw [Option.getD_some]; exact h l (List.mem_of_getElem? hl) x (List.mem_of_getElem? hx)

/-- A function that gives the costs of groups. -/
def Costs (w : World) (F : Nat) (caps : Array Value) (n : Nat) (c : Nat → Nat → Int) : Prop :=
 ∀ (W : World) (h i : Nat), Below w.heap.size w W → h ≤ i → i ≤ n → Calls Tryz.prog F (#[.int .i64 (h : Int), .int .i64 (i : Int)] ++ caps) W fun e w' => e = .returned (.int .i64 (c h i)) ∧ Below W.heap.size W w'

set_option maxRecDepth 100000 in
set_option maxHeartbeats 16000000 in
theorem kholds_any (w : World) (v : Value) (L : List (List Int)) (k cost : Int) (n F : Nat) (caps : Array Value) (c : Nat → Nat → Int) (h : IMat w v L) (hf : TbForm L k n) (hr : TbRange L) (hk : 1 ≤ k) (hk2 : k ≤ 32) (hn : n ≤ 1000) (hen : Enters F) (hF : Costs w F caps n c)
 (hc : ∀ h i, h ≤ i → i ≤ n → -1152921504606846976 ≤ c h i ∧ c h i ≤ 1152921504606846976) :
 Calls Tryz.prog 130 #[v, .int .i64 cost, .func (Fn.func F) #[] caps] w fun e w' => (∃ r : Int, e = .returned (.int .i64 r) ∧ Hid (HoCode (SegOk L L.length n cost c) r)) ∧ Below w.heap.size w w' := by
 have H := Lib.hid h
 have HF := Lib.hid hF
 have HC := Lib.hid hc
 have HR : Hid (∀ j i, 0 ≤ ent L j i ∧ ent L j i ≤ 1152921504606846976) := ent_range hr
 have hen2 : ∀ (args : Array Value) (W : World), (callFunc F args).run Tryz.prog W = .ok (.enter F args) W := hen
 obtain ⟨A, cap, rfl, h, l1, l2⟩ := h.op
 have hf1 := hf.1
 have HROW : Hid (∀ l ∈ L, (l.length : Int) = (n : Int) + 1) := hf.2
 clear hf hr hF hc h
 obtain ⟨m, hm⟩ : ∃ m, L.length = m := ⟨_, rfl⟩
 have HM := Lib.hid hm
 rw [hm] at l1 hf1 ⊢
 have H2 : Hid (IMat w (.slice A m cap) L) := by have h9 := H.out; rw [hm] at h9; exact h9
 clear hm H
 obtain ⟨P, hP⟩ : ∃ P, SegOk L m n cost c = P := ⟨_, rfl⟩
 rw [hP]
 have HP : Hid (P ↔ (ent L 0 0 = 0 ∧ cost ≤ ent L (m - 1) n ∧ LocalOk L m n c)) := by rw [← hP]; exact Iff.rfl
 clear hP
 have hm2 : 2 ≤ m := by omega
 have hm3 : m ≤ 33 := by omega
 clear hf1 hk hk2
 -- the cells
 obtain ⟨a, a0, d0, rfl, hab, ha0, g1, g2, g3, g4⟩ := H2.out.entry HROW.out (j := 0) (i := 0) (by rw [HM.out]; omega) (by omega)
 obtain ⟨a9, a1, d1, ea, -, ha1, g5, g6, g7, g8⟩ := H2.out.entry HROW.out (j := m - 1) (i := n) (by rw [HM.out]; omega) (by omega)
 injection ea with ea
 subst ea
 have HEN : Hid (∀ W, Below w.heap.size w W → ∀ j i, j < m → i ≤ n → ∃ (a' : Addr) (d : Nat), W.cell? (a.add j) = some (.slice (some a') (n + 1) d) ∧ W.cell? (a'.add i) = some (.int .i64 (ent L j i)) ∧ n + 1 ≤ d ∧ d ≤ maxLen) := fun W hW j i hj hi => by
  obtain ⟨a', a'', d, e1, q1, q2, q3, q4, q5, q6⟩ := H2.out.entry HROW.out (j := j) (i := i) (by rw [HM.out]; exact hj) hi
  injection e1 with e1
  subst e1
  exact ⟨a'', d, cell_keep (X := fun _ => False) q3 (by rw [add_block]; exact q1) id (.of_below hW), cell_keep (X := fun _ => False) q4 (by rw [add_block]; exact q2) id (.of_below hW), q5, q6⟩
 rw [add_zero'] at g1 g2
 have p1 : IntKind.i64.wrap ((m : Int) - 1) = ((m - 1 : Nat) : Int) := by rw [IntKind.wrap_i64]; omega
 have p2 : (0 : Int) ≤ ((m - 1 : Nat) : Int) := by omega
 have p3 : ((m - 1 : Nat) : Int) < (m : Int) := by omega
 have p4 : IntKind.i64.wrap (((n + 1 : Nat) : Int) - 1) = (n : Int) := by rw [IntKind.wrap_i64]; omega
 have p5 : (0 : Int) < (m : Int) := by omega
 have p6 : (0 : Int) < ((n + 1 : Nat) : Int) := by omega
 have p7 : (n : Int) < ((n + 1 : Nat) : Int) := by omega
 have p8 : (0 : Int) ≤ (n : Int) := by omega
 obtain ⟨x0, hx0⟩ : ∃ x, ent L 0 0 = x := ⟨_, rfl⟩
 obtain ⟨x1, hx1⟩ : ∃ x, ent L (m - 1) n = x := ⟨_, rfl⟩
 rw [hx0] at g2 HP
 rw [hx1] at g6 HP
 obtain ⟨n1, hn1⟩ : ∃ n1, n + 1 = n1 := ⟨_, rfl⟩
 rw [hn1] at g1 g3 g5 g7 p4 p6 p7
 have HN1 := Lib.hid hn1
 clear hx0 hx1 hn1
 by_cases z0 : x0 = 0
 case neg =>
  have HV : Hid (¬ P) := fun h => z0 (HP.out.1 h).1
  have d1 : (x0 == 0) = false := beq_eq_false_iff_ne.2 z0
  have d2 : (x0 != 0) = true := bne_iff_ne.2 z0
  clear z0
  go_enter Tryz.func130, Tryz.ntmps130
  go_wp2_with fail
  go_ret
  exact ⟨⟨_, rfl, HoCode.no HV.out⟩, bel⟩
 subst z0
 by_cases z1 : x1 < cost
 ·have HV : Hid (¬ P) := fun h => by have := (HP.out.1 h).2.1; omega
  have d1 : decide (x1 < cost) = true := decide_eq_true z1
  go_enter Tryz.func130, Tryz.ntmps130
  go_wp2_with fail
  go_ret
  exact ⟨⟨_, rfl, HoCode.no HV.out⟩, bel⟩
 have d1' : decide (x1 < cost) = false := decide_eq_false z1
 have HP2 : Hid (P ↔ LocalOk L m n c) := by
  rw [HP.out]
  exact ⟨fun h => h.2.2, fun h => ⟨rfl, by omega, h⟩⟩
 have hn1 : n1 ≤ 1001 := by have := HN1.out; omega
 have HB0 : Hid (n1 = n + 1) := HN1.out.symm
 clear z1
 go_enter Tryz.func130, Tryz.ntmps130
 go_wp2_with fail
 clear g1 g2 g5 g6
 go_loopw [36] (fun i wr => ∃ (ci : Nat), ci ≤ n1 ∧ i = .int .i64 ci ∧ Hid (∀ j i h : Nat, 1 ≤ j → j < m → i < ci → h ≤ i → (1 < j ∨ h = 0) → ent L j i ≤ ent L (j - 1) h + c h i) ∧ Below w.heap.size w wr) (fun i _ => n1 - (intOf i).toNat)
 case atStart => exact ⟨0, by omega, rfl, Lib.hid (fun _ i _ _ _ hi => absurd hi (by omega)), bel⟩
 case round =>
  obtain ⟨ci, hci, rfl, hall, hB⟩ := hrel
  obtain ⟨wo, rfl⟩ : ∃ wo : World, wo = wr := ⟨_, rfl⟩
  have y5 := hB.size; (try simp only [zs] at y5)
  by_cases hlt : ci < n1
  ·have k1 : (ci : Int) < (n1 : Int) := by omega
   have k2 : IntKind.i64.wrap ((ci : Int) + 1) = ((ci + 1 : Nat) : Int) := by rw [IntKind.wrap_i64]; omega
   go_wp2_with fail
   go_loopw [41] (fun i wr => ∃ (ch : Nat), ch ≤ ci + 1 ∧ i = .int .i64 ch ∧ Hid (∀ j h : Nat, 1 ≤ j → j < m → h < ch → (1 < j ∨ h = 0) → ent L j ci ≤ ent L (j - 1) h + c h ci) ∧ Below w.heap.size w wr) (fun i _ => (ci + 1) - (intOf i).toNat)
   case atStart => exact ⟨0, by omega, rfl, Lib.hid (fun _ h _ _ hi => absurd hi (by omega)), bel⟩
   case round =>
    obtain ⟨ch, hch, rfl, hall2, hB2⟩ := hrel
    obtain ⟨wp, rfl⟩ : ∃ wp : World, wp = wr := ⟨_, rfl⟩
    have y6 := hB2.size; (try simp only [zs] at y6)
    by_cases hlt2 : ch < ci + 1
    ·have k3 : (ch : Int) < ((ci + 1 : Nat) : Int) := by omega
     go_wp2_with fail
     refine (HF.out _ ch ci hB2 (by omega) (by have := HB0.out; omega)).mono ?_
     rintro e w3 ⟨rfl, hb3⟩
     have y7 := hb3.size; (try simp only [zs] at y7)
     have hcc := HC.out ch ci (by omega) (by have := HB0.out; omega)
     obtain ⟨cc, hcq⟩ : ∃ q, c ch ci = q := ⟨_, rfl⟩
     rw [hcq] at hcc ⊢
     have HCQ := Lib.hid hcq
     clear hcq
     go_wp2_with fail
     go_loopw [11] (fun i wr => ∃ (cj : Nat), 1 ≤ cj ∧ cj ≤ m ∧ i = .int .i64 cj ∧ Hid (∀ j : Nat, 1 ≤ j → j < cj → (1 < j ∨ ch = 0) → ent L j ci ≤ ent L (j - 1) ch + cc) ∧ Below w.heap.size w wr) (fun i _ => m - (intOf i).toNat)
     case atStart => exact ⟨1, by omega, by omega, rfl, Lib.hid (fun _ h1 h2 => absurd h2 (by omega)), bel⟩
     case round =>
      obtain ⟨cj, hcj1, hcj, rfl, hall3, hB3⟩ := hrel
      obtain ⟨wq, rfl⟩ : ∃ wq : World, wq = wr := ⟨_, rfl⟩
      have y8 := hB3.size; (try simp only [zs] at y8)
      by_cases hlt3 : cj < m
      ·have k4 : (cj : Int) < (m : Int) := by omega
       have k5 : IntKind.i64.wrap ((cj : Int) - 1) = ((cj - 1 : Nat) : Int) := by rw [IntKind.wrap_i64]; omega
       have k6 : (0 : Int) ≤ ((cj - 1 : Nat) : Int) := by omega
       have k7 : ((cj - 1 : Nat) : Int) < (m : Int) := by omega
       have k8 : (ch : Int) < (n1 : Int) := by omega
       obtain ⟨b1, e1, r1, r2, r3, r4⟩ := HEN.out wq hB3 cj ci hlt3 (by have := HB0.out; omega)
       obtain ⟨b2, e2, r5, r6, r7, r8⟩ := HEN.out wq hB3 (cj - 1) ch (by omega) (by have := HB0.out; omega)
       rw [← HB0.out] at r1 r3 r5 r7
       have t1 := HR.out cj ci
       have t2 := HR.out (cj - 1) ch
       obtain ⟨u, hu⟩ : ∃ q, ent L cj ci = q := ⟨_, rfl⟩
       obtain ⟨v, hv⟩ : ∃ q, ent L (cj - 1) ch = q := ⟨_, rfl⟩
       rw [hu] at r2 t1
       rw [hv] at r6 t2
       have HU := Lib.hid hu
       have HV := Lib.hid hv
       clear hu hv
       have k9 : IntKind.i64.wrap (v + cc) = v + cc := by rw [IntKind.wrap_i64]; omega
       have HSTEP : Hid ((1 < cj ∨ ch = 0) → u ≤ v + cc → ∀ j : Nat, 1 ≤ j → j < cj + 1 → (1 < j ∨ ch = 0) → ent L j ci ≤ ent L (j - 1) ch + cc) := fun _ hu j h1 h2 h3 => by
        by_cases hj : j < cj
        ·exact hall3.out j h1 hj h3
        ·obtain rfl : j = cj := by omega
         rw [HU.out, HV.out]; exact hu
       by_cases w1 : 1 < cj
       ·have s1 : decide ((1 : Int) < (cj : Int)) = true := decide_eq_true (by omega)
        have s2 : decide (1 < cj) = true := decide_eq_true w1
        by_cases w2 : v + cc < u
        ·have s3 : decide (v + cc < u) = true := decide_eq_true w2
         have HBAD : Hid (¬ P) := fun h => by
          have h9 := HP2.out.1 h cj ci ch hcj1 hlt3 (by have := HB0.out; omega) (by omega) (.inl w1)
          rw [HU.out, HV.out, HCQ.out] at h9
          omega
         clear w1 w2
         go_wp2_with fail
         refine wp_region_noPanic ?_
         refine wp_region_held_drew (S := (fun W => W.cell? (a.add cj) = some (.slice (some b1) n1 e1) ∧ W.cell? (b1.add ci) = some (.int .i64 u) ∧ W.cell? (a.add (cj - 1)) = some (.slice (some b2) n1 e2) ∧ W.cell? (b2.add ch) = some (.int .i64 v))) (by kernel_rfl) ?_ (fun hHeld => ?_)
         ·exact ⟨r1, r2, r5, r6⟩
         refine takeT 0 hHeld ?_
         (try simp only [Act.put, ly])
         refine takeT 1 hHeld ?_
         (try simp only [Act.put, ly])
         refine takeT 2 hHeld ?_
         (try simp only [Act.put, ly])
         refine offT 3 hHeld ?_
         refine offT 4 hHeld ?_
         (try simp only [Act.put, ly])
         refine takeT 5 hHeld ?_
         (try simp only [Act.put, ly])
         refine takeT 6 hHeld ?_
         (try simp only [Act.put, ly])
         refine takeT 7 hHeld ?_
         (try simp only [Act.put, ly])
         refine takeT 8 hHeld ?_
         (try simp only [Act.put, ly])
         refine takeT 9 hHeld ?_
         (try simp only [Act.put, ly])
         refine takeT 10 hHeld ?_
         (try simp only [Act.put, ly])
         refine takeT 11 hHeld ?_
         (try simp only [Act.put, ly])
         refine takeT 12 hHeld ?_
         (try simp only [Act.put, ly])
         refine takeT 13 hHeld ?_
         (try simp only [Act.put, ly])
         refine takeT 14 hHeld ?_
         (try simp only [Act.put, ly])
         refine takeT 15 hHeld ?_
         (try simp only [Act.put, ly])
         refine takeT 16 hHeld ?_
         (try simp only [Act.put, ly])
         refine takeT 17 hHeld ?_
         (try simp only [Act.put, ly])
         refine takeT 18 hHeld ?_
         (try simp only [Act.put, ly])
         refine takeT 19 hHeld ?_
         (try simp only [Act.put, ly])
         refine takeT 20 hHeld ?_
         (try simp only [Act.put, ly])
         refine takeT 21 hHeld ?_
         (try simp only [Act.put, ly])
         refine takeT 22 hHeld ?_
         (try simp only [Act.put, ly])
         refine takeT 23 hHeld ?_
         (try simp only [Act.put, ly])
         refine takeT 24 hHeld ?_
         (try simp only [Act.put, ly])
         refine takeT 25 hHeld ?_
         (try simp only [Act.put, ly])
         refine wpAnyH_done (by kernel_rfl) ?_ _
         refine NoPanic.normal ?_
         go_wp2_with fail
         go_ret
         exact ⟨⟨_, rfl, HoCode.no HBAD.out⟩, bel⟩
        ·have s3 : decide (v + cc < u) = false := decide_eq_false w2
         have HNEXT : Hid (∀ j : Nat, 1 ≤ j → j < cj + 1 → (1 < j ∨ ch = 0) → ent L j ci ≤ ent L (j - 1) ch + cc) := HSTEP.out (.inl w1) (by omega)
         clear w1 w2
         go_wp2_with fail
         refine wp_region_noPanic ?_
         refine wp_region_held_drew (S := (fun W => W.cell? (a.add cj) = some (.slice (some b1) n1 e1) ∧ W.cell? (b1.add ci) = some (.int .i64 u) ∧ W.cell? (a.add (cj - 1)) = some (.slice (some b2) n1 e2) ∧ W.cell? (b2.add ch) = some (.int .i64 v))) (by kernel_rfl) ?_ (fun hHeld => ?_)
         ·exact ⟨r1, r2, r5, r6⟩
         refine takeT 0 hHeld ?_
         (try simp only [Act.put, ly])
         refine takeT 1 hHeld ?_
         (try simp only [Act.put, ly])
         refine takeT 2 hHeld ?_
         (try simp only [Act.put, ly])
         refine offT 3 hHeld ?_
         refine offT 4 hHeld ?_
         (try simp only [Act.put, ly])
         refine takeT 5 hHeld ?_
         (try simp only [Act.put, ly])
         refine takeT 6 hHeld ?_
         (try simp only [Act.put, ly])
         refine takeT 7 hHeld ?_
         (try simp only [Act.put, ly])
         refine takeT 8 hHeld ?_
         (try simp only [Act.put, ly])
         refine takeT 9 hHeld ?_
         (try simp only [Act.put, ly])
         refine takeT 10 hHeld ?_
         (try simp only [Act.put, ly])
         refine takeT 11 hHeld ?_
         (try simp only [Act.put, ly])
         refine takeT 12 hHeld ?_
         (try simp only [Act.put, ly])
         refine takeT 13 hHeld ?_
         (try simp only [Act.put, ly])
         refine takeT 14 hHeld ?_
         (try simp only [Act.put, ly])
         refine takeT 15 hHeld ?_
         (try simp only [Act.put, ly])
         refine takeT 16 hHeld ?_
         (try simp only [Act.put, ly])
         refine takeT 17 hHeld ?_
         (try simp only [Act.put, ly])
         refine takeT 18 hHeld ?_
         (try simp only [Act.put, ly])
         refine takeT 19 hHeld ?_
         (try simp only [Act.put, ly])
         refine takeT 20 hHeld ?_
         (try simp only [Act.put, ly])
         refine takeT 21 hHeld ?_
         (try simp only [Act.put, ly])
         refine takeT 22 hHeld ?_
         (try simp only [Act.put, ly])
         refine takeT 23 hHeld ?_
         (try simp only [Act.put, ly])
         refine takeT 24 hHeld ?_
         (try simp only [Act.put, ly])
         refine takeT 25 hHeld ?_
         (try simp only [Act.put, ly])
         refine wpAnyH_done (by kernel_rfl) ?_ _
         refine NoPanic.normal ?_
         go_wp2_with fail
         go_roundw
         case rel => exact ⟨cj + 1, by omega, by omega, by go_num, HNEXT, bel⟩
         case measure => simp only [intOf]; omega
       ·have s1 : decide ((1 : Int) < (cj : Int)) = false := decide_eq_false (by omega)
        have s2 : decide (1 < cj) = false := decide_eq_false w1
        by_cases w3 : ch = 0
        ·have s4 : ((ch : Int) == 0) = true := beq_iff_eq.2 (by omega)
         by_cases w2 : v + cc < u
         ·have s3 : decide (v + cc < u) = true := decide_eq_true w2
          have HBAD : Hid (¬ P) := fun h => by
           have h9 := HP2.out.1 h cj ci ch hcj1 hlt3 (by have := HB0.out; omega) (by omega) (.inr w3)
           rw [HU.out, HV.out, HCQ.out] at h9
           omega
          clear w1 w2 w3
          go_wp2_with fail
          refine wp_region_noPanic ?_
          refine wp_region_held_drew (S := (fun W => W.cell? (a.add cj) = some (.slice (some b1) n1 e1) ∧ W.cell? (b1.add ci) = some (.int .i64 u) ∧ W.cell? (a.add (cj - 1)) = some (.slice (some b2) n1 e2) ∧ W.cell? (b2.add ch) = some (.int .i64 v))) (by kernel_rfl) ?_ (fun hHeld => ?_)
          ·exact ⟨r1, r2, r5, r6⟩
          refine takeT 0 hHeld ?_
          (try simp only [Act.put, ly])
          refine takeT 1 hHeld ?_
          (try simp only [Act.put, ly])
          refine takeT 2 hHeld ?_
          (try simp only [Act.put, ly])
          refine takeT 3 hHeld ?_
          (try simp only [Act.put, ly])
          refine takeT 4 hHeld ?_
          (try simp only [Act.put, ly])
          refine takeT 5 hHeld ?_
          (try simp only [Act.put, ly])
          refine takeT 6 hHeld ?_
          (try simp only [Act.put, ly])
          refine takeT 7 hHeld ?_
          (try simp only [Act.put, ly])
          refine takeT 8 hHeld ?_
          (try simp only [Act.put, ly])
          refine takeT 9 hHeld ?_
          (try simp only [Act.put, ly])
          refine takeT 10 hHeld ?_
          (try simp only [Act.put, ly])
          refine takeT 11 hHeld ?_
          (try simp only [Act.put, ly])
          refine takeT 12 hHeld ?_
          (try simp only [Act.put, ly])
          refine takeT 13 hHeld ?_
          (try simp only [Act.put, ly])
          refine takeT 14 hHeld ?_
          (try simp only [Act.put, ly])
          refine takeT 15 hHeld ?_
          (try simp only [Act.put, ly])
          refine takeT 16 hHeld ?_
          (try simp only [Act.put, ly])
          refine takeT 17 hHeld ?_
          (try simp only [Act.put, ly])
          refine takeT 18 hHeld ?_
          (try simp only [Act.put, ly])
          refine takeT 19 hHeld ?_
          (try simp only [Act.put, ly])
          refine takeT 20 hHeld ?_
          (try simp only [Act.put, ly])
          refine takeT 21 hHeld ?_
          (try simp only [Act.put, ly])
          refine takeT 22 hHeld ?_
          (try simp only [Act.put, ly])
          refine takeT 23 hHeld ?_
          (try simp only [Act.put, ly])
          refine takeT 24 hHeld ?_
          (try simp only [Act.put, ly])
          refine takeT 25 hHeld ?_
          (try simp only [Act.put, ly])
          refine wpAnyH_done (by kernel_rfl) ?_ _
          refine NoPanic.normal ?_
          go_wp2_with fail
          go_ret
          exact ⟨⟨_, rfl, HoCode.no HBAD.out⟩, bel⟩
         ·have s3 : decide (v + cc < u) = false := decide_eq_false w2
          have HNEXT : Hid (∀ j : Nat, 1 ≤ j → j < cj + 1 → (1 < j ∨ ch = 0) → ent L j ci ≤ ent L (j - 1) ch + cc) := HSTEP.out (.inr w3) (by omega)
          clear w1 w2 w3
          go_wp2_with fail
          refine wp_region_noPanic ?_
          refine wp_region_held_drew (S := (fun W => W.cell? (a.add cj) = some (.slice (some b1) n1 e1) ∧ W.cell? (b1.add ci) = some (.int .i64 u) ∧ W.cell? (a.add (cj - 1)) = some (.slice (some b2) n1 e2) ∧ W.cell? (b2.add ch) = some (.int .i64 v))) (by kernel_rfl) ?_ (fun hHeld => ?_)
          ·exact ⟨r1, r2, r5, r6⟩
          refine takeT 0 hHeld ?_
          (try simp only [Act.put, ly])
          refine takeT 1 hHeld ?_
          (try simp only [Act.put, ly])
          refine takeT 2 hHeld ?_
          (try simp only [Act.put, ly])
          refine takeT 3 hHeld ?_
          (try simp only [Act.put, ly])
          refine takeT 4 hHeld ?_
          (try simp only [Act.put, ly])
          refine takeT 5 hHeld ?_
          (try simp only [Act.put, ly])
          refine takeT 6 hHeld ?_
          (try simp only [Act.put, ly])
          refine takeT 7 hHeld ?_
          (try simp only [Act.put, ly])
          refine takeT 8 hHeld ?_
          (try simp only [Act.put, ly])
          refine takeT 9 hHeld ?_
          (try simp only [Act.put, ly])
          refine takeT 10 hHeld ?_
          (try simp only [Act.put, ly])
          refine takeT 11 hHeld ?_
          (try simp only [Act.put, ly])
          refine takeT 12 hHeld ?_
          (try simp only [Act.put, ly])
          refine takeT 13 hHeld ?_
          (try simp only [Act.put, ly])
          refine takeT 14 hHeld ?_
          (try simp only [Act.put, ly])
          refine takeT 15 hHeld ?_
          (try simp only [Act.put, ly])
          refine takeT 16 hHeld ?_
          (try simp only [Act.put, ly])
          refine takeT 17 hHeld ?_
          (try simp only [Act.put, ly])
          refine takeT 18 hHeld ?_
          (try simp only [Act.put, ly])
          refine takeT 19 hHeld ?_
          (try simp only [Act.put, ly])
          refine takeT 20 hHeld ?_
          (try simp only [Act.put, ly])
          refine takeT 21 hHeld ?_
          (try simp only [Act.put, ly])
          refine takeT 22 hHeld ?_
          (try simp only [Act.put, ly])
          refine takeT 23 hHeld ?_
          (try simp only [Act.put, ly])
          refine takeT 24 hHeld ?_
          (try simp only [Act.put, ly])
          refine takeT 25 hHeld ?_
          (try simp only [Act.put, ly])
          refine wpAnyH_done (by kernel_rfl) ?_ _
          refine NoPanic.normal ?_
          go_wp2_with fail
          go_roundw
          case rel => exact ⟨cj + 1, by omega, by omega, by go_num, HNEXT, bel⟩
          case measure => simp only [intOf]; omega
        ·have s4 : ((ch : Int) == 0) = false := beq_eq_false_iff_ne.2 (by omega)
         have HNEXT : Hid (∀ j : Nat, 1 ≤ j → j < cj + 1 → (1 < j ∨ ch = 0) → ent L j ci ≤ ent L (j - 1) ch + cc) := fun j h1 h2 h3 => by
          rcases h3 with h3 | h3
          ·omega
          ·exact absurd h3 w3
         clear w1 w3
         go_wp2_with fail
         refine wp_region_noPanic ?_
         refine wp_region_held_drew (S := (fun W => W.cell? (a.add cj) = some (.slice (some b1) n1 e1) ∧ W.cell? (b1.add ci) = some (.int .i64 u) ∧ W.cell? (a.add (cj - 1)) = some (.slice (some b2) n1 e2) ∧ W.cell? (b2.add ch) = some (.int .i64 v))) (by kernel_rfl) ?_ (fun hHeld => ?_)
         ·exact ⟨r1, r2, r5, r6⟩
         refine takeT 0 hHeld ?_
         (try simp only [Act.put, ly])
         refine takeT 1 hHeld ?_
         (try simp only [Act.put, ly])
         refine takeT 2 hHeld ?_
         (try simp only [Act.put, ly])
         refine takeT 3 hHeld ?_
         (try simp only [Act.put, ly])
         refine takeT 4 hHeld ?_
         (try simp only [Act.put, ly])
         refine takeT 5 hHeld ?_
         (try simp only [Act.put, ly])
         refine takeT 6 hHeld ?_
         (try simp only [Act.put, ly])
         refine offT 7 hHeld ?_
         refine offT 8 hHeld ?_
         refine offT 9 hHeld ?_
         refine offT 10 hHeld ?_
         refine offT 11 hHeld ?_
         refine offT 12 hHeld ?_
         refine offT 13 hHeld ?_
         refine offT 14 hHeld ?_
         refine offT 15 hHeld ?_
         refine offT 16 hHeld ?_
         refine offT 17 hHeld ?_
         refine offT 18 hHeld ?_
         refine offT 19 hHeld ?_
         refine offT 20 hHeld ?_
         refine offT 21 hHeld ?_
         refine offT 22 hHeld ?_
         refine offT 23 hHeld ?_
         refine offT 24 hHeld ?_
         (try simp only [Act.put, ly])
         refine takeT 25 hHeld ?_
         (try simp only [Act.put, ly])
         refine wpAnyH_done (by kernel_rfl) ?_ _
         refine NoPanic.normal ?_
         go_wp2_with fail
         go_roundw
         case rel => exact ⟨cj + 1, by omega, by omega, by go_num, HNEXT, bel⟩
         case measure => simp only [intOf]; omega
      ·obtain rfl : cj = m := by omega
       have HNEXT : Hid (∀ j h : Nat, 1 ≤ j → j < cj → h < ch + 1 → (1 < j ∨ h = 0) → ent L j ci ≤ ent L (j - 1) h + c h ci) := fun j h h1 h2 h3 h4 => by
        by_cases hh : h < ch
        ·exact hall2.out j h h1 h2 hh h4
        ·obtain rfl : h = ch := by omega
         rw [HCQ.out]; exact hall3.out j h1 h2 h4
       go_wp2_with fail
       go_roundw
       case rel => exact ⟨ch + 1, by omega, by go_num, HNEXT, bel⟩
       case measure => simp only [intOf]; omega
    ·obtain rfl : ch = ci + 1 := by omega
     have HNEXT : Hid (∀ j i h : Nat, 1 ≤ j → j < m → i < ci + 1 → h ≤ i → (1 < j ∨ h = 0) → ent L j i ≤ ent L (j - 1) h + c h i) := fun j i h h1 h2 h3 h4 h5 => by
      by_cases hh : i < ci
      ·exact hall.out j i h h1 h2 hh h4 h5
      ·obtain rfl : i = ci := by omega
       exact hall2.out j h h1 h2 (by omega) h5
     go_wp2_with fail
     go_roundw
     case rel => exact ⟨ci + 1, by omega, by go_num, HNEXT, bel⟩
     case measure => simp only [intOf]; omega
  ·obtain rfl : ci = n1 := by omega
   have HV : Hid P := HP2.out.2 fun j i h h1 h2 h3 h4 h5 => hall.out j i h h1 h2 (by have := HB0.out; omega) h4 h5
   go_wp2_with fail
   go_ret
   exact ⟨⟨_, rfl, HoCode.yes HV.out⟩, hB⟩
end Go.Proofs.YtbdcjhoedhhabaaGreat

