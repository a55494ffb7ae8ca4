/- Contracts of the functions that the statements reach, part 30. -/
import Derived.Test.YtbdcjhoedhhabaaGreatRows
import Derived.Test.YtbdcjhoedhhabaaGreatB28
import Derived.Test.YtbdcjhoedhhabaaGreatB29
set_option linter.unusedSimpArgs false
set_option linter.unusedVariables false

/- bucket.holds. Printed by gen18.py. -/
namespace Go.Proofs.YtbdcjhoedhhabaaGreat
open Go.RowKit
attribute [local go_sem ↓] Go.wp_at_zero Go.wp_at_succ

set_option maxRecDepth 100000 in
set_option maxHeartbeats 16000000 in
theorem bholds_any (w : World) (al : Addr) (n cap0 : Nat) (l : List (Int × Int)) (u : Value) (L : List (List Int)) (k : Int) (hl : Tims w (.slice (some al) n cap0) l) (hml : l.length = n) (hb : BSmall l) (h : IMat w u L) (hf : TbForm L k n) (hr : TbRange L) (hk : 1 ≤ k) (hk2 : k ≤ 32) :
 Calls Tryz.prog 133 #[.slice (some al) n cap0, u] w fun e w' => Tells (ent L 0 0 = 0 ∧ LocalOk L L.length n (bc l)) e ∧ Below w.heap.size w w' := by
 have H := Lib.hid h
 have HL := Lib.hid hl
 have HML := Lib.hid hml
 have HBS := Lib.hid hb
 have hn : n ≤ 64 := by have := hb.1; omega
 have HR : Hid (∀ j i, 0 ≤ ent L j i ∧ ent L j i ≤ 1152921504606846976) := ent_range hr
 have HC : Hid (∀ h i, -281474976710656 ≤ bc l h i ∧ bc l h i ≤ 281474976710656) := bc_range hb
 obtain ⟨A, cap, rfl, h, l1, l2⟩ := h.op
 have hf1 := hf.1
 have HROW : Hid (∀ l ∈ L, (l.length : Int) = (n : Int) + 1) := hf.2
 clear hf hr h hl hb hml
 obtain ⟨m, hm⟩ : ∃ m, L.length = m := ⟨_, rfl⟩
 have HM := Lib.hid hm
 rw [hm] at l1 hf1 ⊢
 have H2 : Hid (IMat w (.slice A m cap) L) := by have h9 := H.out; rw [hm] at h9; exact h9
 clear hm H
 have hm2 : 2 ≤ m := by omega
 have hm3 : m ≤ 33 := by omega
 clear hf1 hk hk2
 obtain ⟨P, hP⟩ : ∃ P, (ent L 0 0 = 0 ∧ LocalOk L m n (bc l)) = P := ⟨_, rfl⟩
 rw [hP]
 have HP : Hid (P ↔ (ent L 0 0 = 0 ∧ LocalOk L m n (bc l))) := by rw [← hP]; exact Iff.rfl
 clear hP
 obtain ⟨a, a0, d0, rfl, hab, ha0, g1, g2, g3, g4⟩ := H2.out.entry HROW.out (j := 0) (i := 0) (by rw [HM.out]; omega) (by omega)
 have HEN : Hid (∀ j i, j < m → i ≤ n → ∃ (a' : Addr) (d : Nat), (∀ W, Below w.heap.size w W → W.cell? (a.add j) = some (.slice (some a') (n + 1) d) ∧ W.cell? (a'.add i) = some (.int .i64 (ent L j i))) ∧ n + 1 ≤ d ∧ d ≤ maxLen) := fun j i hj hi => by
  obtain ⟨a', a'', d, e1, q1, q2, q3, q4, q5, q6⟩ := H2.out.entry HROW.out (j := j) (i := i) (by rw [HM.out]; exact hj) hi
  injection e1 with e1
  subst e1
  exact ⟨a'', d, fun W hW => ⟨cell_keep (X := fun _ => False) q3 (by rw [add_block]; exact q1) id (.of_below hW), cell_keep (X := fun _ => False) q4 (by rw [add_block]; exact q2) id (.of_below hW)⟩, q5, q6⟩
 rw [add_zero'] at g1 g2
 have p5 : (0 : Int) < (m : Int) := by omega
 have p6 : (0 : Int) < ((n + 1 : Nat) : Int) := by omega
 obtain ⟨x0, hx0⟩ : ∃ x, ent L 0 0 = x := ⟨_, rfl⟩
 rw [hx0] at g2 HP
 obtain ⟨n1, hn1⟩ : ∃ n1, n + 1 = n1 := ⟨_, rfl⟩
 rw [hn1] at g1 g3 p6
 have HB0 : Hid (n1 = n + 1) := hn1.symm
 have hn1001 : n1 ≤ 1001 := by omega
 clear hx0 hn1
 by_cases z0 : x0 = 0
 case neg =>
  have HV : Hid (¬ P) := fun h => z0 (HP.out.1 h).1
  have d1 : (x0 == 0) = false := beq_eq_false_iff_ne.2 z0
  have d2 : (x0 != 0) = true := bne_iff_ne.2 z0
  clear z0
  go_enter Tryz.func133, Tryz.ntmps133
  go_wp2_with fail
  go_ret
  exact ⟨Tells.no HV.out, bel⟩
 subst z0
 have HP2 : Hid (P ↔ LocalOk L m n (bc l)) := by
  rw [HP.out]
  exact ⟨fun h => h.2, fun h => ⟨rfl, h⟩⟩
 go_enter Tryz.func133, Tryz.ntmps133
 go_wp2_with fail
 refine (bgroup_any _ al n cap0 l (HL.out.keep kp) HML.out HBS.out).mono ?_
 rintro e w1 ⟨⟨q1, q3, q4, qw, qp, rfl, hG⟩, hb1⟩
 have y1 := hb1.size; (try simp only [zs] at y1)
 have HF : Hid (Costs w1 366 #[.pointer (some ⟨q1, 0, none⟩), .pointer (some ⟨q3, 0, none⟩), .pointer (some ⟨q4, 0, none⟩)] n (bc l)) := fun W h i hW hh hi => bgroup1_any W al n cap0 q1 q3 q4 qw qp l h i (hG.out.keep (.of_below hW)) (HL.out.keep kp) HML.out HBS.out hh hi
 have hen2 : ∀ (args : Array Value) (W : World), (callFunc 366 args).run Tryz.prog W = .ok (.enter 366 args) W := enters Tryz.func366 (by kernel_rfl) (by kernel_rfl)
 have HB1 : Hid (Below w.heap.size w w1) := by show Below _ _ _; exact bel
 clear g1 g2 g3 g4 hG p5 p6
 go_wp2_with fail
 go_loopw [6] (fun i wr => ∃ (cj : Nat), 1 ≤ cj ∧ cj ≤ m ∧ i = .int .i64 cj ∧ Hid (∀ j i h : Nat, 1 ≤ j → j < cj → i ≤ n → h ≤ i → (1 < j ∨ h = 0) → ent L j i ≤ ent L (j - 1) h + bc l h i) ∧ Below w1.heap.size w1 wr) (fun i _ => m - (intOf i).toNat)
 case atStart => exact ⟨1, by omega, by omega, rfl, Lib.hid (fun j _ _ h1 h2 => absurd h2 (by omega)), bel⟩
 case round =>
  obtain ⟨cj, hcj1, hcj, rfl, hall, hB⟩ := hrel
  obtain ⟨wo, rfl⟩ : ∃ wo : World, wo = wr := ⟨_, rfl⟩
  have y5 := hB.size; (try simp only [zs] at y5)
  by_cases hlt : cj < m
  ·have k1 : (cj : Int) < (m : Int) := by omega
   obtain ⟨b0, e0, r0, r9, r10⟩ := HEN.out cj 0 hlt (by omega)
   have r0 := (r0 wo (HB1.out.trans (hB.mono (by omega)))).1
   rw [← HB0.out] at r0 r9
   go_wp2_with fail
   clear r0
   go_loopw [28] (fun i wr => ∃ (ci : Nat), ci ≤ n1 ∧ i = .int .i64 ci ∧ Hid (∀ i h : Nat, i < ci → h ≤ i → (1 < cj ∨ h = 0) → ent L cj i ≤ ent L (cj - 1) h + bc l h i) ∧ Below w1.heap.size w1 wr) (fun i _ => n1 - (intOf i).toNat)
   case atStart => exact ⟨0, by omega, rfl, Lib.hid (fun _ _ hi => absurd hi (by omega)), bel⟩
   case round =>
    obtain ⟨ci, hci, rfl, hall2, hB2⟩ := hrel
    obtain ⟨wp, rfl⟩ : ∃ wp : World, wp = wr := ⟨_, rfl⟩
    have y6 := hB2.size; (try simp only [zs] at y6)
    by_cases hlt2 : ci < n1
    ·have k3 : (ci : Int) < (n1 : Int) := by omega
     have k2 : IntKind.i64.wrap ((ci : Int) + 1) = ((ci + 1 : Nat) : Int) := by rw [IntKind.wrap_i64]; omega
     go_wp2_with fail
     go_loopw [33] (fun i wr => ∃ (ch : Nat), ch ≤ ci + 1 ∧ i = .int .i64 ch ∧ Hid (∀ h : Nat, h < ch → (1 < cj ∨ h = 0) → ent L cj ci ≤ ent L (cj - 1) h + bc l h ci) ∧ Below w1.heap.size w1 wr) (fun i _ => ci + 1 - (intOf i).toNat)
     case atStart => exact ⟨0, by omega, rfl, Lib.hid (fun _ h => absurd h (by omega)), bel⟩
     case round =>
      obtain ⟨ch, hch, rfl, hall3, hB3⟩ := hrel
      obtain ⟨wq, rfl⟩ : ∃ wq : World, wq = wr := ⟨_, rfl⟩
      have y8 := hB3.size; (try simp only [zs] at y8)
      by_cases z0 : ch < ci + 1
      case neg =>
       obtain rfl : ch = ci + 1 := by omega
       have HNX : Hid (∀ i h : Nat, i < ci + 1 → h ≤ i → (1 < cj ∨ h = 0) → ent L cj i ≤ ent L (cj - 1) h + bc l h i) := fun i h h1 h2 h3 => by
        by_cases hh : i < ci
        ·exact hall2.out i h hh h2 h3
        ·obtain rfl : i = ci := by omega
         exact hall3.out h (by omega) h3
       clear z0
       go_wp2_with fail
       go_roundw
       case rel => exact ⟨ci + 1, by omega, by go_num, HNX, bel⟩
       case measure => simp only [intOf]; omega
      have k4 : (ch : Int) < ((ci + 1 : Nat) : Int) := by omega
      obtain ⟨b1, e1, RR, r3, r4⟩ := HEN.out cj ci hlt (by have := HB0.out; omega)
      obtain ⟨b2, e2, RS, r7, r8⟩ := HEN.out (cj - 1) ch (by omega) (by have := HB0.out; omega)
      have t1 := HR.out cj ci
      have t2 := HR.out (cj - 1) ch
      have t3 := HC.out ch ci
      obtain ⟨u, hu⟩ : ∃ q, ent L cj ci = q := ⟨_, rfl⟩
      obtain ⟨v, hv⟩ : ∃ q, ent L (cj - 1) ch = q := ⟨_, rfl⟩
      obtain ⟨cc, hcc⟩ : ∃ q, bc l ch ci = q := ⟨_, rfl⟩
      have HSS : Hid (∀ W, Below w1.heap.size w1 W → (W.cell? (a.add cj) = some (.slice (some b1) n1 e1) ∧ W.cell? (b1.add ci) = some (.int .i64 u)) ∧ W.cell? (a.add (cj - 1)) = some (.slice (some b2) n1 e2) ∧ W.cell? (b2.add ch) = some (.int .i64 v)) := fun W hW => by
       have hw : Below w.heap.size w W := HB1.out.trans (hW.mono (by omega))
       have h1 := RR W hw
       have h2 := RS W hw
       rw [← HB0.out, hu] at h1
       rw [← HB0.out, hv] at h2
       exact ⟨h1, h2⟩
      rw [← HB0.out] at r3 r7
      rw [hu] at t1
      rw [hv] at t2
      rw [hcc] at t3
      have HU := Lib.hid hu
      have HV := Lib.hid hv
      have HCC := Lib.hid hcc
      clear hu hv hcc RR RS
      have k5 : IntKind.i64.wrap ((cj : Int) - 1) = ((cj - 1 : Nat) : Int) := by rw [IntKind.wrap_i64]; omega
      have k6 : (0 : Int) ≤ ((cj - 1 : Nat) : Int) := by omega
      have k7 : ((cj - 1 : Nat) : Int) < (m : Int) := by omega
      have k8 : (ch : Int) < (n1 : Int) := by omega
      have k9 : IntKind.i64.wrap (v + cc) = v + cc := by rw [IntKind.wrap_i64]; omega
      have HB3 := Lib.hid hB3
      have HBAD : Hid ((1 < cj ∨ ch = 0) → v + cc < u → ¬ P) := fun hq hvu h => by
       have h9 := HP2.out.1 h cj ci ch hcj1 hlt (by have := HB0.out; omega) (by omega) hq
       rw [HU.out, HV.out, HCC.out] at h9
       omega
      have HNEXT : Hid (¬ ((1 < cj ∨ ch = 0) ∧ v + cc < u) → ∀ h : Nat, h < ch + 1 → (1 < cj ∨ h = 0) → ent L cj ci ≤ ent L (cj - 1) h + bc l h ci) := fun hvu h h1 h3 => by
       by_cases hh : h < ch
       ·exact hall3.out h hh h3
       ·obtain rfl : h = ch := by omega
        rw [HU.out, HV.out, HCC.out]
        have : ¬ v + cc < u := fun h => hvu ⟨h3, h⟩
        omega
      by_cases z1 : 1 < cj
      ·have d2 : decide ((1 : Int) < (cj : Int)) = true := decide_eq_true (by omega)
       have d2' : decide (1 < cj) = true := decide_eq_true z1
       by_cases z2 : v + cc < u
       ·have d3 : decide (v + cc < u) = true := decide_eq_true z2
        have HE := Lib.hid (HBAD.out (.inl z1) z2)
        clear z2 z1
        go_wp2_with fail
        refine wp_region_noPanic ?_
        refine wp_region_held_drew (S := (fun W => (W.cell? (a.add cj) = some (.slice (some b1) n1 e1) ∧ W.cell? (b1.add ci) = some (.int .i64 u)) ∧ W.cell? (a.add (cj - 1)) = some (.slice (some b2) n1 e2) ∧ W.cell? (b2.add ch) = some (.int .i64 v))) (by kernel_rfl) ?_ (fun hHeld => ?_)
        ·exact HSS.out _ bel
        refine takeT 0 hHeld ?_
        (try simp only [Act.put, ly])
        refine takeT 1 hHeld ?_
        (try simp only [Act.put, ly])
        refine takeT 2 hHeld ?_
        (try simp only [Act.put, ly])
        refine offT 3 hHeld ?_
        refine offT 4 hHeld ?_
        (try simp only [Act.put, ly])
        refine takeT 5 hHeld ?_
        (try simp only [Act.put, ly])
        refine takeT 6 hHeld ?_
        (try simp only [Act.put, ly])
        refine takeT 7 hHeld ?_
        (try simp only [Act.put, ly])
        refine takeT 8 hHeld ?_
        (try simp only [Act.put, ly])
        refine takeT 9 hHeld ?_
        (try simp only [Act.put, ly])
        refine takeT 10 hHeld ?_
        (try simp only [Act.put, ly])
        refine takeT 11 hHeld ?_
        (try simp only [Act.put, ly])
        refine takeT 12 hHeld ?_
        (try simp only [Act.put, ly])
        refine takeT 13 hHeld ?_
        (try simp only [Act.put, ly])
        refine takeT 14 hHeld ?_
        (try simp only [Act.put, ly])
        refine takeT 15 hHeld ?_
        (try simp only [Act.put, ly])
        refine takeT 16 hHeld ?_
        (try simp only [Act.put, ly])
        refine takeT 17 hHeld ?_
        (try simp only [Act.put, ly])
        refine takeT 18 hHeld ?_
        (try simp only [Act.put, ly])
        refine takeT 19 hHeld ?_
        (try simp only [Act.put, ly])
        refine takeT 20 hHeld ?_
        (try simp only [Act.put, ly])
        refine takeT 21 hHeld ?_
        (try simp only [Act.put, ly])
        refine takeT 22 hHeld ?_
        (try simp only [Act.put, ly])
        refine takeT 23 hHeld ?_
        (try simp only [Act.put, ly])
        refine takeT 24 hHeld ?_
        (try simp only [Act.put, ly])
        refine wpAnyH_ready (rs := [25]) (by kernel_rfl) (by simp) ?_
        refine AllReadyH.cons rfl (fun K hK => ?_) AllReadyH.nil
        go_simp
        refine (HF.out _ ch ci bel (by omega) (by have := HB0.out; omega)).mono ?_
        rintro e w3 ⟨he, hb3⟩
        rw [HCC.out] at he
        subst he
        have y9 := hb3.size; (try simp only [zs] at y9)
        (try go_wp2_with fail)
        refine hK.out _ _ ?_ (fun hHeld => ?_)
        ·(try dsimp only)
         exact HSS.out _ bel
        clear hK K
        (try simp only [Act.put, ly])
        refine takeT 26 hHeld ?_
        (try simp only [Act.put, ly])
        refine takeT 27 hHeld ?_
        (try simp only [Act.put, ly])
        refine takeT 28 hHeld ?_
        (try simp only [Act.put, ly])
        refine wpAnyH_done (by kernel_rfl) ?_ _
        refine NoPanic.normal ?_
        go_wp2_with fail
        go_ret
        exact ⟨Tells.no HE.out, bel⟩
       ·have d3 : decide (v + cc < u) = false := decide_eq_false z2
        have HNX := Lib.hid (HNEXT.out (fun h => z2 h.2))
        clear z2 z1
        go_wp2_with fail
        refine wp_region_noPanic ?_
        refine wp_region_held_drew (S := (fun W => (W.cell? (a.add cj) = some (.slice (some b1) n1 e1) ∧ W.cell? (b1.add ci) = some (.int .i64 u)) ∧ W.cell? (a.add (cj - 1)) = some (.slice (some b2) n1 e2) ∧ W.cell? (b2.add ch) = some (.int .i64 v))) (by kernel_rfl) ?_ (fun hHeld => ?_)
        ·exact HSS.out _ bel
        refine takeT 0 hHeld ?_
        (try simp only [Act.put, ly])
        refine takeT 1 hHeld ?_
        (try simp only [Act.put, ly])
        refine takeT 2 hHeld ?_
        (try simp only [Act.put, ly])
        refine offT 3 hHeld ?_
        refine offT 4 hHeld ?_
        (try simp only [Act.put, ly])
        refine takeT 5 hHeld ?_
        (try simp only [Act.put, ly])
        refine takeT 6 hHeld ?_
        (try simp only [Act.put, ly])
        refine takeT 7 hHeld ?_
        (try simp only [Act.put, ly])
        refine takeT 8 hHeld ?_
        (try simp only [Act.put, ly])
        refine takeT 9 hHeld ?_
        (try simp only [Act.put, ly])
        refine takeT 10 hHeld ?_
        (try simp only [Act.put, ly])
        refine takeT 11 hHeld ?_
        (try simp only [Act.put, ly])
        refine takeT 12 hHeld ?_
        (try simp only [Act.put, ly])
        refine takeT 13 hHeld ?_
        (try simp only [Act.put, ly])
        refine takeT 14 hHeld ?_
        (try simp only [Act.put, ly])
        refine takeT 15 hHeld ?_
        (try simp only [Act.put, ly])
        refine takeT 16 hHeld ?_
        (try simp only [Act.put, ly])
        refine takeT 17 hHeld ?_
        (try simp only [Act.put, ly])
        refine takeT 18 hHeld ?_
        (try simp only [Act.put, ly])
        refine takeT 19 hHeld ?_
        (try simp only [Act.put, ly])
        refine takeT 20 hHeld ?_
        (try simp only [Act.put, ly])
        refine takeT 21 hHeld ?_
        (try simp only [Act.put, ly])
        refine takeT 22 hHeld ?_
        (try simp only [Act.put, ly])
        refine takeT 23 hHeld ?_
        (try simp only [Act.put, ly])
        refine takeT 24 hHeld ?_
        (try simp only [Act.put, ly])
        refine wpAnyH_ready (rs := [25]) (by kernel_rfl) (by simp) ?_
        refine AllReadyH.cons rfl (fun K hK => ?_) AllReadyH.nil
        go_simp
        refine (HF.out _ ch ci bel (by omega) (by have := HB0.out; omega)).mono ?_
        rintro e w3 ⟨he, hb3⟩
        rw [HCC.out] at he
        subst he
        have y9 := hb3.size; (try simp only [zs] at y9)
        (try go_wp2_with fail)
        refine hK.out _ _ ?_ (fun hHeld => ?_)
        ·(try dsimp only)
         exact HSS.out _ bel
        clear hK K
        (try simp only [Act.put, ly])
        refine takeT 26 hHeld ?_
        (try simp only [Act.put, ly])
        refine takeT 27 hHeld ?_
        (try simp only [Act.put, ly])
        refine takeT 28 hHeld ?_
        (try simp only [Act.put, ly])
        refine wpAnyH_done (by kernel_rfl) ?_ _
        refine NoPanic.normal ?_
        go_wp2_with fail
        go_roundw
        case rel => exact ⟨ch + 1, by omega, by go_num, HNX, bel⟩
        case measure => simp only [intOf]; omega
      ·have d2 : decide ((1 : Int) < (cj : Int)) = false := decide_eq_false (by omega)
       have d2' : decide (1 < cj) = false := decide_eq_false z1
       by_cases z3 : ch = 0
       ·have d4 : ((ch : Int) == 0) = true := beq_iff_eq.2 (by omega)
        by_cases z2 : v + cc < u
        ·have d3 : decide (v + cc < u) = true := decide_eq_true z2
         have HE := Lib.hid (HBAD.out (.inr z3) z2)
         clear z2 z1 z3
         go_wp2_with fail
         refine wp_region_noPanic ?_
         refine wp_region_held_drew (S := (fun W => (W.cell? (a.add cj) = some (.slice (some b1) n1 e1) ∧ W.cell? (b1.add ci) = some (.int .i64 u)) ∧ W.cell? (a.add (cj - 1)) = some (.slice (some b2) n1 e2) ∧ W.cell? (b2.add ch) = some (.int .i64 v))) (by kernel_rfl) ?_ (fun hHeld => ?_)
         ·exact HSS.out _ bel
         refine takeT 0 hHeld ?_
         (try simp only [Act.put, ly])
         refine takeT 1 hHeld ?_
         (try simp only [Act.put, ly])
         refine takeT 2 hHeld ?_
         (try simp only [Act.put, ly])
         refine takeT 3 hHeld ?_
         (try simp only [Act.put, ly])
         refine takeT 4 hHeld ?_
         (try simp only [Act.put, ly])
         refine takeT 5 hHeld ?_
         (try simp only [Act.put, ly])
         refine takeT 6 hHeld ?_
         (try simp only [Act.put, ly])
         refine takeT 7 hHeld ?_
         (try simp only [Act.put, ly])
         refine takeT 8 hHeld ?_
         (try simp only [Act.put, ly])
         refine takeT 9 hHeld ?_
         (try simp only [Act.put, ly])
         refine takeT 10 hHeld ?_
         (try simp only [Act.put, ly])
         refine takeT 11 hHeld ?_
         (try simp only [Act.put, ly])
         refine takeT 12 hHeld ?_
         (try simp only [Act.put, ly])
         refine takeT 13 hHeld ?_
         (try simp only [Act.put, ly])
         refine takeT 14 hHeld ?_
         (try simp only [Act.put, ly])
         refine takeT 15 hHeld ?_
         (try simp only [Act.put, ly])
         refine takeT 16 hHeld ?_
         (try simp only [Act.put, ly])
         refine takeT 17 hHeld ?_
         (try simp only [Act.put, ly])
         refine takeT 18 hHeld ?_
         (try simp only [Act.put, ly])
         refine takeT 19 hHeld ?_
         (try simp only [Act.put, ly])
         refine takeT 20 hHeld ?_
         (try simp only [Act.put, ly])
         refine takeT 21 hHeld ?_
         (try simp only [Act.put, ly])
         refine takeT 22 hHeld ?_
         (try simp only [Act.put, ly])
         refine takeT 23 hHeld ?_
         (try simp only [Act.put, ly])
         refine takeT 24 hHeld ?_
         (try simp only [Act.put, ly])
         refine wpAnyH_ready (rs := [25]) (by kernel_rfl) (by simp) ?_
         refine AllReadyH.cons rfl (fun K hK => ?_) AllReadyH.nil
         go_simp
         refine (HF.out _ ch ci bel (by omega) (by have := HB0.out; omega)).mono ?_
         rintro e w3 ⟨he, hb3⟩
         rw [HCC.out] at he
         subst he
         have y9 := hb3.size; (try simp only [zs] at y9)
         (try go_wp2_with fail)
         refine hK.out _ _ ?_ (fun hHeld => ?_)
         ·(try dsimp only)
          exact HSS.out _ bel
         clear hK K
         (try simp only [Act.put, ly])
         refine takeT 26 hHeld ?_
         (try simp only [Act.put, ly])
         refine takeT 27 hHeld ?_
         (try simp only [Act.put, ly])
         refine takeT 28 hHeld ?_
         (try simp only [Act.put, ly])
         refine wpAnyH_done (by kernel_rfl) ?_ _
         refine NoPanic.normal ?_
         go_wp2_with fail
         go_ret
         exact ⟨Tells.no HE.out, bel⟩
        ·have d3 : decide (v + cc < u) = false := decide_eq_false z2
         have HNX := Lib.hid (HNEXT.out (fun h => z2 h.2))
         clear z2 z1 z3
         go_wp2_with fail
         refine wp_region_noPanic ?_
         refine wp_region_held_drew (S := (fun W => (W.cell? (a.add cj) = some (.slice (some b1) n1 e1) ∧ W.cell? (b1.add ci) = some (.int .i64 u)) ∧ W.cell? (a.add (cj - 1)) = some (.slice (some b2) n1 e2) ∧ W.cell? (b2.add ch) = some (.int .i64 v))) (by kernel_rfl) ?_ (fun hHeld => ?_)
         ·exact HSS.out _ bel
         refine takeT 0 hHeld ?_
         (try simp only [Act.put, ly])
         refine takeT 1 hHeld ?_
         (try simp only [Act.put, ly])
         refine takeT 2 hHeld ?_
         (try simp only [Act.put, ly])
         refine takeT 3 hHeld ?_
         (try simp only [Act.put, ly])
         refine takeT 4 hHeld ?_
         (try simp only [Act.put, ly])
         refine takeT 5 hHeld ?_
         (try simp only [Act.put, ly])
         refine takeT 6 hHeld ?_
         (try simp only [Act.put, ly])
         refine takeT 7 hHeld ?_
         (try simp only [Act.put, ly])
         refine takeT 8 hHeld ?_
         (try simp only [Act.put, ly])
         refine takeT 9 hHeld ?_
         (try simp only [Act.put, ly])
         refine takeT 10 hHeld ?_
         (try simp only [Act.put, ly])
         refine takeT 11 hHeld ?_
         (try simp only [Act.put, ly])
         refine takeT 12 hHeld ?_
         (try simp only [Act.put, ly])
         refine takeT 13 hHeld ?_
         (try simp only [Act.put, ly])
         refine takeT 14 hHeld ?_
         (try simp only [Act.put, ly])
         refine takeT 15 hHeld ?_
         (try simp only [Act.put, ly])
         refine takeT 16 hHeld ?_
         (try simp only [Act.put, ly])
         refine takeT 17 hHeld ?_
         (try simp only [Act.put, ly])
         refine takeT 18 hHeld ?_
         (try simp only [Act.put, ly])
         refine takeT 19 hHeld ?_
         (try simp only [Act.put, ly])
         refine takeT 20 hHeld ?_
         (try simp only [Act.put, ly])
         refine takeT 21 hHeld ?_
         (try simp only [Act.put, ly])
         refine takeT 22 hHeld ?_
         (try simp only [Act.put, ly])
         refine takeT 23 hHeld ?_
         (try simp only [Act.put, ly])
         refine takeT 24 hHeld ?_
         (try simp only [Act.put, ly])
         refine wpAnyH_ready (rs := [25]) (by kernel_rfl) (by simp) ?_
         refine AllReadyH.cons rfl (fun K hK => ?_) AllReadyH.nil
         go_simp
         refine (HF.out _ ch ci bel (by omega) (by have := HB0.out; omega)).mono ?_
         rintro e w3 ⟨he, hb3⟩
         rw [HCC.out] at he
         subst he
         have y9 := hb3.size; (try simp only [zs] at y9)
         (try go_wp2_with fail)
         refine hK.out _ _ ?_ (fun hHeld => ?_)
         ·(try dsimp only)
          exact HSS.out _ bel
         clear hK K
         (try simp only [Act.put, ly])
         refine takeT 26 hHeld ?_
         (try simp only [Act.put, ly])
         refine takeT 27 hHeld ?_
         (try simp only [Act.put, ly])
         refine takeT 28 hHeld ?_
         (try simp only [Act.put, ly])
         refine wpAnyH_done (by kernel_rfl) ?_ _
         refine NoPanic.normal ?_
         go_wp2_with fail
         go_roundw
         case rel => exact ⟨ch + 1, by omega, by go_num, HNX, bel⟩
         case measure => simp only [intOf]; omega
       ·have d4 : ((ch : Int) == 0) = false := beq_eq_false_iff_ne.2 (by omega)
        have HNX := Lib.hid (HNEXT.out (fun h => h.1.elim z1 z3))
        clear z1 z3
        go_wp2_with fail
        refine wp_region_noPanic ?_
        refine wp_region_held_drew (S := (fun W => (W.cell? (a.add cj) = some (.slice (some b1) n1 e1) ∧ W.cell? (b1.add ci) = some (.int .i64 u)) ∧ W.cell? (a.add (cj - 1)) = some (.slice (some b2) n1 e2) ∧ W.cell? (b2.add ch) = some (.int .i64 v))) (by kernel_rfl) ?_ (fun hHeld => ?_)
        ·exact HSS.out _ bel
        refine takeT 0 hHeld ?_
        (try simp only [Act.put, ly])
        refine takeT 1 hHeld ?_
        (try simp only [Act.put, ly])
        refine takeT 2 hHeld ?_
        (try simp only [Act.put, ly])
        refine takeT 3 hHeld ?_
        (try simp only [Act.put, ly])
        refine takeT 4 hHeld ?_
        (try simp only [Act.put, ly])
        refine takeT 5 hHeld ?_
        (try simp only [Act.put, ly])
        refine takeT 6 hHeld ?_
        (try simp only [Act.put, ly])
        refine offT 7 hHeld ?_
        refine offT 8 hHeld ?_
        refine offT 9 hHeld ?_
        refine offT 10 hHeld ?_
        refine offT 11 hHeld ?_
        refine offT 12 hHeld ?_
        refine offT 13 hHeld ?_
        refine offT 14 hHeld ?_
        refine offT 15 hHeld ?_
        refine offT 16 hHeld ?_
        refine offT 17 hHeld ?_
        refine offT 18 hHeld ?_
        refine offT 19 hHeld ?_
        refine offT 20 hHeld ?_
        refine offT 21 hHeld ?_
        refine offT 22 hHeld ?_
        refine offT 23 hHeld ?_
        refine offT 24 hHeld ?_
        refine offT 25 hHeld ?_
        refine offT 26 hHeld ?_
        refine offT 27 hHeld ?_
        (try simp only [Act.put, ly])
        refine takeT 28 hHeld ?_
        (try simp only [Act.put, ly])
        refine wpAnyH_done (by kernel_rfl) ?_ _
        refine NoPanic.normal ?_
        go_wp2_with fail
        go_roundw
        case rel => exact ⟨ch + 1, by omega, by go_num, HNX, bel⟩
        case measure => simp only [intOf]; omega
    ·obtain rfl : ci = n1 := by omega
     have HNX : Hid (∀ j i h : Nat, 1 ≤ j → j < cj + 1 → i ≤ n → h ≤ i → (1 < j ∨ h = 0) → ent L j i ≤ ent L (j - 1) h + bc l h i) := fun j i h h1 h2 h3 h4 h5 => by
      by_cases hh : j < cj
      ·exact hall.out j i h h1 hh h3 h4 h5
      ·obtain rfl : j = cj := by omega
       exact hall2.out i h (by have := HB0.out; omega) h4 h5
     go_wp2_with fail
     go_roundw
     case rel => exact ⟨cj + 1, by omega, by omega, by go_num, HNX, bel⟩
     case measure => simp only [intOf]; omega
  ·obtain rfl : cj = m := by omega
   have HV : Hid P := HP2.out.2 fun j i h h1 h2 h3 h4 h5 => hall.out j i h h1 h2 h3 h4 h5
   go_wp2_with fail
   go_ret
   exact ⟨Tells.yes HV.out, bel⟩
end Go.Proofs.YtbdcjhoedhhabaaGreat

