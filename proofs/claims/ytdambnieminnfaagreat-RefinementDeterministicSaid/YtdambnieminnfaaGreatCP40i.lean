/- For every input the law returns true: the law's walk, and the statement out of it. -/
import Derived.Test.YtdambnieminnfaaGreatRows
import Derived.Test.YtdambnieminnfaaGreatX1
import Derived.Test.YtdambnieminnfaaGreatX3
import Derived.Test.YtdambnieminnfaaGreatX20
import Derived.Test.YtdambnieminnfaaGreatX27
import Derived.Test.YtdambnieminnfaaGreatX41
import Derived.Test.YtdambnieminnfaaGreatX46
import Derived.Test.YtdambnieminnfaaGreatX48
set_option linter.unusedSimpArgs false
set_option linter.unusedVariables false

/- RefinementDeterministic: the law's walk. -/
namespace Go.Proofs.YtdambnieminnfaaGreat
open Go.RowKit
attribute [local go_sem ↓] Go.wp_at_zero Go.wp_at_succ
attribute [local go_sem] beq_self_eq_true

set_option maxRecDepth 100000 in
set_option maxHeartbeats 16000000 in
theorem deterministic_walk (w : World) (va vb : Value) (l1 l2 : List Int) (z1 z2 : Int) (h1 : U8V w va l1) (h2 : U8V w vb l2) (hz1 : 0 ≤ z1 ∧ z1 ≤ 255) (hz2 : 0 ≤ z2 ∧ z2 ≤ 255) :
 Calls Tryz.prog 9 #[va, vb, .agg #[.int .u8 z1, .int .u8 z2]] w fun e w' => e = .returned (.bool true) ∧ Below w.heap.size w w' := by
 have H1 := Lib.hid h1
 have H2 := Lib.hid h2
 obtain ⟨A1, c1, rfl, -, a1, b1⟩ := h1.op
 obtain ⟨A2, c2, rfl, -, a2, b2⟩ := h2.op
 obtain ⟨r1, hr1⟩ : ∃ r, l1.length = r := ⟨_, rfl⟩
 obtain ⟨r2, hr2⟩ : ∃ r, l2.length = r := ⟨_, rfl⟩
 have HR1 := Lib.hid hr1
 have HR2 := Lib.hid hr2
 rw [hr1] at H1 a1
 rw [hr2] at H2 a2
 rw [hr1, hr2]
 unfold maxLen at b1 b2
 have B1 := made1 w #[.int .u8 z1, .int .u8 z2] 49
 clear h1 h2 hr1 hr2
 go_enter Tryz.func9, Tryz.ntmps9
 go_wp2_with fail
 refine (known40_any _).mono ?_
 rintro e w1 ⟨rfl, hb1⟩
 have zz1 := sz1 hb1
 have B11 : Loc w1 w.heap.size _ _ := B1.to
 have HB1 : Hid (Below w.heap.size w w1) := bel
 clear B1 hb1
 go_upto_region 3 with fail
 go_cut [7] from 18 to 22 (fun p W => p = .pointer (some ⟨w1.heap.size, 0, none⟩) ∧ ∃ n : Nat, n ≤ r1 ∧ n ≤ r2 ∧ n ≤ 5 ∧ Loc W w1.heap.size 3 #[.int .i64 n] ∧ Below w1.heap.size w1 W)
 case first =>
  go_wp2_with fail
  all_goals (go_meet; first | exact ⟨rfl, 5, by omega, by omega, by omega, made1 w1 #[.int .i64 5] 3, bel⟩ | exact ⟨rfl, r1, by omega, by omega, by omega, made1 w1 #[.int .i64 r1] 3, bel⟩ | exact ⟨rfl, r2, by omega, by omega, by omega, made1 w1 #[.int .i64 r2] 3, bel⟩)
 case rest =>
  obtain ⟨rfl, n, hn1, hn2, hn5, N1, hBn⟩ := hcut
  obtain ⟨w2, rfl⟩ : ∃ w2 : World, w2 = wc := ⟨_, rfl⟩
  have y2 := hBn.size; (try simp only [zs] at y2)
  have HB2 : Hid (Below w.heap.size w w2) := HB1.out.trans (hBn.mono (by omega))
  have B12 : Loc w2 w.heap.size _ _ := B11.below hBn
  have HB12 := Lib.hid hBn
  clear hBn B11
  obtain ⟨e1, f1, l1'⟩ := N1.all (w' := w2)
  by_cases h0 : n = 0
  ·subst h0
   go_wp2_with fail
   go_ret
   exact ⟨rfl, HB2.out⟩
  have d0 : ((n : Int) == 0) = false := beq_eq_false_iff_ne.2 (by omega)
  go_upto_region 7 with fail
  have HBW : Hid (∀ W, Below w2.heap.size w2 W → Below w.heap.size w W) := fun W hW => HB2.out.trans (hW.mono (by omega))
  have HLn : Hid (w1.heap.size < w2.heap.size) := l1'
  have HC : Hid (∀ W, Below w2.heap.size w2 W → Reg40d.SXD w.heap.size w1.heap.size n z1 z2 W) := fun W hW => ⟨⟨Loc.cell (B12.below hW) 0, Loc.cell (B12.below hW) 1⟩, Loc.cell (N1.below hW) 0⟩
  refine Reg40d.reg hz1.1 hz1.2 hz2.1 hz2.2 HC (Lib.hid (fun W hW => H1.out.keep (.of_below (HBW.out W hW)))) (Lib.hid (fun W hW => H2.out.keep (.of_below (HBW.out W hW)))) (Lib.hid (by rw [HR1.out]; exact hn1)) (Lib.hid (by rw [HR2.out]; exact hn2)) (Lib.hid hn5) HLn (Lib.hid (by omega)) (Lib.hid (by omega)) ?_
  intro W4 ga gb E1 E2 p1 p2 v26 v27 v28 v29 v30 v31 v32 v33 v34 v35 v36 v37 v38 v39 hab hga hgb La Lb V1 V2 hB4
  obtain ⟨w4, rfl⟩ : ∃ w4 : World, w4 = W4 := ⟨_, rfl⟩
  have y4 := hB4.size; (try simp only [zs] at y4)
  have HB4 : Hid (Below w.heap.size w w4) := HBW.out _ hB4
  have HBW4 : Hid (∀ W, Below w4.heap.size w4 W → Below w.heap.size w W) := fun W hW => HBW.out W (hB4.trans (hW.mono y4))
  have N4 : Loc w4 w1.heap.size _ _ := N1.below hB4
  have hla := La.lt
  have hlb := Lb.lt
  have HV1 := Lib.hid V1
  have HV2 := Lib.hid V2
  have hn4 := N4.lt
  clear e1 f1 l1' N1 HC V1 V2
  obtain ⟨e1, f1, -⟩ := N4.all (w' := w4)
  go_wp2_with fail
  clear e1 f1
  go_loopw [11, 41] (fun b i wr => ∃ (x : Nat) (bb : Bool), x ≤ n ∧ b = .bool bb ∧ i = .int .i64 x ∧ Hid (bb = true ↔ ∀ x', x' < x → ∀ y', y' < n → am l1 x' = am l1 y' → am l2 x' = am l2 y') ∧ Below w4.heap.size w4 wr) (fun _ i _ => n - (intOf i).toNat)
  case atStart => exact ⟨0, true, by omega, rfl, rfl, Lib.hid ⟨fun _ x' hx' => absurd hx' (Nat.not_lt_zero _), fun _ => rfl⟩, Below.refl _ _⟩
  case round =>
   obtain ⟨x, bb, hx, rfl, rfl, hbb, hBx⟩ := hrel
   obtain ⟨wx, rfl⟩ : ∃ wx : World, wx = wr := ⟨_, rfl⟩
   have yx := hBx.size
   have HBX := Lib.hid hBx
   have Nx : Loc wx w1.heap.size _ _ := N4.below hBx
   clear hBx
   by_cases hlt : x < n
   ·obtain ⟨e1, f1, -⟩ := Nx.all (w' := wx)
    have k0 : (0 : Int) ≤ (x : Int) := by omega
    have k1 : (x : Int) < (r1 : Int) := by omega
    have k2 : (x : Int) < (r2 : Int) := by omega
    have k3 : (x : Int) < (n : Int) := by omega
    go_wp2_with fail
    clear e1 f1
    go_loopw [11, 45] (fun b i wr => ∃ (y : Nat) (cc : Bool), y ≤ n ∧ b = .bool cc ∧ i = .int .i64 y ∧ Hid (cc = true ↔ (∀ x', x' < x → ∀ y', y' < n → am l1 x' = am l1 y' → am l2 x' = am l2 y') ∧ ∀ y', y' < y → am l1 x = am l1 y' → am l2 x = am l2 y') ∧ Below w4.heap.size w4 wr) (fun _ i _ => n - (intOf i).toNat)
    case atStart => exact ⟨0, bb, by omega, rfl, rfl, Lib.hid ⟨fun h => ⟨hbb.out.1 h, fun y' hy' => absurd hy' (Nat.not_lt_zero _)⟩, fun h => hbb.out.2 h.1⟩, HBX.out⟩
    case round =>
     clear hbb HBX Nx
     obtain ⟨y, cc, hy, rfl, rfl, hbb, hBy⟩ := hrel
     obtain ⟨wy, rfl⟩ : ∃ wx : World, wx = wr := ⟨_, rfl⟩
     have yy := hBy.size
     have HBY := Lib.hid hBy
     clear hBy
     by_cases hlty : y < n
     ·obtain ⟨q1, hq1⟩ : ∃ z, l1[x]? = some z := ⟨_, List.getElem?_eq_getElem (by have := HR1.out; omega)⟩
      obtain ⟨q2, hq2⟩ : ∃ z, l1[y]? = some z := ⟨_, List.getElem?_eq_getElem (by have := HR1.out; omega)⟩
      obtain ⟨q3, hq3⟩ : ∃ z, l2[x]? = some z := ⟨_, List.getElem?_eq_getElem (by have := HR2.out; omega)⟩
      obtain ⟨q4, hq4⟩ : ∃ z, l2[y]? = some z := ⟨_, List.getElem?_eq_getElem (by have := HR2.out; omega)⟩
      have hkk : Keep (fun _ => False) w wy := .of_below (HBW4.out _ HBY.out)
      obtain ⟨ad1, rfl, hab1, hc1, q10, q11⟩ := H1.out.at hq1
      obtain ⟨ad1', ea, -, hc2, q20, q21⟩ := H1.out.at hq2
      injection ea with ea
      subst ea
      obtain ⟨ad2, rfl, hab2, hc3, q30, q31⟩ := H2.out.at hq3
      obtain ⟨ad2', ea, -, hc4, q40, q41⟩ := H2.out.at hq4
      injection ea with ea
      subst ea
      have HLS : Hid ((wy.cell? (ad1.add x) = some (.int .u8 q1) ∧ wy.cell? (ad1.add y) = some (.int .u8 q2)) ∧ wy.cell? (ad2.add x) = some (.int .u8 q3) ∧ wy.cell? (ad2.add y) = some (.int .u8 q4)) :=
       ⟨⟨cell_keep hc1 (by rw [addr_block]; exact hab1) id hkk, cell_keep hc2 (by rw [addr_block]; exact hab1) id hkk⟩, cell_keep hc3 (by rw [addr_block]; exact hab2) id hkk, cell_keep hc4 (by rw [addr_block]; exact hab2) id hkk⟩
      have HA1 := Lib.hid (am_get hq1)
      have HA2 := Lib.hid (am_get hq2)
      have HA3 := Lib.hid (am_get hq3)
      have HA4 := Lib.hid (am_get hq4)
      have k4 : (0 : Int) ≤ (y : Int) := by omega
      have k5 : (y : Int) < (r1 : Int) := by omega
      have k6 : (y : Int) < (r2 : Int) := by omega
      have k7 : (y : Int) < (n : Int) := by omega
      clear hq1 hq2 hq3 hq4 hkk hc1 hc2 hc3 hc4
      go_upto_region 15 with fail
      have t1 : q1.tmod 5 = (am l1 x : Nat) := by rw [HA1.out]; exact Int.tmod_eq_emod_of_nonneg q10
      have t2 : q2.tmod 5 = (am l1 y : Nat) := by rw [HA2.out]; exact Int.tmod_eq_emod_of_nonneg q20
      have t3 : q3.tmod 5 = (am l2 x : Nat) := by rw [HA3.out]; exact Int.tmod_eq_emod_of_nonneg q30
      have t4 : q4.tmod 5 = (am l2 y : Nat) := by rw [HA4.out]; exact Int.tmod_eq_emod_of_nonneg q40
      by_cases hd : am l1 x = am l1 y
      case neg =>
       have dA : (q1.tmod 5 == q2.tmod 5) = false := by rw [t1, t2]; exact beq_eq_false_iff_ne.2 (by omega)
       have HBB : Hid (cc = true ↔ (∀ x', x' < x → ∀ y', y' < n → am l1 x' = am l1 y' → am l2 x' = am l2 y') ∧ ∀ y', y' < y + 1 → am l1 x = am l1 y' → am l2 x = am l2 y') :=
        ⟨fun h => ⟨(hbb.out.1 h).1, fun y' hy' e => by
         by_cases e2 : y' = y
         ·subst e2; exact absurd e hd
         ·exact (hbb.out.1 h).2 y' (by omega) e⟩, fun h => hbb.out.2 ⟨h.1, fun y' hy' => h.2 y' (by omega)⟩⟩
       clear t1 t2 t3 t4 hd
       refine wp_region_noPanic ?_
       refine wp_region_held_drew (S := (fun W => (W.cell? (ad1.add x) = some (.int .u8 q1) ∧ W.cell? (ad1.add y) = some (.int .u8 q2)) ∧ W.cell? (ad2.add x) = some (.int .u8 q3) ∧ W.cell? (ad2.add y) = some (.int .u8 q4))) (by kernel_rfl) ?_ (fun hHeld => ?_)
       ·exact HLS.out
       refine takeT 0 hHeld ?_
       (try simp only [Act.put, ly])
       refine takeT 1 hHeld ?_
       (try simp only [Act.put, ly])
       refine takeT 2 hHeld ?_
       (try simp only [Act.put, ly])
       refine takeT 3 hHeld ?_
       (try simp only [Act.put, ly])
       refine takeT 4 hHeld ?_
       (try simp only [Act.put, ly])
       refine takeT 5 hHeld ?_
       (try simp only [Act.put, ly])
       refine takeT 6 hHeld ?_
       (try simp only [Act.put, ly])
       refine takeT 7 hHeld ?_
       (try simp only [Act.put, ly])
       refine takeT 8 hHeld ?_
       (try simp only [Act.put, ly])
       refine takeT 9 hHeld ?_
       (try simp only [Act.put, ly])
       refine takeT 10 hHeld ?_
       (try simp only [Act.put, ly])
       (try rw [dA])
       refine takeT 11 hHeld ?_
       (try simp only [Act.put, ly])
       refine offT 12 hHeld ?_
       refine offT 13 hHeld ?_
       refine offT 14 hHeld ?_
       refine offT 15 hHeld ?_
       refine offT 16 hHeld ?_
       refine offT 17 hHeld ?_
       refine offT 18 hHeld ?_
       refine offT 19 hHeld ?_
       refine offT 20 hHeld ?_
       refine offT 21 hHeld ?_
       refine offT 22 hHeld ?_
       (try simp only [Act.put, ly])
       refine takeT 23 hHeld ?_
       (try simp only [Act.put, ly])
       refine wpAnyH_done (by kernel_rfl) ?_ _
       refine NoPanic.normal ?_
       clear dA
       go_wp2_with fail
       go_roundw
       case rel => exact ⟨y + 1, cc, by omega, rfl, by go_num, HBB, HBY.out.drew⟩
       case measure => simp only [intOf]; omega
      ·have dA : (q1.tmod 5 == q2.tmod 5) = true := by rw [t1, t2]; exact beq_iff_eq.2 (by omega)
       by_cases hd2 : am l2 x = am l2 y
       ·have dB : (q3.tmod 5 != q4.tmod 5) = false := by rw [t3, t4, hd2]; exact bne_self_eq_false _
        have HBB : Hid (cc = true ↔ (∀ x', x' < x → ∀ y', y' < n → am l1 x' = am l1 y' → am l2 x' = am l2 y') ∧ ∀ y', y' < y + 1 → am l1 x = am l1 y' → am l2 x = am l2 y') :=
         ⟨fun h => ⟨(hbb.out.1 h).1, fun y' hy' e => by
          by_cases e2 : y' = y
          ·subst e2; exact hd2
          ·exact (hbb.out.1 h).2 y' (by omega) e⟩, fun h => hbb.out.2 ⟨h.1, fun y' hy' => h.2 y' (by omega)⟩⟩
        clear t1 t2 t3 t4 hd hd2
        refine wp_region_noPanic ?_
        refine wp_region_held_drew (S := (fun W => (W.cell? (ad1.add x) = some (.int .u8 q1) ∧ W.cell? (ad1.add y) = some (.int .u8 q2)) ∧ W.cell? (ad2.add x) = some (.int .u8 q3) ∧ W.cell? (ad2.add y) = some (.int .u8 q4))) (by kernel_rfl) ?_ (fun hHeld => ?_)
        ·exact HLS.out
        refine takeT 0 hHeld ?_
        (try simp only [Act.put, ly])
        refine takeT 1 hHeld ?_
        (try simp only [Act.put, ly])
        refine takeT 2 hHeld ?_
        (try simp only [Act.put, ly])
        refine takeT 3 hHeld ?_
        (try simp only [Act.put, ly])
        refine takeT 4 hHeld ?_
        (try simp only [Act.put, ly])
        refine takeT 5 hHeld ?_
        (try simp only [Act.put, ly])
        refine takeT 6 hHeld ?_
        (try simp only [Act.put, ly])
        refine takeT 7 hHeld ?_
        (try simp only [Act.put, ly])
        refine takeT 8 hHeld ?_
        (try simp only [Act.put, ly])
        refine takeT 9 hHeld ?_
        (try simp only [Act.put, ly])
        refine takeT 10 hHeld ?_
        (try simp only [Act.put, ly])
        (try rw [dA])
        refine takeT 11 hHeld ?_
        (try simp only [Act.put, ly])
        refine takeT 12 hHeld ?_
        (try simp only [Act.put, ly])
        refine takeT 13 hHeld ?_
        (try simp only [Act.put, ly])
        refine takeT 14 hHeld ?_
        (try simp only [Act.put, ly])
        refine takeT 15 hHeld ?_
        (try simp only [Act.put, ly])
        refine takeT 16 hHeld ?_
        (try simp only [Act.put, ly])
        refine takeT 17 hHeld ?_
        (try simp only [Act.put, ly])
        refine takeT 18 hHeld ?_
        (try simp only [Act.put, ly])
        refine takeT 19 hHeld ?_
        (try simp only [Act.put, ly])
        refine takeT 20 hHeld ?_
        (try simp only [Act.put, ly])
        refine takeT 21 hHeld ?_
        (try simp only [Act.put, ly])
        refine takeT 22 hHeld ?_
        (try simp only [Act.put, ly])
        (try rw [dB])
        refine takeT 23 hHeld ?_
        (try simp only [Act.put, ly])
        refine wpAnyH_done (by kernel_rfl) ?_ _
        refine NoPanic.normal ?_
        clear dA dB
        go_wp2_with fail
        go_roundw
        case rel => exact ⟨y + 1, cc, by omega, rfl, by go_num, HBB, HBY.out.drew⟩
        case measure => simp only [intOf]; omega
       ·have dB : (q3.tmod 5 != q4.tmod 5) = true := by rw [t3, t4]; exact bne_iff_ne.2 (by omega)
        have HBB : Hid (false = true ↔ (∀ x', x' < x → ∀ y', y' < n → am l1 x' = am l1 y' → am l2 x' = am l2 y') ∧ ∀ y', y' < y + 1 → am l1 x = am l1 y' → am l2 x = am l2 y') :=
         ⟨fun h => (by cases h), fun h => absurd (h.2 y (by omega) hd) hd2⟩
        clear t1 t2 t3 t4 hd hd2
        refine wp_region_noPanic ?_
        refine wp_region_held_drew (S := (fun W => (W.cell? (ad1.add x) = some (.int .u8 q1) ∧ W.cell? (ad1.add y) = some (.int .u8 q2)) ∧ W.cell? (ad2.add x) = some (.int .u8 q3) ∧ W.cell? (ad2.add y) = some (.int .u8 q4))) (by kernel_rfl) ?_ (fun hHeld => ?_)
        ·exact HLS.out
        refine takeT 0 hHeld ?_
        (try simp only [Act.put, ly])
        refine takeT 1 hHeld ?_
        (try simp only [Act.put, ly])
        refine takeT 2 hHeld ?_
        (try simp only [Act.put, ly])
        refine takeT 3 hHeld ?_
        (try simp only [Act.put, ly])
        refine takeT 4 hHeld ?_
        (try simp only [Act.put, ly])
        refine takeT 5 hHeld ?_
        (try simp only [Act.put, ly])
        refine takeT 6 hHeld ?_
        (try simp only [Act.put, ly])
        refine takeT 7 hHeld ?_
        (try simp only [Act.put, ly])
        refine takeT 8 hHeld ?_
        (try simp only [Act.put, ly])
        refine takeT 9 hHeld ?_
        (try simp only [Act.put, ly])
        refine takeT 10 hHeld ?_
        (try simp only [Act.put, ly])
        (try rw [dA])
        refine takeT 11 hHeld ?_
        (try simp only [Act.put, ly])
        refine takeT 12 hHeld ?_
        (try simp only [Act.put, ly])
        refine takeT 13 hHeld ?_
        (try simp only [Act.put, ly])
        refine takeT 14 hHeld ?_
        (try simp only [Act.put, ly])
        refine takeT 15 hHeld ?_
        (try simp only [Act.put, ly])
        refine takeT 16 hHeld ?_
        (try simp only [Act.put, ly])
        refine takeT 17 hHeld ?_
        (try simp only [Act.put, ly])
        refine takeT 18 hHeld ?_
        (try simp only [Act.put, ly])
        refine takeT 19 hHeld ?_
        (try simp only [Act.put, ly])
        refine takeT 20 hHeld ?_
        (try simp only [Act.put, ly])
        refine takeT 21 hHeld ?_
        (try simp only [Act.put, ly])
        refine takeT 22 hHeld ?_
        (try simp only [Act.put, ly])
        (try rw [dB])
        refine takeT 23 hHeld ?_
        (try simp only [Act.put, ly])
        refine wpAnyH_done (by kernel_rfl) ?_ _
        refine NoPanic.normal ?_
        clear dA dB
        go_wp2_with fail
        go_roundw
        case rel => exact ⟨y + 1, false, by omega, rfl, by go_num, HBB, HBY.out.drew⟩
        case measure => simp only [intOf]; omega
     ·obtain rfl : y = n := by omega
      go_wp2_with fail
      go_roundw
      case rel =>
       refine ⟨x + 1, cc, by omega, rfl, by go_num, ⟨fun h x' hx' => ?_, fun h => hbb.out.2 ⟨fun x' hx' => h x' (by omega), h x (by omega)⟩⟩, HBY.out⟩
       by_cases e : x' = x
       ·subst e; exact (hbb.out.1 h).2
       ·exact (hbb.out.1 h).1 x' (by omega)
      case measure => simp only [intOf]; omega
   ·obtain rfl : x = n := by omega
    have HBB := Lib.hid hbb.out
    have Lax : Loc wx ga _ _ := La.below HBX.out
    have Lbx : Loc wx gb _ _ := Lb.below HBX.out
    have HI1 : Hid (IMat wx (.slice E1 x p1) (det x (am l1) (1 + z1))) := (HV1.out.below HBX.out).imat
    have HI2 : Hid (IMat wx (.slice E2 x p2) (det x (am l2) (1 + z2))) := (HV2.out.below HBX.out).imat
    clear hbb La Lb Nx N4
    obtain ⟨e1, f1, -⟩ := Lax.all (w' := wx)
    obtain ⟨e2, f2, -⟩ := Lbx.all (w' := wx)
    have hx1 : 1 ≤ x := by omega
    have hHBW := HBW4.out _ HBX.out
    have HBWX := Lib.hid hHBW
    have yw := hHBW.size
    clear hHBW
    go_wp2_with fail
    refine (decide_any _ _ _ (det x (am l1) (1 + z1)) (det x (am l2) (1 + z2)) HI1.out HI2.out ((det_few hn5).sz (det_few hn5))).mono ?_
    rintro e w5 ⟨b, vW, vG, m, K, F, G, code, rfl, hmm, hd, hb5⟩
    obtain ⟨rfl, hq⟩ := det_dec hx1 hn5 (fun x _ => am_lt l1 x) (fun x _ => am_lt l2 x) (by omega) (by omega) (by omega) (by omega) hd.out
    obtain ⟨AW, cW, rfl, -, -, -⟩ := hmm.out.1.op
    obtain ⟨AG, cG, rfl, -, -, -⟩ := hmm.out.2.op
    have y5 := hb5.size; (try simp only [zs] at y5)
    have HB5 : Hid (Below w.heap.size w w5) := HBWX.out.trans (hb5.mono (by omega))
    have hbc : b = bb := by
     have h2 : bb = true ↔ Want x (am l1) (am l2) := HBB.out
     cases b <;> cases bb <;> simp_all
    subst hbc
    have HB6 : Hid (Below w.heap.size w (w5.alloc (.cells #[.bool b, .slice AW m cW, .slice AG K cG] 27))) := HB5.out.trans ((below1 w5 _).mono (by omega))
    clear hmm hd hq HBB hb5 e1 f1 e2 f2
    go_wp2_with fail
    go_ret
    exact ⟨rfl, HB6.out⟩
end Go.Proofs.YtdambnieminnfaaGreat

/- The statement 'RefinementDeterministic' out of its walk. The frame is the guide's own (proof-skeleton), printed by lawgen.py. -/
namespace Go.Proofs.YtdambnieminnfaaGreat.refinementDeterministic
open Go.ChangeShapes Go.WideShapes Go.ChangeAt Go.RowKit Go.Proofs.YtdambnieminnfaaGreat
open Go.ChangeMaps (open_string shut_string)
set_option linter.unusedVariables false

set_option maxRecDepth 100000 in
theorem lifted (os : Os) (started : os.Started) (H : Type) (enc : TypeId × Value → H) :
 ReturnsInHanded {} Tryz.checked os 9 .any (Rows.refinementDeterministicSpec.pre6 enc Tryz.prog Tryz.f9 Rows.refinementDeterministicRow.domain false) (Rows.refinementDeterministicSpec.post enc Tryz.prog Tryz.f9 false true false false) := by
 refine returnsInHanded_of_change (C := Tryz.checked) own started (by kernel_rfl) Tryz.func9
  (ChangeSpec.witness6 (enc := enc) (C := Tryz.checked) false ⟨#[], #[.slice none 0 0, .slice none 0 0, .agg #[.int .u8 0, .int .u8 0]], []⟩ 8 (by kernel_rfl) (by kernel_rfl) (by kernel_rfl) (by kernel_rfl)) ?_
 intro W base args ds gs before hval0 hW hcnd _
 have hval : ∀ (j : Nat) t v, Tryz.f9.params[j]? = some t → args[j]? = some v → Value.okWide Tryz.prog W .any base t v := hval0
 have hW' := hW
 obtain ⟨p, q, hA0, hV, rfl, hfz, hnd⟩ := hW
 have hA : DataW.TrodAll enc Tryz.prog W 0 (fun _ => true) true Tryz.f9.params.toList args.toList ds p := hA0
 rw [Tryz.params9] at hA hval
 obtain ⟨v0, vs0, d0, ds0, p0, q0, hargs, rfl, rfl, h0, r0⟩ := trodAll_cons hA
 obtain ⟨v1, vs1, d1, ds1, p1, q1, rfl, rfl, rfl, h1, r1⟩ := trodAll_cons r0
 obtain ⟨v2, vs2, d2, ds2, p2, q2, rfl, rfl, rfl, h2, r2⟩ := trodAll_cons r1
 obtain ⟨rfl, rfl, rfl⟩ := trodAll_nil r2
 obtain rfl : args = #[v0, v1, v2] := by cases args; simp_all
 obtain ⟨rfl, rfl⟩ := trodVars_none hV
 have lt0 : ∀ x ∈ p0, x.block < W.heap.size := by obtain ⟨m, hm⟩ := h0; exact DataW.trod_lt m _ _ _ hm
 have k0 := fun (W' : World) (bel : Below W.heap.size W W') => Below.trod laidOut (by kernel_rfl) (of_decide_eq_true (by kernel_rfl)) h0 bel lt0
 obtain ⟨l0, ha0⟩ := open_U8 (hval 0 48 v0 rfl rfl) h0
 have lt1 : ∀ x ∈ p1, x.block < W.heap.size := by obtain ⟨m, hm⟩ := h1; exact DataW.trod_lt m _ _ _ hm
 have k1 := fun (W' : World) (bel : Below W.heap.size W W') => Below.trod laidOut (by kernel_rfl) (of_decide_eq_true (by kernel_rfl)) h1 bel lt1
 obtain ⟨l1, ha1⟩ := open_U8 (hval 1 48 v1 rfl rfl) h1
 have lt2 : ∀ x ∈ p2, x.block < W.heap.size := by obtain ⟨m, hm⟩ := h2; exact DataW.trod_lt m _ _ _ hm
 have k2 := fun (W' : World) (bel : Below W.heap.size W W') => Below.trod laidOut (by kernel_rfl) (of_decide_eq_true (by kernel_rfl)) h2 bel lt2
 obtain ⟨a2, b2, e2, wa2, wb2⟩ := open_At (hval 2 49 v2 rfl rfl) h2
 subst e2
 refine (deterministic_walk _ _ _ _ _ _ _ ha0 ha1 (bounds_u8 wa2) (bounds_u8 wb2)).mono fun e W' ⟨he, bel⟩ => ?_
 subst he
 exact ⟨_, rfl, _, _, _, [], _, [], hW', trodAll_mk1 (shut_bool Tryz.underlying4 _), (trodAll_cons_mk (k0 _ bel) (trodAll_cons_mk (k1 _ bel) (trodAll_cons_mk (k2 _ bel) trodAll_mk0))), rfl, bel.frame _, fun h => by cases h⟩

theorem over : Rows.refinementDeterministicRow.holds Tryz.pinned (OpenSpec.ofChange Rows.refinementDeterministicSpec) :=
 OpenClaim.holds_of_wide 9 Tryz.f9 rfl rfl rfl rfl rfl rfl rfl ⟨rfl, rfl, rfl, rfl, rfl⟩ rfl rfl rfl rfl rfl (by kernel_rfl) Tryz.func9 (by kernel_rfl)
  (of_decide_eq_true (by kernel_rfl)) (by unfold Func.isWrapper; first | (rw [if_pos (by decide +kernel)]; kernel_rfl) | (rw [if_neg (by decide +kernel)]; exact ⟨rfl, rfl⟩))
  (fun os started H enc _ => lifted os started H enc)

/-- The statement: for every input the law returns true; each argument reads behind the call as it read before. -/
theorem proved : Rows.RefinementDeterministicSaid := over
end Go.Proofs.YtdambnieminnfaaGreat.refinementDeterministic

