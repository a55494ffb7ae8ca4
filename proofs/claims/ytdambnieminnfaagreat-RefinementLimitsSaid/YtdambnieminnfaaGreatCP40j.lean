/- For every input the law returns true: the law's walk, and the statement out of it. -/
import Derived.Test.YtdambnieminnfaaGreatRows
import Derived.Test.YtdambnieminnfaaGreatY1
import Derived.Test.YtdambnieminnfaaGreatY3
import Derived.Test.YtdambnieminnfaaGreatY20
import Derived.Test.YtdambnieminnfaaGreatY25
import Derived.Test.YtdambnieminnfaaGreatY40
import Derived.Test.YtdambnieminnfaaGreatY41
import Derived.Test.YtdambnieminnfaaGreatY43
set_option linter.unusedSimpArgs false
set_option linter.unusedVariables false

/- RefinementLimits: the law's walk. -/
namespace Go.Proofs.YtdambnieminnfaaGreat
open Go.RowKit
attribute [local go_sem ↓] Go.wp_at_zero Go.wp_at_succ
attribute [local go_sem] beq_self_eq_true

set_option maxRecDepth 100000 in
set_option maxHeartbeats 16000000 in
theorem limits_walk (w : World) (p q : Nat) (hp : p ≤ 255) (hq : q ≤ 255) :
 Calls Tryz.prog 5 #[.int .u8 p, .int .u8 q] w fun e w' => e = .returned (.bool true) ∧ Below w.heap.size w w' := by
 go_enter Tryz.func5, Tryz.ntmps5
 go_wp2_with fail
 refine (known40_any _).mono ?_
 rintro e w1 ⟨rfl, hb1⟩
 have zz1 := hb1.size
 have HB1 : Hid (Below w.heap.size w w1) := bel
 clear hb1
 obtain ⟨n, hn⟩ : ∃ n, 1 + p = n := ⟨_, rfl⟩
 obtain ⟨n2, hn2⟩ : ∃ n, 1 + q = n := ⟨_, rfl⟩
 have e1 : (1 : Int) + (p : Int) = (n : Int) := by omega
 have e2 : (1 : Int) + (q : Int) = (n2 : Int) := by omega
 go_wp2_with (at_make; refine wpList_makeN _ rfl _ _ rfl Tryz.underlying38 info_int1 rfl w1.heap.size n rfl rfl (by omega) (by omega) (by omega) (by unfold maxLen; omega) (Nat.le_refl _) ?_)
 intro w2 hrow hg2
 have hB2 : Below w1.heap.size w1 w2 := below_none (Below.refl _ _) hg2 (Nat.le_refl _)
 have R1 : RowI w2 w1.heap.size (List.replicate n 0) := rowI_zeros hrow
 have y2 := R1.lt
 have HB2 : Hid (Below w.heap.size w w2) := HB1.out.trans (hB2.mono (by omega))
 clear hrow hg2 hB2
 obtain ⟨w3, hw3⟩ : ∃ W, (w2.alloc (.cells #[.slice (some ⟨w1.heap.size, 0, none⟩) n n] 38)).alloc (.cells #[.slice (some ⟨w2.heap.size, 0, none⟩) 1 1] 24) = W := ⟨_, rfl⟩
 have HS3 : Hid (w3.heap.size = w2.heap.size + 1 + 1) := by show _ = _; rw [← hw3]; simp only [World.size_alloc]
 have hB23 : Below w2.heap.size w2 w3 := by rw [← hw3]; exact bel
 have R3 : RowI w3 w1.heap.size (List.replicate n 0) := R1.below hB23
 have L3 : Loc w3 w2.heap.size 38 #[.slice (some ⟨w1.heap.size, 0, none⟩) n n] := by rw [← hw3]; exact (made1 w2 #[.slice (some ⟨w1.heap.size, 0, none⟩) n n] 38).to
 have C3 : Loc w3 (w2.heap.size + 1) 24 #[.slice (some ⟨w2.heap.size, 0, none⟩) 1 1] := by rw [← hw3]; exact made2 w2 (.cells #[.slice (some ⟨w1.heap.size, 0, none⟩) n n] 38) #[.slice (some ⟨w2.heap.size, 0, none⟩) 1 1] 24
 have HB3 : Hid (Below w.heap.size w w3) := HB2.out.trans (hB23.mono (by omega))
 clear hB23 R1
 go_wp2_with (at_make; refine wpList_makeN _ rfl _ _ rfl Tryz.underlying38 info_int1 rfl w3.heap.size n2 rfl rfl (by omega) (by omega) (by omega) (by unfold maxLen; omega) (Nat.le_refl _) ?_)
 intro w4 hrow hg4
 have hB4 : Below w3.heap.size w3 w4 := below_none (Below.refl _ _) hg4 (Nat.le_refl _)
 have Q4 : RowI w4 w3.heap.size (List.replicate n2 0) := rowI_zeros hrow
 have y4 := Q4.lt
 have R4 := R3.below hB4
 have L4 := L3.below hB4
 have C4 := C3.below hB4
 have HB4 : Hid (Below w.heap.size w w4) := HB3.out.trans (hB4.mono (by have := HS3.out; omega))
 clear hrow hg4 hB4 R3 L3 C3
 obtain ⟨w5, hw5⟩ : ∃ W, (w4.alloc (.cells #[.slice (some ⟨w3.heap.size, 0, none⟩) n2 n2] 38)).alloc (.cells #[.slice (some ⟨w4.heap.size, 0, none⟩) 1 1] 24) = W := ⟨_, rfl⟩
 have HS5 : Hid (w5.heap.size = w4.heap.size + 1 + 1) := by show _ = _; rw [← hw5]; simp only [World.size_alloc]
 have hB45 : Below w4.heap.size w4 w5 := by rw [← hw5]; exact bel
 have R5 := R4.below hB45
 have L5 := L4.below hB45
 have C5 := C4.below hB45
 have Q5 := Q4.below hB45
 have M5 : Loc w5 w4.heap.size 38 #[.slice (some ⟨w3.heap.size, 0, none⟩) n2 n2] := by rw [← hw5]; exact (made1 w4 #[.slice (some ⟨w3.heap.size, 0, none⟩) n2 n2] 38).to
 have D5 : Loc w5 (w4.heap.size + 1) 24 #[.slice (some ⟨w4.heap.size, 0, none⟩) 1 1] := by rw [← hw5]; exact made2 w4 (.cells #[.slice (some ⟨w3.heap.size, 0, none⟩) n2 n2] 38) #[.slice (some ⟨w4.heap.size, 0, none⟩) 1 1] 24
 have HB5 : Hid (Below w.heap.size w w5) := HB4.out.trans (hB45.mono (by have := HS3.out; omega))
 clear hB45 R4 L4 C4 Q4
 go_upto_region 5 with fail
 obtain ⟨i, hi⟩ : ∃ i, p / 2 = i := ⟨_, rfl⟩
 obtain ⟨j, hj⟩ : ∃ i, q / 2 = i := ⟨_, rfl⟩
 have hin : i < n := by omega
 have hjn : j < n2 := by omega
 go_cut [] from 23 to 38 (fun W => RowI W w1.heap.size (unit n i) ∧ RowI W w3.heap.size (unit n2 j) ∧ Loc W w2.heap.size 38 #[.slice (some ⟨w1.heap.size, 0, none⟩) n n] ∧ Loc W (w2.heap.size + 1) 24 #[.slice (some ⟨w2.heap.size, 0, none⟩) 1 1] ∧ Loc W w4.heap.size 38 #[.slice (some ⟨w3.heap.size, 0, none⟩) n2 n2] ∧ Loc W (w4.heap.size + 1) 24 #[.slice (some ⟨w4.heap.size, 0, none⟩) 1 1] ∧ Below w.heap.size w W ∧ w4.heap.size + 1 < W.heap.size)
 case first =>
  go_wp2_with fail
  have t1 : IntKind.i64.wrap (p : Int) = (p : Int) := by rw [IntKind.wrap_i64]; omega
  have t2 : IntKind.i64.wrap (q : Int) = (q : Int) := by rw [IntKind.wrap_i64]; omega
  have t3 : IntKind.i64.wrap ((p : Int) / 2) = (i : Int) := by rw [IntKind.wrap_i64]; omega
  have t4 : IntKind.i64.wrap ((q : Int) / 2) = (j : Int) := by rw [IntKind.wrap_i64]; omega
  have k0 : (0 : Int) ≤ (i : Int) := by omega
  have k1 : (i : Int) < (n : Int) := by omega
  have k2 : (0 : Int) ≤ (j : Int) := by omega
  have k3 : (j : Int) < (n2 : Int) := by omega
  have R6 : RowI (w5.setCell ⟨w1.heap.size, i, none⟩ (.int .i64 1)) w1.heap.size (unit n i) := R5.set i 1
  have Q6 : RowI (w5.setCell ⟨w1.heap.size, i, none⟩ (.int .i64 1)) w3.heap.size (List.replicate n2 0) := Loc.far Q5 (by have := HS3.out; dsimp only; omega) _
  have L6 : Loc (w5.setCell ⟨w1.heap.size, i, none⟩ (.int .i64 1)) w2.heap.size _ _ := L5.far (by have := HS3.out; dsimp only; omega) _
  have C6 : Loc (w5.setCell ⟨w1.heap.size, i, none⟩ (.int .i64 1)) (w2.heap.size + 1) _ _ := C5.far (by have := HS3.out; dsimp only; omega) _
  have M6 : Loc (w5.setCell ⟨w1.heap.size, i, none⟩ (.int .i64 1)) w4.heap.size _ _ := M5.far (by have := HS3.out; dsimp only; omega) _
  have D6 : Loc (w5.setCell ⟨w1.heap.size, i, none⟩ (.int .i64 1)) (w4.heap.size + 1) _ _ := D5.far (by have := HS3.out; dsimp only; omega) _
  have HF : Hid (let W := ((w5.setCell ⟨w1.heap.size, i, none⟩ (.int .i64 1)).setCell ⟨w3.heap.size, j, none⟩ (.int .i64 1)); RowI W w1.heap.size (unit n i) ∧ RowI W w3.heap.size (unit n2 j) ∧ Loc W w2.heap.size 38 #[.slice (some ⟨w1.heap.size, 0, none⟩) n n] ∧ Loc W (w2.heap.size + 1) 24 #[.slice (some ⟨w2.heap.size, 0, none⟩) 1 1] ∧ Loc W w4.heap.size 38 #[.slice (some ⟨w3.heap.size, 0, none⟩) n2 n2] ∧ Loc W (w4.heap.size + 1) 24 #[.slice (some ⟨w4.heap.size, 0, none⟩) 1 1] ∧ Below w.heap.size w W ∧ w4.heap.size + 1 < W.heap.size) :=
   ⟨Loc.far R6 (by have := HS3.out; dsimp only; omega) _, Q6.set j 1, L6.far (by have := HS3.out; dsimp only; omega) _, C6.far (by have := HS3.out; dsimp only; omega) _, M6.far (by have := HS3.out; dsimp only; omega) _, D6.far (by have := HS3.out; dsimp only; omega) _, (HB5.out.setCell (by have := HS3.out; dsimp only; omega) _).setCell (by have := HS3.out; dsimp only; omega) _, by simp only [World.size_setCell]; have := HS5.out; omega⟩
  have g1 : w5.cell? ⟨w1.heap.size, i, none⟩ = some (.int .i64 0) := R5.cell (by rw [List.getElem?_replicate, if_pos hin])
  have f1 := Loc.frz R5
  have g2 : (w5.setCell ⟨w1.heap.size, i, none⟩ (.int .i64 1)).cell? ⟨w3.heap.size, j, none⟩ = some (.int .i64 0) := Q6.cell (by rw [List.getElem?_replicate, if_pos hjn])
  have f2 := Loc.frz Q6
  have g3 : w5.cell? ⟨w3.heap.size, j, none⟩ = some (.int .i64 0) := Q5.cell (by rw [List.getElem?_replicate, if_pos hjn])
  have f3 := Loc.frz Q5
  have q3 := Q5.lt
  have q1 := R5.lt
  have q2 := Q6.lt
  clear hi hj e1 e2 hn hn2 R6 Q6
  refine wp_region_noPanic ?_
  refine wp_region_held_drew (S := (fun W => ((W.cell? ⟨w2.heap.size + 1, 0, none⟩ = some (.slice (some ⟨w2.heap.size, 0, none⟩) 1 1) ∧ W.cell? ⟨w2.heap.size, 0, none⟩ = some (.slice (some ⟨w1.heap.size, 0, none⟩) n n)) ∧ W.cell? ⟨w4.heap.size + 1, 0, none⟩ = some (.slice (some ⟨w4.heap.size, 0, none⟩) 1 1) ∧ W.cell? ⟨w4.heap.size, 0, none⟩ = some (.slice (some ⟨w3.heap.size, 0, none⟩) n2 n2)))) (by kernel_rfl) ?_ (fun hHeld => ?_)
  ·exact ⟨⟨Loc.cell C5 0, Loc.cell L5 0⟩, Loc.cell D5 0, Loc.cell M5 0⟩
  refine takeT 0 hHeld ?_
  (try simp only [Act.put, ly])
  refine takeT 1 hHeld ?_
  (try simp only [Act.put, ly])
  refine takeT 2 hHeld ?_
  (try simp only [Act.put, ly])
  refine takeT 3 hHeld ?_
  (try simp only [Act.put, ly])
  refine takeT 4 hHeld ?_
  (try simp only [Act.put, ly])
  refine takeT 5 hHeld ?_
  (try simp only [Act.put, ly])
  refine takeT 6 hHeld ?_
  (try simp only [Act.put, ly])
  refine takeT 7 hHeld ?_
  (try simp only [Act.put, ly])
  refine takeT 8 hHeld ?_
  (try simp only [Act.put, ly])
  refine takeT 9 hHeld ?_
  (try simp only [Act.put, ly])
  refine takeT 10 hHeld ?_
  (try simp only [Act.put, ly])
  refine takeT 11 hHeld ?_
  (try simp only [Act.put, ly])
  refine takeT 12 hHeld ?_
  (try simp only [Act.put, ly])
  refine takeT 13 hHeld ?_
  (try simp only [Act.put, ly])
  refine takeT 14 hHeld ?_
  (try simp only [Act.put, ly])
  refine wpAnyH_ready (rs := [15]) (by kernel_rfl) (by simp) ?_
  refine AllReadyH.cons rfl (fun K hK => ?_) AllReadyH.nil
  go_simp
  (try go_wp2_with fail)
  refine hK.out _ _ ?_ (fun hHeld => ?_)
  ·(try dsimp only)
   exact ⟨⟨Loc.cell C6 0, Loc.cell L6 0⟩, Loc.cell D6 0, Loc.cell M6 0⟩
  clear hK K
  (try simp only [Act.put, ly])
  refine takeT 16 hHeld ?_
  (try simp only [Act.put, ly])
  refine wpAnyH_ready (rs := [17]) (by kernel_rfl) (by simp) ?_
  refine AllReadyH.cons rfl (fun K hK => ?_) AllReadyH.nil
  go_simp
  (try go_wp2_with fail)
  refine hK.out _ _ ?_ (fun hHeld => ?_)
  ·(try dsimp only)
   exact ⟨⟨Loc.cell HF.out.2.2.2.1 0, Loc.cell HF.out.2.2.1 0⟩, Loc.cell HF.out.2.2.2.2.2.1 0, Loc.cell HF.out.2.2.2.2.1 0⟩
  clear hK K
  (try simp only [Act.put, ly])
  refine wpAnyH_done (by kernel_rfl) ?_ _
  refine NoPanic.normal ?_
  clear g1 f1 g2 f2 q1 q2 g3 f3 q3
  go_wp2_with fail
  go_meet
  obtain ⟨a1, a2, a3, a4, a5, a6, -, a8⟩ := HF.out
  exact ⟨a1, a2, a3, a4, a5, a6, (HB5.out.drew.setCell (by dsimp only; omega) _).setCell (by have := HS3.out; dsimp only; omega) _, a8⟩
 case rest =>
  obtain ⟨R6, Q6, L6, C6, M6, D6, hB6, y6⟩ := hcut
  obtain ⟨w6, rfl⟩ : ∃ w2 : World, w2 = wc := ⟨_, rfl⟩
  have HB6 := Lib.hid hB6
  clear hB6 R5 Q5 L5 C5 M5 D5
  have HI1 : Hid (IMat w6 (.slice (some ⟨w2.heap.size, 0, none⟩) 1 1) [unit n i]) := imat_one (by rw [unit_len]; exact L6) R6 (by rw [unit_len]; unfold maxLen; omega) (fun z hz => by rcases unit_mem hz with h | h <;> omega)
  have HI2 : Hid (IMat w6 (.slice (some ⟨w4.heap.size, 0, none⟩) 1 1) [unit n2 j]) := imat_one (by rw [unit_len]; exact M6) Q6 (by rw [unit_len]; unfold maxLen; omega) (fun z hz => by rcases unit_mem hz with h | h <;> omega)
  obtain ⟨e3, f3, -⟩ := C6.all (w' := w6)
  obtain ⟨e4, f4, -⟩ := D6.all (w' := w6)
  go_wp2_with fail
  refine (decide_any _ _ _ [unit n i] [unit n2 j] HI1.out HI2.out (uni_sz hin hjn)).mono ?_
  rintro e w7 ⟨b, vW, vG, mW, K, F, G, code, rfl, hmm, hd, hb7⟩
  obtain ⟨hbig, hsml⟩ := uni_dec hin (by omega) hjn (by omega) hd.out
  have HMW := Lib.hid hmm.out.1
  obtain ⟨AW, cW, rfl, -, -, -⟩ := hmm.out.1.op
  obtain ⟨AG, cG, rfl, -, -, -⟩ := hmm.out.2.op
  have y7 := hb7.size; (try simp only [zs] at y7)
  have HB7 : Hid (Below w.heap.size w w7) := HB6.out.trans (hb7.mono (by have := HB6.out.size; omega))
  have HB67 := Lib.hid hb7
  have L7 := L6.below hb7
  have C7 := C6.below hb7
  have M7 := M6.below hb7
  have D7 := D6.below hb7
  have hI1 : IMat w7 _ _ := HI1.out.keep (.of_below hb7)
  have hI2 : IMat w7 _ _ := HI2.out.keep (.of_below hb7)
  have HBIG := Lib.hid hbig
  have HSML := Lib.hid hsml
  clear e3 f3 e4 f4 hmm hd hbig hsml hb7
  have T7 := made1 w7 #[.bool b, .slice AW mW cW, .slice AG K cG] 27
  have hBA : Below w7.heap.size w7 (w7.alloc (.cells #[.bool b, .slice AW mW cW, .slice AG K cG] 27)) := below1 w7 _
  have L8 := L7.below hBA
  have C8 := C7.below hBA
  have M8 := M7.below hBA
  have D8 := D7.below hBA
  have HMW8 := Lib.hid (HMW.out.keep (.of_below hBA))
  have HJ1 : Hid (IMat (w7.alloc (.cells #[.bool b, .slice AW mW cW, .slice AG K cG] 27)) _ _) := hI1.keep (.of_below hBA)
  have HJ2 : Hid (IMat (w7.alloc (.cells #[.bool b, .slice AW mW cW, .slice AG K cG] 27)) _ _) := hI2.keep (.of_below hBA)
  have HB8 : Hid (Below w.heap.size w (w7.alloc (.cells #[.bool b, .slice AW mW cW, .slice AG K cG] 27))) := HB7.out.trans (hBA.mono (by have := HB7.out.size; omega))
  obtain ⟨w8, hw8⟩ : ∃ W, (w7.alloc (.cells #[.bool b, .slice AW mW cW, .slice AG K cG] 27)) = W := ⟨_, rfl⟩
  rw [hw8] at T7 L8 C8 M8 D8 HMW8 HJ1 HJ2 HB8
  clear hBA L7 C7 M7 D7 hI1 hI2 L6 C6 M6 D6 R6 Q6
  obtain ⟨P, hP⟩ : ∃ P, n * n2 = P := ⟨_, rfl⟩
  have hPb : P ≤ 65536 := by rw [← hP]; exact Nat.mul_le_mul (by omega : n ≤ 256) (by omega : n2 ≤ 256)
  have t1 : (n : Int) * (n2 : Int) = (P : Int) := by rw [← hP, Int.natCast_mul]
  have t2 : IntKind.i64.wrap ((n : Int) * (n2 : Int)) = (P : Int) := by rw [t1, IntKind.wrap_i64]; omega
  have t3 : IntKind.i64.wrap (P : Int) = (P : Int) := by rw [IntKind.wrap_i64]; omega
  rw [hP] at HBIG HSML
  clear hP
  obtain ⟨e3, f3, -⟩ := T7.all (w' := w8)
  by_cases hp80 : 80 < P
  ·have d1 : decide ((80 : Int) < (P : Int)) = true := decide_eq_true (by omega)
   obtain ⟨rfl, rfl⟩ := HBIG.out (.inl hp80)
   clear hp80
   go_upto_region 7 with fail
   refine wp_region_noPanic ?_
   refine wp_region_held_drew (S := (fun W => ((W.cell? ⟨w2.heap.size + 1, 0, none⟩ = some (.slice (some ⟨w2.heap.size, 0, none⟩) 1 1) ∧ W.cell? ⟨w2.heap.size, 0, none⟩ = some (.slice (some ⟨w1.heap.size, 0, none⟩) n n)) ∧ W.cell? ⟨w4.heap.size + 1, 0, none⟩ = some (.slice (some ⟨w4.heap.size, 0, none⟩) 1 1) ∧ W.cell? ⟨w4.heap.size, 0, none⟩ = some (.slice (some ⟨w3.heap.size, 0, none⟩) n2 n2)))) (by kernel_rfl) ?_ (fun hHeld => ?_)
   ·exact ⟨⟨Loc.cell C8 0, Loc.cell L8 0⟩, Loc.cell D8 0, Loc.cell M8 0⟩
   refine takeT 0 hHeld ?_
   (try simp only [Act.put, ly])
   refine takeT 1 hHeld ?_
   (try simp only [Act.put, ly])
   refine takeT 2 hHeld ?_
   (try simp only [Act.put, ly])
   refine takeT 3 hHeld ?_
   (try simp only [Act.put, ly])
   refine takeT 4 hHeld ?_
   (try simp only [Act.put, ly])
   refine takeT 5 hHeld ?_
   (try simp only [Act.put, ly])
   refine takeT 6 hHeld ?_
   (try simp only [Act.put, ly])
   refine takeT 7 hHeld ?_
   (try simp only [Act.put, ly])
   refine takeT 8 hHeld ?_
   (try simp only [Act.put, ly])
   refine takeT 9 hHeld ?_
   (try simp only [Act.put, ly])
   refine takeT 10 hHeld ?_
   (try simp only [Act.put, ly])
   refine takeT 11 hHeld ?_
   (try simp only [Act.put, ly])
   refine takeT 12 hHeld ?_
   (try simp only [Act.put, ly])
   refine offT 13 hHeld ?_
   refine offT 14 hHeld ?_
   refine offT 15 hHeld ?_
   refine offT 16 hHeld ?_
   refine offT 17 hHeld ?_
   refine offT 18 hHeld ?_
   refine offT 19 hHeld ?_
   refine offT 20 hHeld ?_
   refine offT 21 hHeld ?_
   refine offT 22 hHeld ?_
   refine offT 23 hHeld ?_
   refine offT 24 hHeld ?_
   (try simp only [Act.put, ly])
   refine takeT 25 hHeld ?_
   (try simp only [Act.put, ly])
   refine wpAnyH_done (by kernel_rfl) ?_ _
   refine NoPanic.normal ?_
   go_wp2_with fail
   go_ret
   exact ⟨rfl, HB8.out.drew⟩
  have d1 : decide ((80 : Int) < (P : Int)) = false := decide_eq_false (by omega)
  have t4 : IntKind.i64.wrap ((n : Int) + (n2 : Int)) = (n : Int) + (n2 : Int) := by rw [IntKind.wrap_i64]; omega
  by_cases hs80 : 80 < n + n2
  ·have d2 : decide ((80 : Int) < (n : Int) + (n2 : Int)) = true := decide_eq_true (by omega)
   obtain ⟨rfl, rfl⟩ := HBIG.out (.inr hs80)
   clear hp80 hs80
   go_upto_region 7 with fail
   refine wp_region_noPanic ?_
   refine wp_region_held_drew (S := (fun W => ((W.cell? ⟨w2.heap.size + 1, 0, none⟩ = some (.slice (some ⟨w2.heap.size, 0, none⟩) 1 1) ∧ W.cell? ⟨w2.heap.size, 0, none⟩ = some (.slice (some ⟨w1.heap.size, 0, none⟩) n n)) ∧ W.cell? ⟨w4.heap.size + 1, 0, none⟩ = some (.slice (some ⟨w4.heap.size, 0, none⟩) 1 1) ∧ W.cell? ⟨w4.heap.size, 0, none⟩ = some (.slice (some ⟨w3.heap.size, 0, none⟩) n2 n2)))) (by kernel_rfl) ?_ (fun hHeld => ?_)
   ·exact ⟨⟨Loc.cell C8 0, Loc.cell L8 0⟩, Loc.cell D8 0, Loc.cell M8 0⟩
   refine takeT 0 hHeld ?_
   (try simp only [Act.put, ly])
   refine takeT 1 hHeld ?_
   (try simp only [Act.put, ly])
   refine takeT 2 hHeld ?_
   (try simp only [Act.put, ly])
   refine takeT 3 hHeld ?_
   (try simp only [Act.put, ly])
   refine takeT 4 hHeld ?_
   (try simp only [Act.put, ly])
   refine takeT 5 hHeld ?_
   (try simp only [Act.put, ly])
   refine takeT 6 hHeld ?_
   (try simp only [Act.put, ly])
   refine takeT 7 hHeld ?_
   (try simp only [Act.put, ly])
   refine takeT 8 hHeld ?_
   (try simp only [Act.put, ly])
   refine takeT 9 hHeld ?_
   (try simp only [Act.put, ly])
   refine takeT 10 hHeld ?_
   (try simp only [Act.put, ly])
   refine takeT 11 hHeld ?_
   (try simp only [Act.put, ly])
   refine takeT 12 hHeld ?_
   (try simp only [Act.put, ly])
   refine takeT 13 hHeld ?_
   (try simp only [Act.put, ly])
   refine takeT 14 hHeld ?_
   (try simp only [Act.put, ly])
   refine takeT 15 hHeld ?_
   (try simp only [Act.put, ly])
   refine takeT 16 hHeld ?_
   (try simp only [Act.put, ly])
   refine takeT 17 hHeld ?_
   (try simp only [Act.put, ly])
   refine takeT 18 hHeld ?_
   (try simp only [Act.put, ly])
   refine takeT 19 hHeld ?_
   (try simp only [Act.put, ly])
   refine takeT 20 hHeld ?_
   (try simp only [Act.put, ly])
   refine takeT 21 hHeld ?_
   (try simp only [Act.put, ly])
   refine takeT 22 hHeld ?_
   (try simp only [Act.put, ly])
   refine takeT 23 hHeld ?_
   (try simp only [Act.put, ly])
   refine takeT 24 hHeld ?_
   (try simp only [Act.put, ly])
   refine takeT 25 hHeld ?_
   (try simp only [Act.put, ly])
   refine wpAnyH_done (by kernel_rfl) ?_ _
   refine NoPanic.normal ?_
   go_wp2_with fail
   go_ret
   exact ⟨rfl, HB8.out.drew⟩
  have d2 : decide ((80 : Int) < (n : Int) + (n2 : Int)) = false := decide_eq_false (by omega)
  have hno : ¬ (80 < P ∨ 80 < n + n2) := by omega
  have hn80 : n ≤ 80 := by omega
  have hn280 : n2 ≤ 80 := by omega
  obtain ⟨rfl, rfl, hmn, hwit⟩ := HSML.out hno
  have hm80 : mW ≤ 80 := by omega
  have HWIT := Lib.hid hwit
  clear hp80 hs80 hno hwit hmn
  obtain ⟨e5, f5, -⟩ := C8.all (w' := w8)
  obtain ⟨e6, f6, -⟩ := D8.all (w' := w8)
  have hw2 : wid [unit n2 j] = n2 := uni_wid
  rw [hw2] at HMW8
  clear hw2
  go_upto_region 7 with fail
  refine wp_region_noPanic ?_
  refine wp_region_held_drew (S := (fun W => ((W.cell? ⟨w2.heap.size + 1, 0, none⟩ = some (.slice (some ⟨w2.heap.size, 0, none⟩) 1 1) ∧ W.cell? ⟨w2.heap.size, 0, none⟩ = some (.slice (some ⟨w1.heap.size, 0, none⟩) n n)) ∧ W.cell? ⟨w4.heap.size + 1, 0, none⟩ = some (.slice (some ⟨w4.heap.size, 0, none⟩) 1 1) ∧ W.cell? ⟨w4.heap.size, 0, none⟩ = some (.slice (some ⟨w3.heap.size, 0, none⟩) n2 n2)))) (by kernel_rfl) ?_ (fun hHeld => ?_)
  ·exact ⟨⟨Loc.cell C8 0, Loc.cell L8 0⟩, Loc.cell D8 0, Loc.cell M8 0⟩
  refine takeT 0 hHeld ?_
  (try simp only [Act.put, ly])
  refine takeT 1 hHeld ?_
  (try simp only [Act.put, ly])
  refine takeT 2 hHeld ?_
  (try simp only [Act.put, ly])
  refine takeT 3 hHeld ?_
  (try simp only [Act.put, ly])
  refine takeT 4 hHeld ?_
  (try simp only [Act.put, ly])
  refine takeT 5 hHeld ?_
  (try simp only [Act.put, ly])
  refine takeT 6 hHeld ?_
  (try simp only [Act.put, ly])
  refine takeT 7 hHeld ?_
  (try simp only [Act.put, ly])
  refine takeT 8 hHeld ?_
  (try simp only [Act.put, ly])
  refine takeT 9 hHeld ?_
  (try simp only [Act.put, ly])
  refine takeT 10 hHeld ?_
  (try simp only [Act.put, ly])
  refine takeT 11 hHeld ?_
  (try simp only [Act.put, ly])
  refine takeT 12 hHeld ?_
  (try simp only [Act.put, ly])
  refine takeT 13 hHeld ?_
  (try simp only [Act.put, ly])
  refine takeT 14 hHeld ?_
  (try simp only [Act.put, ly])
  refine takeT 15 hHeld ?_
  (try simp only [Act.put, ly])
  refine takeT 16 hHeld ?_
  (try simp only [Act.put, ly])
  refine takeT 17 hHeld ?_
  (try simp only [Act.put, ly])
  refine takeT 18 hHeld ?_
  (try simp only [Act.put, ly])
  refine takeT 19 hHeld ?_
  (try simp only [Act.put, ly])
  refine takeT 20 hHeld ?_
  (try simp only [Act.put, ly])
  refine takeT 21 hHeld ?_
  (try simp only [Act.put, ly])
  refine takeT 22 hHeld ?_
  (try simp only [Act.put, ly])
  refine takeT 23 hHeld ?_
  (try simp only [Act.put, ly])
  refine takeT 24 hHeld ?_
  (try simp only [Act.put, ly])
  refine takeT 25 hHeld ?_
  (try simp only [Act.put, ly])
  refine wpAnyH_done (by kernel_rfl) ?_ _
  refine NoPanic.normal ?_
  go_wp2_with fail
  refine (lwitness_any _ _ _ _ [unit n i] [unit n2 j] mW 44 (fun _ => n2) F (HJ1.out.keep (.of_below (Below.refl _ _).drew)) (HJ2.out.keep (.of_below (Below.refl _ _).drew)) (HMW8.out.keep (.of_below (Below.refl _ _).drew)) (by omega) (fun _ _ => by omega) (by decide) (by decide)).mono ?_
  rintro e w9 ⟨he, hb9⟩
  have he := he.eq (b := true) ⟨fun _ => HWIT.out, fun _ => rfl⟩
  subst he
  have y9 := hb9.size; (try simp only [zs] at y9)
  have HB9 : Hid (Below w.heap.size w w9) := HB8.out.trans (Below.mono (bel : Below w8.heap.size w8 w9) (by have := HB8.out.size; omega))
  go_wp2_with fail
  go_ret
  exact ⟨rfl, HB9.out⟩
theorem limits_int (w : World) (a b : Int) (ha : 0 ≤ a ∧ a ≤ 255) (hb : 0 ≤ b ∧ b ≤ 255) :
 Calls Tryz.prog 5 #[.int .u8 a, .int .u8 b] w fun e w' => e = .returned (.bool true) ∧ Below w.heap.size w w' := by
 obtain ⟨p, rfl⟩ := Int.eq_ofNat_of_zero_le ha.1
 obtain ⟨q, rfl⟩ := Int.eq_ofNat_of_zero_le hb.1
 exact limits_walk w p q (by omega) (by omega)
end Go.Proofs.YtdambnieminnfaaGreat

/- The statement 'RefinementLimits' out of its walk. The frame is the guide's own (proof-skeleton), printed by lawgen.py. -/
namespace Go.Proofs.YtdambnieminnfaaGreat.refinementLimits
open Go.ChangeShapes Go.WideShapes Go.ChangeAt Go.RowKit Go.Proofs.YtdambnieminnfaaGreat
open Go.ChangeMaps (open_string shut_string)
set_option linter.unusedVariables false

set_option maxRecDepth 100000 in
theorem lifted (os : Os) (started : os.Started) (H : Type) (enc : TypeId × Value → H) :
 ReturnsInHanded {} Tryz.checked os 5 .any (Rows.refinementLimitsSpec.pre6 enc Tryz.prog Tryz.f5 Rows.refinementLimitsRow.domain false) (Rows.refinementLimitsSpec.post enc Tryz.prog Tryz.f5 false true false false) := by
 refine returnsInHanded_of_change (C := Tryz.checked) own started (by kernel_rfl) Tryz.func5
  (ChangeSpec.witness6 (enc := enc) (C := Tryz.checked) false ⟨#[], #[.int .u8 0, .int .u8 0], []⟩ 8 (by kernel_rfl) (by kernel_rfl) (by kernel_rfl) (by kernel_rfl)) ?_
 intro W base args ds gs before hval0 hW hcnd _
 have hval : ∀ (j : Nat) t v, Tryz.f5.params[j]? = some t → args[j]? = some v → Value.okWide Tryz.prog W .any base t v := hval0
 have hW' := hW
 obtain ⟨p, q, hA0, hV, rfl, hfz, hnd⟩ := hW
 have hA : DataW.TrodAll enc Tryz.prog W 0 (fun _ => true) true Tryz.f5.params.toList args.toList ds p := hA0
 rw [Tryz.params5] at hA hval
 obtain ⟨v0, vs0, d0, ds0, p0, q0, hargs, rfl, rfl, h0, r0⟩ := trodAll_cons hA
 obtain ⟨v1, vs1, d1, ds1, p1, q1, rfl, rfl, rfl, h1, r1⟩ := trodAll_cons r0
 obtain ⟨rfl, rfl, rfl⟩ := trodAll_nil r1
 obtain rfl : args = #[v0, v1] := by cases args; simp_all
 obtain ⟨rfl, rfl⟩ := trodVars_none hV
 have lt0 : ∀ x ∈ p0, x.block < W.heap.size := by obtain ⟨m, hm⟩ := h0; exact DataW.trod_lt m _ _ _ hm
 have k0 := fun (W' : World) (bel : Below W.heap.size W W') => Below.trod laidOut (by kernel_rfl) (of_decide_eq_true (by kernel_rfl)) h0 bel lt0
 obtain ⟨a0, e0, _, _, w0⟩ := open_int Tryz.underlying5 (hval 0 5 v0 rfl rfl) h0
 have b0 := bounds_u8 w0
 have lt1 : ∀ x ∈ p1, x.block < W.heap.size := by obtain ⟨m, hm⟩ := h1; exact DataW.trod_lt m _ _ _ hm
 have k1 := fun (W' : World) (bel : Below W.heap.size W W') => Below.trod laidOut (by kernel_rfl) (of_decide_eq_true (by kernel_rfl)) h1 bel lt1
 obtain ⟨a1, e1, _, _, w1⟩ := open_int Tryz.underlying5 (hval 1 5 v1 rfl rfl) h1
 have b1 := bounds_u8 w1
 subst e0
 subst e1
 refine (limits_int _ _ _ b0 b1).mono fun e W' ⟨he, bel⟩ => ?_
 subst he
 exact ⟨_, rfl, _, _, _, [], _, [], hW', trodAll_mk1 (shut_bool Tryz.underlying4 _), (trodAll_cons_mk (k0 _ bel) (trodAll_cons_mk (k1 _ bel) trodAll_mk0)), rfl, bel.frame _, fun h => by cases h⟩

theorem over : Rows.refinementLimitsRow.holds Tryz.pinned (OpenSpec.ofChange Rows.refinementLimitsSpec) :=
 OpenClaim.holds_of_wide 5 Tryz.f5 rfl rfl rfl rfl rfl rfl rfl ⟨rfl, rfl, rfl, rfl, rfl⟩ rfl rfl rfl rfl rfl (by kernel_rfl) Tryz.func5 (by kernel_rfl)
  (of_decide_eq_true (by kernel_rfl)) (by unfold Func.isWrapper; first | (rw [if_pos (by decide +kernel)]; kernel_rfl) | (rw [if_neg (by decide +kernel)]; exact ⟨rfl, rfl⟩))
  (fun os started H enc _ => lifted os started H enc)

/-- The statement: for every input the law returns true; each argument reads behind the call as it read before. -/
theorem proved : Rows.RefinementLimitsSaid := over
end Go.Proofs.YtdambnieminnfaaGreat.refinementLimits

