/- Contracts of the functions that the statements reach, part 25. -/
import Derived.Test.YtbdcjhoedhhabaaGreatRows
import Derived.Test.YtbdcjhoedhhabaaGreatD23
import Derived.Test.YtbdcjhoedhhabaaGreatD24
set_option linter.unusedSimpArgs false
set_option linter.unusedVariables false

/- checker.split, slices.Max, adaptive.parts. Printed by gen_hd5.py. -/
namespace Go.Proofs.YtbdcjhoedhhabaaGreat
open Go.RowKit
attribute [local go_sem ↓] Go.wp_at_zero Go.wp_at_succ
attribute [local go_sem] run_max2

/-- A canonical list's numbers are not above their places. -/
theorem canGo_le : ∀ (zs : List Int) (n : Int), 0 ≤ n → canGo n zs → ∀ (i : Nat) (z : Int), zs[i]? = some z → 0 ≤ z ∧ z ≤ n + i
 | [], _, _, _, i, z, h => by simp at h
 | c :: l, n, h0, h, 0, z, hz => by
   simp only [List.getElem?_cons_zero, Option.some.injEq] at hz
   subst hz
   have := h.1
   omega
 | c :: l, n, h0, h, i + 1, z, hz => by
   simp only [List.getElem?_cons_succ] at hz
   have h1 := canGo_le l (max n (c + 1)) (by omega) h.2 i z hz
   have := h.1
   omega

/-- The greatest number of a list. -/
def lmax : List Int → Int
 | [] => 0
 | z :: l => l.foldl max z
theorem lmax_take {zs : List Int} {j : Nat} {z : Int} (h0 : 0 < j) (h : zs[j]? = some z) : lmax (zs.take (j + 1)) = max (lmax (zs.take j)) z := by
 rw [List.take_add_one, h]
 match zs, j with
 | [], _ => simp at h
 | y :: l, j + 1 =>
   rw [List.take_succ_cons]
   show (List.foldl max y (l.take j ++ [z])) = _
   rw [List.foldl_append]
   rfl
theorem foldl_max_ge : ∀ (l : List Int) (y : Int), y ≤ l.foldl max y ∧ ∀ z ∈ l, z ≤ l.foldl max y
 | [], y => ⟨Int.le_refl _, fun z hz => by simp at hz⟩
 | x :: l, y => by
   obtain ⟨h1, h2⟩ := foldl_max_ge l (max y x)
   rw [List.foldl_cons]
   refine ⟨by omega, fun z hz => ?_⟩
   rcases List.mem_cons.1 hz with rfl | hz
   ·omega
   ·exact h2 z hz
theorem foldl_max_mem : ∀ (l : List Int) (y : Int), l.foldl max y = y ∨ l.foldl max y ∈ l
 | [], y => .inl rfl
 | x :: l, y => by
   rw [List.foldl_cons]
   rcases foldl_max_mem l (max y x) with h | h
   ·rw [h, Int.max_def]
    split
    ·exact .inr (by simp)
    ·exact .inl rfl
   ·exact .inr (List.mem_cons_of_mem _ h)
theorem lmax_ge {zs : List Int} {z : Int} (h : z ∈ zs) : z ≤ lmax zs := by
 match zs with
 | y :: l =>
   obtain ⟨h1, h2⟩ := foldl_max_ge l y
   rcases List.mem_cons.1 h with rfl | h
   ·exact h1
   ·exact h2 z h
theorem lmax_mem {zs : List Int} (h : zs ≠ []) : lmax zs ∈ zs := by
 match zs with
 | y :: l =>
   rcases foldl_max_mem l y with h1 | h1
   ·show l.foldl max y ∈ y :: l
    rw [h1]; simp
   ·exact List.mem_cons_of_mem _ h1

set_option maxRecDepth 100000 in
set_option maxHeartbeats 4000000 in
theorem max_any (w : World) (v : Value) (zs : List Int) (h : IntsV w v zs) (hne : 1 ≤ zs.length) :
 Calls Tryz.prog 365 #[v] w fun e w' => e = .returned (.int .i64 (lmax zs)) ∧ Below w.heap.size w w' := by
 have H := Lib.hid h
 obtain ⟨A, cap, rfl, h, l1, l2⟩ := h.op
 clear h
 obtain ⟨n, hn⟩ : ∃ n, zs.length = n := ⟨_, rfl⟩
 have HN := Lib.hid hn
 have H2 : Hid (IntsV w (.slice A n cap) zs) := by have h9 := H.out; rw [hn] at h9; exact h9
 rw [hn] at l1 hne ⊢
 have hnb : n ≤ 9223372036854775807 := by unfold maxLen at l2; omega
 obtain ⟨R, hR⟩ : ∃ R, lmax zs = R := ⟨_, rfl⟩
 rw [hR]
 have HR := Lib.hid hR
 clear hn H hR
 obtain ⟨z0, hz0⟩ : ∃ z, zs[0]? = some z := ⟨_, List.getElem?_eq_getElem (by rw [HN.out]; omega)⟩
 obtain ⟨a, rfl, hab, hcell, -, -⟩ := H2.out.at hz0
 have HS : Hid (lmax (zs.take 1) = z0) := by
  show _ = _
  match zs, hz0 with
  | y :: l, h =>
    simp only [List.getElem?_cons_zero, Option.some.injEq] at h
    subst h
    rfl
 rw [add_zero'] at hcell
 have d0 : decide ((n : Int) < 1) = false := decide_eq_false (by omega)
 have d0' : decide (n < 1) = false := decide_eq_false (by omega)
 have p0 : (0 : Int) < (n : Int) := by omega
 clear hz0
 go_enter Tryz.func365, Tryz.ntmps365
 go_wp2_with fail
 clear hcell
 go_loopw [3, 4] (fun mv i wr => ∃ (c : Nat), 1 ≤ c ∧ c ≤ n ∧ i = .int .i64 c ∧ mv = .int .i64 (lmax (zs.take c)) ∧ Below w.heap.size w wr) (fun _ i _ => n - (intOf i).toNat)
 case atStart => exact ⟨1, by omega, by omega, rfl, by first | rfl | rw [HS.out], bel⟩
 case round =>
  obtain ⟨c, hc1, hc, rfl, rfl, hB⟩ := hrel
  obtain ⟨wo, rfl⟩ : ∃ wo : World, wo = wr := ⟨_, rfl⟩
  have y5 := hB.size; (try simp only [zs] at y5)
  obtain ⟨M, hM⟩ : ∃ M, lmax (zs.take c) = M := ⟨_, rfl⟩
  rw [hM]
  have HM := Lib.hid hM
  clear hM
  by_cases hlt : c < n
  ·obtain ⟨z, hz⟩ : ∃ z, zs[c]? = some z := ⟨_, List.getElem?_eq_getElem (by rw [HN.out]; exact hlt)⟩
   obtain ⟨a', ea, hab', hcell, -, -⟩ := (H2.out.keep (.of_below hB)).at hz
   injection ea with ea
   subst ea
   have HNX : Hid (lmax (zs.take (c + 1)) = max M z) := by show _ = _; rw [lmax_take (by omega) hz, HM.out]
   have k0 : (0 : Int) ≤ (c : Int) := by omega
   have k1 : (c : Int) < (n : Int) := by omega
   clear hz
   go_wp2_with fail
   go_roundw
   case rel => exact ⟨c + 1, by omega, by omega, by go_num, by first | rfl | rw [HNX.out], bel⟩
   case measure => simp only [intOf]; omega
  ·obtain rfl : c = n := by omega
   have HE : Hid (M = R) := by
    show _ = _
    rw [← HM.out, ← HR.out, List.take_of_length_le (by rw [HN.out]; exact Nat.le_refl _)]
   go_wp2_with fail
   go_ret
   exact ⟨by first | rfl | (rw [HE.out]; rfl) | rw [HE.out], bel⟩


set_option maxRecDepth 100000 in
set_option maxHeartbeats 8000000 in
theorem split_any (w : World) (v : Value) (vs : List Int) (S : Nat) (h : IntsV w v vs) (hl : vs.length ≤ 62) (hcg : canGo 0 vs) (hS : S < 4611686018427387904) :
 Calls Tryz.prog 145 #[v, .int .i64 (S : Int)] w fun e w' => (∃ v', e = .returned v' ∧ Hid (IntsV w' v' (nzs (parts vs S vs.length vs.length)))) ∧ Below w.heap.size w w' := by
 have H := Lib.hid h
 obtain ⟨A, cap, rfl, h, l1, l2⟩ := h.op
 clear h
 obtain ⟨n, hn⟩ : ∃ n, vs.length = n := ⟨_, rfl⟩
 have HN := Lib.hid hn
 have H2 : Hid (IntsV w (.slice A n cap) vs) := by have h9 := H.out; rw [hn] at h9; exact h9
 rw [hn] at l1 hl ⊢
 have HCL : Hid (∀ (i : Nat) (z : Int), vs[i]? = some z → 0 ≤ z ∧ z < n) := fun i z hz => by
  have h1 := canGo_le vs 0 (by omega) hcg i z hz
  have h2 := (List.getElem?_eq_some_iff.1 hz).1
  omega
 have hSb : S < 9223372036854775808 := by omega
 clear hn H hcg
 go_enter Tryz.func145, Tryz.ntmps145
 go_wp2_with (at_make; refine wpList_makeN _ rfl _ _ rfl Tryz.underlying27 info_int1 rfl w.heap.size n rfl rfl rfl rfl (by omega) (by unfold maxLen; omega) (Nat.le_refl _) ?_)
 intro w1 hrow hg1
 have HB1 : Hid (Below w.heap.size w w1) := below_none (Below.refl _ _) hg1 (Nat.le_refl _)
 have hB1 := HB1.out
 have y1 := hB1.size; (try simp only [zs] at y1)
 have HR1 : Hid (RowI w1 w.heap.size (parts vs S n 0)) := by show RowI _ _ _; rw [parts_zero]; exact rowI_zeros hrow
 clear hrow hg1
 go_wp2_with fail
 go_loopw [13] (fun i wr => ∃ (c : Nat), c ≤ n ∧ i = .int .i64 c ∧ Hid (RowI wr w.heap.size (parts vs S n c)) ∧ Below w.heap.size w wr) (fun i _ => n - (intOf i).toNat)
 case atStart => exact ⟨0, by omega, rfl, HR1, HB1.out⟩
 case round =>
  clear HR1 HB1
  obtain ⟨c, hc, rfl, hRW, hB⟩ := hrel
  obtain ⟨wo, rfl⟩ : ∃ wo : World, wo = wr := ⟨_, rfl⟩
  have y5 := hB.size; (try simp only [zs] at y5)
  by_cases hlt : c < n
  ·obtain ⟨z, hz⟩ : ∃ z, vs[c]? = some z := ⟨_, List.getElem?_eq_getElem (by rw [HN.out]; exact hlt)⟩
   obtain ⟨a, rfl, hab, hcell, -, -⟩ := (H2.out.keep (.of_below hB)).at hz
   obtain ⟨hz0, hz1⟩ := HCL.out c z hz
   obtain ⟨k, rfl⟩ : ∃ k : Nat, z = (k : Int) := ⟨z.toNat, by omega⟩
   have hkn : k < n := by omega
   have HPUT := Lib.hid (parts_set (S := S) hz hkn)
   have cw := RowI.cell hRW.out (parts_get vs S c hkn)
   have hob : pSet vs S (k : Int) c < 9223372036854775808 := Nat.lt_of_le_of_lt (pSet_le _ _ _ _) hSb
   obtain ⟨old, hold⟩ : ∃ q, pSet vs S (k : Int) c = q := ⟨_, rfl⟩
   rw [hold] at cw hob HPUT
   have s1 := shl_one (c := c) (by omega)
   obtain ⟨P2, hP2⟩ : ∃ q : Nat, 2 ^ c = q := ⟨_, rfl⟩
   have hP2b : P2 < 9223372036854775808 := by rw [← hP2]; exact Nat.lt_of_le_of_lt (Nat.pow_le_pow_right (by decide) (show c ≤ 62 by omega)) (by decide)
   rw [hP2] at s1 HPUT
   have s2 := bits_and hSb hP2b
   obtain ⟨q, hq⟩ : ∃ q : Nat, S &&& P2 = q := ⟨_, rfl⟩
   have hqb : q < 9223372036854775808 := by rw [← hq]; exact Nat.lt_of_le_of_lt Nat.and_le_left hSb
   rw [hq] at s2 HPUT
   have s3 := bits_or hob hqb
   obtain ⟨nw, hnw⟩ : ∃ q' : Nat, old ||| q = q' := ⟨_, rfl⟩
   rw [hnw] at s3 HPUT
   have k0 : (0 : Int) ≤ (c : Int) := by omega
   have k1 : (c : Int) < (n : Int) := by omega
   have k2 : (0 : Int) ≤ (k : Int) := by omega
   have k3 : (k : Int) < (n : Int) := by omega
   have HLS : Hid (wo.cell? ⟨w.heap.size, k, none⟩ = some (.int .i64 (old : Int))) := cw
   have HG1 : Hid (∀ i, wo.frozen? ⟨w.heap.size, i, none⟩ = false) := Loc.frz hRW.out
   have HS1 : Hid (w.heap.size < wo.heap.size) := RowI.lt hRW.out
   have HEND : Hid (∀ W, wo.drew.setCell ⟨w.heap.size, k, none⟩ (.int .i64 (nw : Int)) = W → RowI W w.heap.size (parts vs S n (c + 1)) ∧ Below w.heap.size w W) := fun W hW => by
    subst hW
    refine ⟨?_, (hB.drew).setCell (by show w.heap.size ≤ w.heap.size; omega) _⟩
    rw [← HPUT.out]
    exact RowI.set (w := wo.drew) hRW.out k nw
   clear hz cw hob hold hP2 hP2b hq hqb hnw
   go_wp2_with fail
   clear hcell
   refine wp_region_noPanic ?_
   refine wp_region_heldK (k := 10) (S := (fun W => W.cell? ⟨w.heap.size, k, none⟩ = some (.int .i64 (old : Int)))) (by kernel_rfl) ?_ (fun hHeld => ?_)
   ·exact HLS.out
   refine tkK 0 ?_
   (try simp only [Act.put, ly])
   refine tkK 1 ?_
   (try simp only [Act.put, ly])
   refine tkK 2 ?_
   (try simp only [Act.put, ly])
   refine tkK 3 ?_
   (try simp only [Act.put, ly])
   refine tkK 4 ?_
   (try simp only [Act.put, ly])
   refine tkK 5 ?_
   (try simp only [Act.put, ly])
   refine tkK 6 ?_
   (try simp only [Act.put, ly])
   refine tkK 7 ?_
   (try simp only [Act.put, ly])
   refine tkK 8 ?_
   (try simp only [Act.put, ly])
   refine tkK 9 ?_
   (try simp only [Act.put, ly])
   have g0 := HLS.out
   have gf := HG1.out
   have gl := HS1.out
   refine wpAnyK_ready (rs := [10]) (by kernel_rfl) (by simp) ?_
   refine AllReadyK.last (by kernel_rfl) rfl (fun KK hKK => ?_) AllReadyK.nil
   go_simp
   refine hKK.out _ _ ?_
   clear hKK KK
   (try simp only [Act.put, ly])
   refine wpAnyK_done (by kernel_rfl) ?_ _
   refine NoPanic.normal ?_
   clear g0 gf gl
   have HE2 := Lib.hid (HEND.out _ rfl)
   go_wp2_with fail
   go_roundw
   case rel => exact ⟨c + 1, by omega, by go_num, HE2.out.1, HE2.out.2⟩
   case measure => simp only [intOf]; omega
  ·obtain rfl : c = n := by omega
   have HRNG : Hid (∀ z ∈ parts vs S c c, -9223372036854775808 ≤ z ∧ z ≤ 9223372036854775807) := fun z hz => by
    unfold parts at hz
    obtain ⟨k, -, rfl⟩ := List.mem_map.1 hz
    have := pSet_le vs S (k : Int) c
    omega
   go_wp2_with fail
   refine (deleteZ_any _ w.heap.size c 269 (parts vs S c c) hRW.out (parts_len _ _ _ _) (by omega) HRNG.out (enters Tryz.func269 (by kernel_rfl) (by kernel_rfl)) (fun W z => split1_any W z)).mono ?_
   rintro e w5 ⟨⟨v5, rfl, hv5⟩, hb5⟩
   have y6 := hb5.size; (try simp only [zs] at y6)
   have HBF : Hid (Below w.heap.size w w5) := hB.trans hb5
   go_wp2_with fail
   go_ret
   exact ⟨⟨_, rfl, hv5⟩, HBF.out⟩

set_option maxRecDepth 100000 in
set_option maxHeartbeats 8000000 in
theorem parts_any (w : World) (v : Value) (vs : List Int) (S : Nat) (h : IntsV w v vs) (h1 : 1 ≤ vs.length) (hl : vs.length ≤ 62) (hcg : canGo 0 vs) (hS : S < 4611686018427387904) :
 Calls Tryz.prog 259 #[v, .int .i64 (S : Int)] w fun e w' => (∃ v', e = .returned v' ∧ Hid (IntsV w' v' (parts vs S ((lmax vs).toNat + 1) vs.length))) ∧ Below w.heap.size w w' := by
 have H := Lib.hid h
 obtain ⟨A, cap, rfl, h, l1, l2⟩ := h.op
 clear h
 obtain ⟨n, hn⟩ : ∃ n, vs.length = n := ⟨_, rfl⟩
 have HN := Lib.hid hn
 have H2 : Hid (IntsV w (.slice A n cap) vs) := by have h9 := H.out; rw [hn] at h9; exact h9
 obtain ⟨M, hM⟩ : ∃ M : Nat, lmax vs = (M : Int) ∧ M < n := by
  have h2 := lmax_mem (zs := vs) (by intro h; rw [h] at h1; simp at h1)
  obtain ⟨i, hi, he⟩ := List.getElem_of_mem h2
  have h3 := canGo_le vs 0 (by omega) hcg i _ (List.getElem?_eq_getElem hi)
  rw [he] at h3
  exact ⟨(lmax vs).toNat, by omega, by omega⟩
 obtain ⟨M1, hM1⟩ : ∃ M1, M + 1 = M1 := ⟨_, rfl⟩
 have e1 : (lmax vs).toNat + 1 = M1 := by omega
 rw [e1]
 have HLM := Lib.hid hM.1
 rw [hn] at l1 hl h1 ⊢
 have HCL : Hid (∀ (i : Nat) (z : Int), vs[i]? = some z → 0 ≤ z ∧ z < M1) := fun i z hz => by
  have h1 := canGo_le vs 0 (by omega) hcg i z hz
  have h2 := lmax_ge (List.mem_of_getElem? hz)
  omega
 have hSb : S < 9223372036854775808 := by omega
 have hM62 : M1 ≤ 62 := by have := hM.2; omega
 have hn1 : 1 ≤ vs.length := by omega
 have k9 : IntKind.i64.wrap ((M : Int) + 1) = (M1 : Int) := by rw [IntKind.wrap_i64]; omega
 clear H hcg e1 hM1 hM
 go_enter Tryz.func259, Tryz.ntmps259
 go_wp2_with fail
 refine (max_any _ _ vs (H2.out.keep kp) hn1).mono ?_
 rintro e w0 ⟨he, hb0⟩
 rw [HLM.out] at he
 subst he
 have y0 := hb0.size; (try simp only [zs] at y0)
 have HB0 := Lib.hid hb0
 clear hn hn1
 go_wp2_with (at_make; refine wpList_makeN _ rfl _ _ rfl Tryz.underlying27 info_int1 rfl w0.heap.size M1 rfl rfl (by first | rfl | exact k9) (by first | rfl | exact k9) (by omega) (by unfold maxLen; omega) (Nat.le_refl _) ?_)
 intro w1 hrow hg1
 have HB1 : Hid (Below w.heap.size w w1) := HB0.out.trans ((below_none (Below.refl _ _) hg1 (Nat.le_refl _)).mono y0)
 have hB1 := HB1.out
 have y1 := hB1.size; (try simp only [zs] at y1)
 have HR1 : Hid (RowI w1 w0.heap.size (parts vs S M1 0)) := by show RowI _ _ _; rw [parts_zero]; exact rowI_zeros hrow
 clear hrow hg1
 go_wp2_with fail
 go_loopw [14] (fun i wr => ∃ (c : Nat), c ≤ n ∧ i = .int .i64 c ∧ Hid (RowI wr w0.heap.size (parts vs S M1 c)) ∧ Below w.heap.size w wr) (fun i _ => n - (intOf i).toNat)
 case atStart => exact ⟨0, by omega, rfl, HR1, HB1.out⟩
 case round =>
  clear HR1 HB1
  obtain ⟨c, hc, rfl, hRW, hB⟩ := hrel
  obtain ⟨wo, rfl⟩ : ∃ wo : World, wo = wr := ⟨_, rfl⟩
  have y5 := hB.size; (try simp only [zs] at y5)
  by_cases hlt : c < n
  ·obtain ⟨z, hz⟩ : ∃ z, vs[c]? = some z := ⟨_, List.getElem?_eq_getElem (by rw [HN.out]; exact hlt)⟩
   obtain ⟨a, rfl, hab, hcell, -, -⟩ := (H2.out.keep (.of_below hB)).at hz
   obtain ⟨hz0, hz1⟩ := HCL.out c z hz
   obtain ⟨k, rfl⟩ : ∃ k : Nat, z = (k : Int) := ⟨z.toNat, by omega⟩
   have hkn : k < M1 := by omega
   have HPUT := Lib.hid (parts_set (S := S) hz hkn)
   have cw := RowI.cell hRW.out (parts_get vs S c hkn)
   have hob : pSet vs S (k : Int) c < 9223372036854775808 := Nat.lt_of_le_of_lt (pSet_le _ _ _ _) hSb
   obtain ⟨old, hold⟩ : ∃ q, pSet vs S (k : Int) c = q := ⟨_, rfl⟩
   rw [hold] at cw hob HPUT
   have s1 := shl_one (c := c) (by omega)
   obtain ⟨P2, hP2⟩ : ∃ q : Nat, 2 ^ c = q := ⟨_, rfl⟩
   have hP2b : P2 < 9223372036854775808 := by rw [← hP2]; exact Nat.lt_of_le_of_lt (Nat.pow_le_pow_right (by decide) (show c ≤ 62 by omega)) (by decide)
   rw [hP2] at s1 HPUT
   have s2 := bits_and hSb hP2b
   obtain ⟨q, hq⟩ : ∃ q : Nat, S &&& P2 = q := ⟨_, rfl⟩
   have hqb : q < 9223372036854775808 := by rw [← hq]; exact Nat.lt_of_le_of_lt Nat.and_le_left hSb
   rw [hq] at s2 HPUT
   have s3 := bits_or hob hqb
   obtain ⟨nw, hnw⟩ : ∃ q' : Nat, old ||| q = q' := ⟨_, rfl⟩
   rw [hnw] at s3 HPUT
   have k0 : (0 : Int) ≤ (c : Int) := by omega
   have k1 : (c : Int) < (n : Int) := by omega
   have k2 : (0 : Int) ≤ (k : Int) := by omega
   have k3 : (k : Int) < (M1 : Int) := by omega
   have HLS : Hid (wo.cell? ⟨w0.heap.size, k, none⟩ = some (.int .i64 (old : Int))) := cw
   have HG1 : Hid (∀ i, wo.frozen? ⟨w0.heap.size, i, none⟩ = false) := Loc.frz hRW.out
   have HS1 : Hid (w0.heap.size < wo.heap.size) := RowI.lt hRW.out
   have HEND : Hid (∀ W, wo.drew.setCell ⟨w0.heap.size, k, none⟩ (.int .i64 (nw : Int)) = W → RowI W w0.heap.size (parts vs S M1 (c + 1)) ∧ Below w.heap.size w W) := fun W hW => by
    subst hW
    refine ⟨?_, (hB.drew).setCell (by show w.heap.size ≤ w0.heap.size; omega) _⟩
    rw [← HPUT.out]
    exact RowI.set (w := wo.drew) hRW.out k nw
   clear hz cw hob hold hP2 hP2b hq hqb hnw
   go_wp2_with fail
   clear hcell
   refine wp_region_noPanic ?_
   refine wp_region_heldK (k := 10) (S := (fun W => W.cell? ⟨w0.heap.size, k, none⟩ = some (.int .i64 (old : Int)))) (by kernel_rfl) ?_ (fun hHeld => ?_)
   ·exact HLS.out
   refine tkK 0 ?_
   (try simp only [Act.put, ly])
   refine tkK 1 ?_
   (try simp only [Act.put, ly])
   refine tkK 2 ?_
   (try simp only [Act.put, ly])
   refine tkK 3 ?_
   (try simp only [Act.put, ly])
   refine tkK 4 ?_
   (try simp only [Act.put, ly])
   refine tkK 5 ?_
   (try simp only [Act.put, ly])
   refine tkK 6 ?_
   (try simp only [Act.put, ly])
   refine tkK 7 ?_
   (try simp only [Act.put, ly])
   refine tkK 8 ?_
   (try simp only [Act.put, ly])
   refine tkK 9 ?_
   (try simp only [Act.put, ly])
   have g0 := HLS.out
   have gf := HG1.out
   have gl := HS1.out
   refine wpAnyK_ready (rs := [10]) (by kernel_rfl) (by simp) ?_
   refine AllReadyK.last (by kernel_rfl) rfl (fun KK hKK => ?_) AllReadyK.nil
   go_simp
   refine hKK.out _ _ ?_
   clear hKK KK
   (try simp only [Act.put, ly])
   refine wpAnyK_done (by kernel_rfl) ?_ _
   refine NoPanic.normal ?_
   clear g0 gf gl
   have HE2 := Lib.hid (HEND.out _ rfl)
   go_wp2_with fail
   go_roundw
   case rel => exact ⟨c + 1, by omega, by go_num, HE2.out.1, HE2.out.2⟩
   case measure => simp only [intOf]; omega
  ·obtain rfl : c = n := by omega
   have HRNG : Hid (∀ z ∈ parts vs S M1 c, -9223372036854775808 ≤ z ∧ z ≤ 9223372036854775807) := fun z hz => by
    unfold parts at hz
    obtain ⟨k, -, rfl⟩ := List.mem_map.1 hz
    have := pSet_le vs S (k : Int) c
    omega
   have HE : Hid (IntsV wo (.slice (some ⟨w0.heap.size, 0, none⟩) M1 M1) (parts vs S M1 c)) := by
    have h9 := IntsO.vals (w := wo) (u := .slice (some ⟨w0.heap.size, 0, none⟩) M1 M1) (zs := parts vs S M1 c) ⟨w0.heap.size, by rw [parts_len], hRW.out, HRNG.out⟩ (by rw [parts_len]; unfold maxLen; omega)
    exact h9
   go_wp2_with fail
   go_ret
   exact ⟨⟨_, rfl, HE⟩, hB⟩
end Go.Proofs.YtbdcjhoedhhabaaGreat

/- What the parts of a set are asked: plainly; the closures of hard and needed. -/
namespace Go.Proofs.YtbdcjhoedhhabaaGreat
open Go.RowKit
attribute [local go_sem ↓] Go.wp_at_zero Go.wp_at_succ

/-- An entry of at least D - 1 is known. -/
def KnownGe (f : Lit → Option Int) (D : Int) (y : Int) : Prop := ∃ d, f (.int .i64 y) = some d ∧ D - 1 ≤ d

/- checker.hard, adaptive.needed. Printed by gen_hd7.py. -/

/-- The parts of a set by a view, without the empty ones. -/
def prt (S : Nat) (v : List Int) : List Int := nzs (parts v S v.length v.length)
/-- An entry with a depth above 0 is justified. -/
def HardP (L : List (List Int)) (S : Nat) (D : Int) (f : Lit → Option Int) : Prop := (∀ v ∈ L, 1 < D → ∃ y ∈ prt S v, KnownGe f D y) ∧ ∃ v ∈ L, 1 < (prt S v).length

/- adaptive.together, partition.Of. -/

/-- One number appended. -/
theorem wpList_pushZ {ops : Array Oper} {rest : List Oper} {o : Oper} {a : Act} {Q : Exit → Act → World → Prop} (w : World) (hgd : o.guard = none) (s x : Operand) (ho : o.op = .call { callee := .builtin .append, args := #[s, x], argTypes := #[27, 27] })
 (base : Nat) (v : Value) (us : List Value) (hs : a.eval s = v) (hown : Own1 w base 3 v us) (H : Nat) (u : Value) (hx : a.eval x = .slice (some ⟨H, 0, none⟩) 1 1) (hH : w.heap[H]? = some (.cells #[u] 3 (0, 0))) (hu : u.oneCell' = true)
 (hn : us.length ≤ 1000) (hbase : base ≤ w.heap.size)
 (h : ∀ g cap w', Own1 w' base 3 (.slice (some ⟨g, 0, none⟩) (us.length + 1) cap) (us ++ [u]) → w.grownBy w' v.ownBlock → (v.ownBlock = some g ∨ g = w.heap.size) → g < w'.heap.size → wpList Tryz.prog ops Q rest (a.put o.dst (.slice (some ⟨g, 0, none⟩) (us.length + 1) cap)) w') : wpList Tryz.prog ops Q (o :: rest) a w :=
 wpList_plain hgd fun _ hK => wp_push1 w s x ho Tryz.underlying27 info_int1 rfl (by decide) base v us hs hown H u hx hH hu hn hbase fun g cap w' h1 h2 h3 h4 => hK _ _ (h g cap w' h1 h2 h3 h4)

theorem bits_one {x : Nat} (hx : x < 9223372036854775808) : bits .and .i64 (x : Int) 1 = ((x % 2 : Nat) : Int) := by
 have := bits_and hx (y := 1) (by decide)
 rw [Nat.and_one_is_mod] at this
 exact this
theorem shr_bit (S c : Nat) : S / 2 ^ c % 2 = if S.testBit c then 1 else 0 := by
 rw [Nat.testBit_eq_decide_div_mod_eq]
 by_cases h : S / 2 ^ c % 2 = 1
 ·simp [h]
 ·have : S / 2 ^ c % 2 < 2 := Nat.mod_lt _ (by decide)
  simp [h]
  omega

/- partition.Of. -/

theorem MapF.grown {w w' : World} {k : TypeId} {b n c : Nat} {f : Lit → Option Int} {row : Option Nat} (h : MapF w k b n c f) (hg : w.grownBy w' row) (hne : some b ≠ row) : MapF w' k b n c f := by
 have hl := h.lt
 obtain ⟨D, h1, h2⟩ := h
 exact ⟨D, h1.kept hg hne, h2⟩

/-- A list of numbers that is written in place. -/
structure RowG (w : World) (g cap : Nat) (l : List Int) : Prop where
 le : l.length ≤ cap
 lc : cap ≤ maxLen
 cells : ∃ cur : Array Value, Loc w g 3 cur ∧ ∀ (i : Nat) (z : Int), l[i]? = some z → cur[i]? = some (.int .i64 z)
section
variable {w w' : World} {g cap : Nat} {l : List Int}
theorem RowG.lt (h : RowG w g cap l) : g < w.heap.size := by obtain ⟨cur, hl, -⟩ := h.cells; exact hl.lt
theorem RowG.drew (h : RowG w g cap l) : RowG w.drew g cap l := ⟨h.le, h.lc, h.cells⟩
theorem RowG.below (h : RowG w g cap l) (hb : Below w.heap.size w w') : RowG w' g cap l := by
 obtain ⟨cur, hl, hc⟩ := h.cells
 exact ⟨h.le, h.lc, cur, hl.below hb, hc⟩
theorem RowG.cell (h : RowG w g cap l) {i : Nat} {z : Int} (hz : l[i]? = some z) : w.cell? ⟨g, i, none⟩ = some (.int .i64 z) := by
 obtain ⟨cur, hl, hc⟩ := h.cells
 rw [Loc.cell hl, hc i z hz]
theorem RowG.frz (h : RowG w g cap l) (i : Nat) : w.frozen? ⟨g, i, none⟩ = false := by
 obtain ⟨cur, hl, -⟩ := h.cells
 exact Loc.frz hl i
theorem RowG.vals (h : RowG w g cap l) (hz : ∀ z ∈ l, -9223372036854775808 ≤ z ∧ z ≤ 9223372036854775807) : IntsV w (.slice (some ⟨g, 0, none⟩) l.length cap) l :=
 ⟨_, _, rfl, h.le, h.lc, fun _ => ⟨_, rfl, h.lt, fun i z hi => by rw [add0]; exact h.cell hi⟩, hz⟩
theorem RowG.set (h : RowG w g cap l) (x : Nat) (z : Int) : RowG (w.setCell ⟨g, x, none⟩ (.int .i64 z)) g cap (l.set x z) := by
 obtain ⟨cur, hl, hc⟩ := h.cells
 refine ⟨by simpa using h.le, h.lc, _, hl.set x (.int .i64 z), fun i y hy => ?_⟩
 by_cases hi : i = x
 ·subst hi
  have hlt : i < l.length := by have := (List.getElem?_eq_some_iff.1 hy).1; simpa using this
  rw [List.getElem?_set_self hlt] at hy
  injection hy with hy
  subst hy
  have hc' := hc i _ (List.getElem?_eq_getElem hlt)
  rw [Array.getElem?_setIfInBounds_self_of_lt (by exact (Array.getElem?_eq_some_iff.1 hc').1)]
 ·rw [List.getElem?_set_ne (fun e => hi e.symm)] at hy
  rw [Array.getElem?_setIfInBounds_ne (fun e => hi e.symm)]
  exact hc i y hy
theorem RowI.rowG {n : Nat} (h : RowI w g l) (hn : l.length = n) (hm : n ≤ maxLen) : RowG w g n l := ⟨by omega, hm, _, h, fun i z hz => by rw [List.getElem?_toArray, List.getElem?_map, hz]; rfl⟩
end

/-- The partition of the first c labels, by a map of k classes. -/
structure OfInv (zs xs : List Int) (c k : Nat) (f : Lit → Option Int) : Prop where
 len : xs.length = c
 at_ : ∀ (i : Nat) (z : Int), i < c → zs[i]? = some z → ∃ x, xs[i]? = some x ∧ f (.int .i64 z) = some x
 rng : ∀ z x, f (.int .i64 z) = some x → 0 ≤ x ∧ x < (k : Int)
 inj : ∀ z z' x, f (.int .i64 z) = some x → f (.int .i64 z') = some x → z = z'
 kc : k ≤ c
theorem OfInv.start (zs : List Int) : OfInv zs [] 0 0 (fun _ => none) := ⟨rfl, fun i z hi => absurd hi (by omega), fun z x h => (by cases h), fun z z' x h => (by cases h), Nat.le_refl _⟩
theorem OfInv.new {zs xs : List Int} {c k : Nat} {f : Lit → Option Int} (h : OfInv zs xs c k f) {z : Int} (hz : zs[c]? = some z) (hx : f (.int .i64 z) = none) : OfInv zs (xs ++ [(k : Int)]) (c + 1) (k + 1) (putL f (.int .i64 z) k) := by
 have hput : ∀ y, putL f (.int .i64 z) k (.int .i64 y) = if y = z then some (k : Int) else f (.int .i64 y) := fun y => by
  by_cases e : y = z
  ·subst e
   rw [putL_same, if_pos rfl]
  ·rw [putL_other f (fun e' => e (by injection e')), if_neg e]
 refine ⟨by rw [List.length_append, h.len]; rfl, fun i y hi hy => ?_, fun y x hy => ?_, fun y y' x hy hy' => ?_, by have := h.kc; omega⟩
 ·by_cases e : i < c
  ·obtain ⟨a, h1, h2⟩ := h.at_ i y e hy
   refine ⟨a, by rw [List.getElem?_append_left (by rw [h.len]; exact e)]; exact h1, ?_⟩
   rw [hput, if_neg (fun e' => by rw [e'] at h2; rw [hx] at h2; cases h2)]
   exact h2
  ·obtain rfl : i = c := by omega
   rw [hz] at hy
   injection hy with hy
   subst hy
   exact ⟨k, by rw [List.getElem?_append_right (by rw [h.len]; exact Nat.le_refl _), h.len, Nat.sub_self]; rfl, by rw [hput, if_pos rfl]⟩
 ·rw [hput] at hy
  by_cases e : y = z
  ·rw [if_pos e] at hy
   injection hy with hy
   omega
  ·rw [if_neg e] at hy
   have := h.rng y x hy
   omega
 ·rw [hput] at hy hy'
  by_cases e : y = z
  ·by_cases e' : y' = z
   ·rw [e, e']
   ·rw [if_pos e] at hy
    rw [if_neg e'] at hy'
    injection hy with hy
    have := h.rng y' x hy'
    omega
  ·by_cases e' : y' = z
   ·rw [if_pos e'] at hy'
    rw [if_neg e] at hy
    injection hy' with hy'
    have := h.rng y x hy
    omega
   ·rw [if_neg e] at hy
    rw [if_neg e'] at hy'
    exact h.inj y y' x hy hy'

/-- The same elements together, class numbers below the length. -/
def OfRes (zs xs : List Int) : Prop := xs.length = zs.length ∧ (∀ (i j : Nat) (x y a b : Int), zs[i]? = some x → zs[j]? = some y → xs[i]? = some a → xs[j]? = some b → (a = b ↔ x = y)) ∧ ∀ x ∈ xs, 0 ≤ x ∧ x < (zs.length : Int)
theorem OfInv.res {zs xs : List Int} {k n : Nat} {f : Lit → Option Int} (hn : zs.length = n) (h : OfInv zs xs n k f) : OfRes zs xs := by
 have key : ∀ (i : Nat) (x a : Int), zs[i]? = some x → xs[i]? = some a → f (.int .i64 x) = some a := fun i x a hx ha => by
  have := (List.getElem?_eq_some_iff.1 hx).1
  obtain ⟨y, h1, h2⟩ := h.at_ i x (by omega) hx
  rw [ha] at h1
  injection h1 with h1
  rw [h1]; exact h2
 refine ⟨by rw [h.len, hn], fun i j x y a b h1 h2 h3 h4 => ?_, fun a ha => ?_⟩
 ·have e1 := key i x a h1 h3
  have e2 := key j y b h2 h4
  constructor
  ·intro e
   subst e
   exact h.inj x y a e1 e2
  ·intro e
   subst e
   rw [e1] at e2
   injection e2
 ·obtain ⟨i, hi, rfl⟩ := List.getElem_of_mem ha
  have hi2 : i < zs.length := by rw [h.len] at hi; omega
  have := h.rng _ _ (key i _ _ (List.getElem?_eq_getElem hi2) (List.getElem?_eq_getElem hi))
  have := h.kc
  omega

/- strategy.Joint, adaptive.allJoint. -/

/-- The answer to a question. -/
def col (L : List (List Int)) (q : Int) (i : Nat) : Option Int := ((L[q.toNat]?).getD [])[i]?
/-- A partition by the answers to questions. -/
def JRes (n : Nat) (L : List (List Int)) (asks J : List Int) : Prop := J.length = n ∧ (∀ (i j : Nat) (x y : Int), J[i]? = some x → J[j]? = some y → (x = y ↔ ∀ q ∈ asks, col L q i = col L q j)) ∧ ∀ x ∈ J, 0 ≤ x ∧ x < (n : Int)

theorem mul_uniq {a b v u n : Int} (hv : 0 ≤ v ∧ v < n) (hu : 0 ≤ u ∧ u < n) (h : a * n + v = b * n + u) : a = b ∧ v = u := by
 have hn : n ≠ 0 := by omega
 have e1 : (a * n + v) / n = a := by rw [Int.add_comm, Int.add_mul_ediv_right _ _ hn, Int.ediv_eq_zero_of_lt hv.1 hv.2, Int.zero_add]
 have e2 : (b * n + u) / n = b := by rw [Int.add_comm, Int.add_mul_ediv_right _ _ hn, Int.ediv_eq_zero_of_lt hu.1 hu.2, Int.zero_add]
 have e : a = b := by rw [← e1, ← e2, h]
 subst e
 exact ⟨rfl, by omega⟩

theorem JRes.start {n : Nat} (hn : 1 ≤ n) (L : List (List Int)) : JRes n L [] (List.replicate n 0) := by
 refine ⟨by simp, fun i j x y hx hy => ?_, fun x hx => ?_⟩
 ·have h1 := List.eq_of_mem_replicate (List.mem_of_getElem? hx)
  have h2 := List.eq_of_mem_replicate (List.mem_of_getElem? hy)
  subst h1 h2
  simp
 ·have := List.eq_of_mem_replicate hx
  omega

theorem JRes.step {n : Nat} {L : List (List Int)} {asks xs ys xs' V : List Int} {q : Int} (h : JRes n L asks xs) (hV : (L[q.toNat]?).getD [] = V) (hVl : V.length = n) (hVc : ∀ (i : Nat) (v : Int), V[i]? = some v → 0 ≤ v ∧ v < (n : Int))
 (hyl : ys.length = n) (hy : ∀ (i : Nat) (x v : Int), i < n → xs[i]? = some x → V[i]? = some v → ys[i]? = some (x * n + v)) (hO : OfRes ys xs') : JRes n L (asks ++ [q]) xs' := by
 refine ⟨by rw [hO.1, hyl], fun i j a b ha hb => ?_, fun x hx => by have := hO.2.2 x hx; rw [hyl] at this; exact this⟩
 have hi : i < n := by have := (List.getElem?_eq_some_iff.1 ha).1; rw [hO.1, hyl] at this; exact this
 have hj : j < n := by have := (List.getElem?_eq_some_iff.1 hb).1; rw [hO.1, hyl] at this; exact this
 have hxi := List.getElem?_eq_getElem (l := xs) (i := i) (by rw [h.1]; exact hi)
 have hxj := List.getElem?_eq_getElem (l := xs) (i := j) (by rw [h.1]; exact hj)
 have hvi := List.getElem?_eq_getElem (l := V) (i := i) (by rw [hVl]; exact hi)
 have hvj := List.getElem?_eq_getElem (l := V) (i := j) (by rw [hVl]; exact hj)
 have h1 := hO.2.1 i j _ _ a b (hy i _ _ hi hxi hvi) (hy j _ _ hj hxj hvj) ha hb
 have h2 := h.2.1 i j _ _ hxi hxj
 rw [h1]
 have hci : col L q i = some V[i] := by unfold col; rw [hV]; exact hvi
 have hcj : col L q j = some V[j] := by unfold col; rw [hV]; exact hvj
 constructor
 ·intro e q' hq'
  obtain ⟨e1, e2⟩ := mul_uniq (hVc i _ hvi) (hVc j _ hvj) e
  rcases List.mem_append.1 hq' with hq' | hq'
  ·exact h2.1 e1 q' hq'
  ·obtain rfl : q' = q := by simpa using hq'
   rw [hci, hcj, e2]
 ·intro hall
  have e1 := h2.2 (fun q' hq' => hall q' (List.mem_append_left _ hq'))
  have e2 := hall q (by simp)
  rw [hci, hcj] at e2
  injection e2 with e2
  rw [e1, e2]

end Go.Proofs.YtbdcjhoedhhabaaGreat

