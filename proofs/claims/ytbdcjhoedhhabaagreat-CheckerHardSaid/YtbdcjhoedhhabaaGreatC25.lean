/- Contracts of the functions that the statements reach, part 25. -/
import Derived.Test.YtbdcjhoedhhabaaGreatRows
import Derived.Test.YtbdcjhoedhhabaaGreatC24
set_option linter.unusedSimpArgs false
set_option linter.unusedVariables false

/- checker.split, slices.Max, adaptive.parts. Printed by gen_hd5.py. -/
namespace Go.Proofs.YtbdcjhoedhhabaaGreat
open Go.RowKit
attribute [local go_sem ↓] Go.wp_at_zero Go.wp_at_succ
attribute [local go_sem] run_max2

/-- A canonical list's numbers are not above their places. -/
theorem canGo_le : ∀ (zs : List Int) (n : Int), 0 ≤ n → canGo n zs → ∀ (i : Nat) (z : Int), zs[i]? = some z → 0 ≤ z ∧ z ≤ n + i
 | [], _, _, _, i, z, h => by simp at h
 | c :: l, n, h0, h, 0, z, hz => by
   simp only [List.getElem?_cons_zero, Option.some.injEq] at hz
   subst hz
   have := h.1
   omega
 | c :: l, n, h0, h, i + 1, z, hz => by
   simp only [List.getElem?_cons_succ] at hz
   have h1 := canGo_le l (max n (c + 1)) (by omega) h.2 i z hz
   have := h.1
   omega

/-- The greatest number of a list. -/
def lmax : List Int → Int
 | [] => 0
 | z :: l => l.foldl max z
theorem lmax_take {zs : List Int} {j : Nat} {z : Int} (h0 : 0 < j) (h : zs[j]? = some z) : lmax (zs.take (j + 1)) = max (lmax (zs.take j)) z := by
 rw [List.take_add_one, h]
 match zs, j with
 | [], _ => simp at h
 | y :: l, j + 1 =>
   rw [List.take_succ_cons]
   show (List.foldl max y (l.take j ++ [z])) = _
   rw [List.foldl_append]
   rfl
theorem foldl_max_ge : ∀ (l : List Int) (y : Int), y ≤ l.foldl max y ∧ ∀ z ∈ l, z ≤ l.foldl max y
 | [], y => ⟨Int.le_refl _, fun z hz => by simp at hz⟩
 | x :: l, y => by
   obtain ⟨h1, h2⟩ := foldl_max_ge l (max y x)
   rw [List.foldl_cons]
   refine ⟨by omega, fun z hz => ?_⟩
   rcases List.mem_cons.1 hz with rfl | hz
   ·omega
   ·exact h2 z hz
theorem foldl_max_mem : ∀ (l : List Int) (y : Int), l.foldl max y = y ∨ l.foldl max y ∈ l
 | [], y => .inl rfl
 | x :: l, y => by
   rw [List.foldl_cons]
   rcases foldl_max_mem l (max y x) with h | h
   ·rw [h, Int.max_def]
    split
    ·exact .inr (by simp)
    ·exact .inl rfl
   ·exact .inr (List.mem_cons_of_mem _ h)
theorem lmax_ge {zs : List Int} {z : Int} (h : z ∈ zs) : z ≤ lmax zs := by
 match zs with
 | y :: l =>
   obtain ⟨h1, h2⟩ := foldl_max_ge l y
   rcases List.mem_cons.1 h with rfl | h
   ·exact h1
   ·exact h2 z h
theorem lmax_mem {zs : List Int} (h : zs ≠ []) : lmax zs ∈ zs := by
 match zs with
 | y :: l =>
   rcases foldl_max_mem l y with h1 | h1
   ·show l.foldl max y ∈ y :: l
    rw [h1]; simp
   ·exact List.mem_cons_of_mem _ h1

set_option maxRecDepth 100000 in
set_option maxHeartbeats 4000000 in
theorem max_any (w : World) (v : Value) (zs : List Int) (h : IntsV w v zs) (hne : 1 ≤ zs.length) :
 Calls Tryz.prog 365 #[v] w fun e w' => e = .returned (.int .i64 (lmax zs)) ∧ Below w.heap.size w w' := by
 have H := Lib.hid h
 obtain ⟨A, cap, rfl, h, l1, l2⟩ := h.op
 clear h
 obtain ⟨n, hn⟩ : ∃ n, zs.length = n := ⟨_, rfl⟩
 have HN := Lib.hid hn
 have H2 : Hid (IntsV w (.slice A n cap) zs) := by have h9 := H.out; rw [hn] at h9; exact h9
 rw [hn] at l1 hne ⊢
 have hnb : n ≤ 9223372036854775807 := by unfold maxLen at l2; omega
 obtain ⟨R, hR⟩ : ∃ R, lmax zs = R := ⟨_, rfl⟩
 rw [hR]
 have HR := Lib.hid hR
 clear hn H hR
 obtain ⟨z0, hz0⟩ : ∃ z, zs[0]? = some z := ⟨_, List.getElem?_eq_getElem (by rw [HN.out]; omega)⟩
 obtain ⟨a, rfl, hab, hcell, -, -⟩ := H2.out.at hz0
 have HS : Hid (lmax (zs.take 1) = z0) := by
  show _ = _
  match zs, hz0 with
  | y :: l, h =>
    simp only [List.getElem?_cons_zero, Option.some.injEq] at h
    subst h
    rfl
 rw [add_zero'] at hcell
 have d0 : decide ((n : Int) < 1) = false := decide_eq_false (by omega)
 have d0' : decide (n < 1) = false := decide_eq_false (by omega)
 have p0 : (0 : Int) < (n : Int) := by omega
 clear hz0
 go_enter Tryz.func365, Tryz.ntmps365
 go_wp2_with fail
 clear hcell
 go_loopw [3, 4] (fun mv i wr => ∃ (c : Nat), 1 ≤ c ∧ c ≤ n ∧ i = .int .i64 c ∧ mv = .int .i64 (lmax (zs.take c)) ∧ Below w.heap.size w wr) (fun _ i _ => n - (intOf i).toNat)
 case atStart => exact ⟨1, by omega, by omega, rfl, by first | rfl | rw [HS.out], bel⟩
 case round =>
  obtain ⟨c, hc1, hc, rfl, rfl, hB⟩ := hrel
  obtain ⟨wo, rfl⟩ : ∃ wo : World, wo = wr := ⟨_, rfl⟩
  have y5 := hB.size; (try simp only [zs] at y5)
  obtain ⟨M, hM⟩ : ∃ M, lmax (zs.take c) = M := ⟨_, rfl⟩
  rw [hM]
  have HM := Lib.hid hM
  clear hM
  by_cases hlt : c < n
  ·obtain ⟨z, hz⟩ : ∃ z, zs[c]? = some z := ⟨_, List.getElem?_eq_getElem (by rw [HN.out]; exact hlt)⟩
   obtain ⟨a', ea, hab', hcell, -, -⟩ := (H2.out.keep (.of_below hB)).at hz
   injection ea with ea
   subst ea
   have HNX : Hid (lmax (zs.take (c + 1)) = max M z) := by show _ = _; rw [lmax_take (by omega) hz, HM.out]
   have k0 : (0 : Int) ≤ (c : Int) := by omega
   have k1 : (c : Int) < (n : Int) := by omega
   clear hz
   go_wp2_with fail
   go_roundw
   case rel => exact ⟨c + 1, by omega, by omega, by go_num, by first | rfl | rw [HNX.out], bel⟩
   case measure => simp only [intOf]; omega
  ·obtain rfl : c = n := by omega
   have HE : Hid (M = R) := by
    show _ = _
    rw [← HM.out, ← HR.out, List.take_of_length_le (by rw [HN.out]; exact Nat.le_refl _)]
   go_wp2_with fail
   go_ret
   exact ⟨by first | rfl | (rw [HE.out]; rfl) | rw [HE.out], bel⟩


set_option maxRecDepth 100000 in
set_option maxHeartbeats 8000000 in
theorem split_any (w : World) (v : Value) (vs : List Int) (S : Nat) (h : IntsV w v vs) (hl : vs.length ≤ 62) (hcg : canGo 0 vs) (hS : S < 4611686018427387904) :
 Calls Tryz.prog 145 #[v, .int .i64 (S : Int)] w fun e w' => (∃ v', e = .returned v' ∧ Hid (IntsV w' v' (nzs (parts vs S vs.length vs.length)))) ∧ Below w.heap.size w w' := by
 have H := Lib.hid h
 obtain ⟨A, cap, rfl, h, l1, l2⟩ := h.op
 clear h
 obtain ⟨n, hn⟩ : ∃ n, vs.length = n := ⟨_, rfl⟩
 have HN := Lib.hid hn
 have H2 : Hid (IntsV w (.slice A n cap) vs) := by have h9 := H.out; rw [hn] at h9; exact h9
 rw [hn] at l1 hl ⊢
 have HCL : Hid (∀ (i : Nat) (z : Int), vs[i]? = some z → 0 ≤ z ∧ z < n) := fun i z hz => by
  have h1 := canGo_le vs 0 (by omega) hcg i z hz
  have h2 := (List.getElem?_eq_some_iff.1 hz).1
  omega
 have hSb : S < 9223372036854775808 := by omega
 clear hn H hcg
 go_enter Tryz.func145, Tryz.ntmps145
 go_wp2_with (at_make; refine wpList_makeN _ rfl _ _ rfl Tryz.underlying27 info_int1 rfl w.heap.size n rfl rfl rfl rfl (by omega) (by unfold maxLen; omega) (Nat.le_refl _) ?_)
 intro w1 hrow hg1
 have HB1 : Hid (Below w.heap.size w w1) := below_none (Below.refl _ _) hg1 (Nat.le_refl _)
 have hB1 := HB1.out
 have y1 := hB1.size; (try simp only [zs] at y1)
 have HR1 : Hid (RowI w1 w.heap.size (parts vs S n 0)) := by show RowI _ _ _; rw [parts_zero]; exact rowI_zeros hrow
 clear hrow hg1
 go_wp2_with fail
 go_loopw [13] (fun i wr => ∃ (c : Nat), c ≤ n ∧ i = .int .i64 c ∧ Hid (RowI wr w.heap.size (parts vs S n c)) ∧ Below w.heap.size w wr) (fun i _ => n - (intOf i).toNat)
 case atStart => exact ⟨0, by omega, rfl, HR1, HB1.out⟩
 case round =>
  clear HR1 HB1
  obtain ⟨c, hc, rfl, hRW, hB⟩ := hrel
  obtain ⟨wo, rfl⟩ : ∃ wo : World, wo = wr := ⟨_, rfl⟩
  have y5 := hB.size; (try simp only [zs] at y5)
  by_cases hlt : c < n
  ·obtain ⟨z, hz⟩ : ∃ z, vs[c]? = some z := ⟨_, List.getElem?_eq_getElem (by rw [HN.out]; exact hlt)⟩
   obtain ⟨a, rfl, hab, hcell, -, -⟩ := (H2.out.keep (.of_below hB)).at hz
   obtain ⟨hz0, hz1⟩ := HCL.out c z hz
   obtain ⟨k, rfl⟩ : ∃ k : Nat, z = (k : Int) := ⟨z.toNat, by omega⟩
   have hkn : k < n := by omega
   have HPUT := Lib.hid (parts_set (S := S) hz hkn)
   have cw := RowI.cell hRW.out (parts_get vs S c hkn)
   have hob : pSet vs S (k : Int) c < 9223372036854775808 := Nat.lt_of_le_of_lt (pSet_le _ _ _ _) hSb
   obtain ⟨old, hold⟩ : ∃ q, pSet vs S (k : Int) c = q := ⟨_, rfl⟩
   rw [hold] at cw hob HPUT
   have s1 := shl_one (c := c) (by omega)
   obtain ⟨P2, hP2⟩ : ∃ q : Nat, 2 ^ c = q := ⟨_, rfl⟩
   have hP2b : P2 < 9223372036854775808 := by rw [← hP2]; exact Nat.lt_of_le_of_lt (Nat.pow_le_pow_right (by decide) (show c ≤ 62 by omega)) (by decide)
   rw [hP2] at s1 HPUT
   have s2 := bits_and hSb hP2b
   obtain ⟨q, hq⟩ : ∃ q : Nat, S &&& P2 = q := ⟨_, rfl⟩
   have hqb : q < 9223372036854775808 := by rw [← hq]; exact Nat.lt_of_le_of_lt Nat.and_le_left hSb
   rw [hq] at s2 HPUT
   have s3 := bits_or hob hqb
   obtain ⟨nw, hnw⟩ : ∃ q' : Nat, old ||| q = q' := ⟨_, rfl⟩
   rw [hnw] at s3 HPUT
   have k0 : (0 : Int) ≤ (c : Int) := by omega
   have k1 : (c : Int) < (n : Int) := by omega
   have k2 : (0 : Int) ≤ (k : Int) := by omega
   have k3 : (k : Int) < (n : Int) := by omega
   have HLS : Hid (wo.cell? ⟨w.heap.size, k, none⟩ = some (.int .i64 (old : Int))) := cw
   have HG1 : Hid (∀ i, wo.frozen? ⟨w.heap.size, i, none⟩ = false) := Loc.frz hRW.out
   have HS1 : Hid (w.heap.size < wo.heap.size) := RowI.lt hRW.out
   have HEND : Hid (∀ W, wo.drew.setCell ⟨w.heap.size, k, none⟩ (.int .i64 (nw : Int)) = W → RowI W w.heap.size (parts vs S n (c + 1)) ∧ Below w.heap.size w W) := fun W hW => by
    subst hW
    refine ⟨?_, (hB.drew).setCell (by show w.heap.size ≤ w.heap.size; omega) _⟩
    rw [← HPUT.out]
    exact RowI.set (w := wo.drew) hRW.out k nw
   clear hz cw hob hold hP2 hP2b hq hqb hnw
   go_wp2_with fail
   clear hcell
   refine wp_region_noPanic ?_
   refine wp_region_heldK (k := 10) (S := (fun W => W.cell? ⟨w.heap.size, k, none⟩ = some (.int .i64 (old : Int)))) (by kernel_rfl) ?_ (fun hHeld => ?_)
   ·exact HLS.out
   refine tkK 0 ?_
   (try simp only [Act.put, ly])
   refine tkK 1 ?_
   (try simp only [Act.put, ly])
   refine tkK 2 ?_
   (try simp only [Act.put, ly])
   refine tkK 3 ?_
   (try simp only [Act.put, ly])
   refine tkK 4 ?_
   (try simp only [Act.put, ly])
   refine tkK 5 ?_
   (try simp only [Act.put, ly])
   refine tkK 6 ?_
   (try simp only [Act.put, ly])
   refine tkK 7 ?_
   (try simp only [Act.put, ly])
   refine tkK 8 ?_
   (try simp only [Act.put, ly])
   refine tkK 9 ?_
   (try simp only [Act.put, ly])
   have g0 := HLS.out
   have gf := HG1.out
   have gl := HS1.out
   refine wpAnyK_ready (rs := [10]) (by kernel_rfl) (by simp) ?_
   refine AllReadyK.last (by kernel_rfl) rfl (fun KK hKK => ?_) AllReadyK.nil
   go_simp
   refine hKK.out _ _ ?_
   clear hKK KK
   (try simp only [Act.put, ly])
   refine wpAnyK_done (by kernel_rfl) ?_ _
   refine NoPanic.normal ?_
   clear g0 gf gl
   have HE2 := Lib.hid (HEND.out _ rfl)
   go_wp2_with fail
   go_roundw
   case rel => exact ⟨c + 1, by omega, by go_num, HE2.out.1, HE2.out.2⟩
   case measure => simp only [intOf]; omega
  ·obtain rfl : c = n := by omega
   have HRNG : Hid (∀ z ∈ parts vs S c c, -9223372036854775808 ≤ z ∧ z ≤ 9223372036854775807) := fun z hz => by
    unfold parts at hz
    obtain ⟨k, -, rfl⟩ := List.mem_map.1 hz
    have := pSet_le vs S (k : Int) c
    omega
   go_wp2_with fail
   refine (deleteZ_any _ w.heap.size c 269 (parts vs S c c) hRW.out (parts_len _ _ _ _) (by omega) HRNG.out (enters Tryz.func269 (by kernel_rfl) (by kernel_rfl)) (fun W z => split1_any W z)).mono ?_
   rintro e w5 ⟨⟨v5, rfl, hv5⟩, hb5⟩
   have y6 := hb5.size; (try simp only [zs] at y6)
   have HBF : Hid (Below w.heap.size w w5) := hB.trans hb5
   go_wp2_with fail
   go_ret
   exact ⟨⟨_, rfl, hv5⟩, HBF.out⟩

set_option maxRecDepth 100000 in
set_option maxHeartbeats 8000000 in
theorem parts_any (w : World) (v : Value) (vs : List Int) (S : Nat) (h : IntsV w v vs) (h1 : 1 ≤ vs.length) (hl : vs.length ≤ 62) (hcg : canGo 0 vs) (hS : S < 4611686018427387904) :
 Calls Tryz.prog 259 #[v, .int .i64 (S : Int)] w fun e w' => (∃ v', e = .returned v' ∧ Hid (IntsV w' v' (parts vs S ((lmax vs).toNat + 1) vs.length))) ∧ Below w.heap.size w w' := by
 have H := Lib.hid h
 obtain ⟨A, cap, rfl, h, l1, l2⟩ := h.op
 clear h
 obtain ⟨n, hn⟩ : ∃ n, vs.length = n := ⟨_, rfl⟩
 have HN := Lib.hid hn
 have H2 : Hid (IntsV w (.slice A n cap) vs) := by have h9 := H.out; rw [hn] at h9; exact h9
 obtain ⟨M, hM⟩ : ∃ M : Nat, lmax vs = (M : Int) ∧ M < n := by
  have h2 := lmax_mem (zs := vs) (by intro h; rw [h] at h1; simp at h1)
  obtain ⟨i, hi, he⟩ := List.getElem_of_mem h2
  have h3 := canGo_le vs 0 (by omega) hcg i _ (List.getElem?_eq_getElem hi)
  rw [he] at h3
  exact ⟨(lmax vs).toNat, by omega, by omega⟩
 obtain ⟨M1, hM1⟩ : ∃ M1, M + 1 = M1 := ⟨_, rfl⟩
 have e1 : (lmax vs).toNat + 1 = M1 := by omega
 rw [e1]
 have HLM := Lib.hid hM.1
 rw [hn] at l1 hl h1 ⊢
 have HCL : Hid (∀ (i : Nat) (z : Int), vs[i]? = some z → 0 ≤ z ∧ z < M1) := fun i z hz => by
  have h1 := canGo_le vs 0 (by omega) hcg i z hz
  have h2 := lmax_ge (List.mem_of_getElem? hz)
  omega
 have hSb : S < 9223372036854775808 := by omega
 have hM62 : M1 ≤ 62 := by have := hM.2; omega
 have hn1 : 1 ≤ vs.length := by omega
 have k9 : IntKind.i64.wrap ((M : Int) + 1) = (M1 : Int) := by rw [IntKind.wrap_i64]; omega
 clear H hcg e1 hM1 hM
 go_enter Tryz.func259, Tryz.ntmps259
 go_wp2_with fail
 refine (max_any _ _ vs (H2.out.keep kp) hn1).mono ?_
 rintro e w0 ⟨he, hb0⟩
 rw [HLM.out] at he
 subst he
 have y0 := hb0.size; (try simp only [zs] at y0)
 have HB0 := Lib.hid hb0
 clear hn hn1
 go_wp2_with (at_make; refine wpList_makeN _ rfl _ _ rfl Tryz.underlying27 info_int1 rfl w0.heap.size M1 rfl rfl (by first | rfl | exact k9) (by first | rfl | exact k9) (by omega) (by unfold maxLen; omega) (Nat.le_refl _) ?_)
 intro w1 hrow hg1
 have HB1 : Hid (Below w.heap.size w w1) := HB0.out.trans ((below_none (Below.refl _ _) hg1 (Nat.le_refl _)).mono y0)
 have hB1 := HB1.out
 have y1 := hB1.size; (try simp only [zs] at y1)
 have HR1 : Hid (RowI w1 w0.heap.size (parts vs S M1 0)) := by show RowI _ _ _; rw [parts_zero]; exact rowI_zeros hrow
 clear hrow hg1
 go_wp2_with fail
 go_loopw [14] (fun i wr => ∃ (c : Nat), c ≤ n ∧ i = .int .i64 c ∧ Hid (RowI wr w0.heap.size (parts vs S M1 c)) ∧ Below w.heap.size w wr) (fun i _ => n - (intOf i).toNat)
 case atStart => exact ⟨0, by omega, rfl, HR1, HB1.out⟩
 case round =>
  clear HR1 HB1
  obtain ⟨c, hc, rfl, hRW, hB⟩ := hrel
  obtain ⟨wo, rfl⟩ : ∃ wo : World, wo = wr := ⟨_, rfl⟩
  have y5 := hB.size; (try simp only [zs] at y5)
  by_cases hlt : c < n
  ·obtain ⟨z, hz⟩ : ∃ z, vs[c]? = some z := ⟨_, List.getElem?_eq_getElem (by rw [HN.out]; exact hlt)⟩
   obtain ⟨a, rfl, hab, hcell, -, -⟩ := (H2.out.keep (.of_below hB)).at hz
   obtain ⟨hz0, hz1⟩ := HCL.out c z hz
   obtain ⟨k, rfl⟩ : ∃ k : Nat, z = (k : Int) := ⟨z.toNat, by omega⟩
   have hkn : k < M1 := by omega
   have HPUT := Lib.hid (parts_set (S := S) hz hkn)
   have cw := RowI.cell hRW.out (parts_get vs S c hkn)
   have hob : pSet vs S (k : Int) c < 9223372036854775808 := Nat.lt_of_le_of_lt (pSet_le _ _ _ _) hSb
   obtain ⟨old, hold⟩ : ∃ q, pSet vs S (k : Int) c = q := ⟨_, rfl⟩
   rw [hold] at cw hob HPUT
   have s1 := shl_one (c := c) (by omega)
   obtain ⟨P2, hP2⟩ : ∃ q : Nat, 2 ^ c = q := ⟨_, rfl⟩
   have hP2b : P2 < 9223372036854775808 := by rw [← hP2]; exact Nat.lt_of_le_of_lt (Nat.pow_le_pow_right (by decide) (show c ≤ 62 by omega)) (by decide)
   rw [hP2] at s1 HPUT
   have s2 := bits_and hSb hP2b
   obtain ⟨q, hq⟩ : ∃ q : Nat, S &&& P2 = q := ⟨_, rfl⟩
   have hqb : q < 9223372036854775808 := by rw [← hq]; exact Nat.lt_of_le_of_lt Nat.and_le_left hSb
   rw [hq] at s2 HPUT
   have s3 := bits_or hob hqb
   obtain ⟨nw, hnw⟩ : ∃ q' : Nat, old ||| q = q' := ⟨_, rfl⟩
   rw [hnw] at s3 HPUT
   have k0 : (0 : Int) ≤ (c : Int) := by omega
   have k1 : (c : Int) < (n : Int) := by omega
   have k2 : (0 : Int) ≤ (k : Int) := by omega
   have k3 : (k : Int) < (M1 : Int) := by omega
   have HLS : Hid (wo.cell? ⟨w0.heap.size, k, none⟩ = some (.int .i64 (old : Int))) := cw
   have HG1 : Hid (∀ i, wo.frozen? ⟨w0.heap.size, i, none⟩ = false) := Loc.frz hRW.out
   have HS1 : Hid (w0.heap.size < wo.heap.size) := RowI.lt hRW.out
   have HEND : Hid (∀ W, wo.drew.setCell ⟨w0.heap.size, k, none⟩ (.int .i64 (nw : Int)) = W → RowI W w0.heap.size (parts vs S M1 (c + 1)) ∧ Below w.heap.size w W) := fun W hW => by
    subst hW
    refine ⟨?_, (hB.drew).setCell (by show w.heap.size ≤ w0.heap.size; omega) _⟩
    rw [← HPUT.out]
    exact RowI.set (w := wo.drew) hRW.out k nw
   clear hz cw hob hold hP2 hP2b hq hqb hnw
   go_wp2_with fail
   clear hcell
   refine wp_region_noPanic ?_
   refine wp_region_heldK (k := 10) (S := (fun W => W.cell? ⟨w0.heap.size, k, none⟩ = some (.int .i64 (old : Int)))) (by kernel_rfl) ?_ (fun hHeld => ?_)
   ·exact HLS.out
   refine tkK 0 ?_
   (try simp only [Act.put, ly])
   refine tkK 1 ?_
   (try simp only [Act.put, ly])
   refine tkK 2 ?_
   (try simp only [Act.put, ly])
   refine tkK 3 ?_
   (try simp only [Act.put, ly])
   refine tkK 4 ?_
   (try simp only [Act.put, ly])
   refine tkK 5 ?_
   (try simp only [Act.put, ly])
   refine tkK 6 ?_
   (try simp only [Act.put, ly])
   refine tkK 7 ?_
   (try simp only [Act.put, ly])
   refine tkK 8 ?_
   (try simp only [Act.put, ly])
   refine tkK 9 ?_
   (try simp only [Act.put, ly])
   have g0 := HLS.out
   have gf := HG1.out
   have gl := HS1.out
   refine wpAnyK_ready (rs := [10]) (by kernel_rfl) (by simp) ?_
   refine AllReadyK.last (by kernel_rfl) rfl (fun KK hKK => ?_) AllReadyK.nil
   go_simp
   refine hKK.out _ _ ?_
   clear hKK KK
   (try simp only [Act.put, ly])
   refine wpAnyK_done (by kernel_rfl) ?_ _
   refine NoPanic.normal ?_
   clear g0 gf gl
   have HE2 := Lib.hid (HEND.out _ rfl)
   go_wp2_with fail
   go_roundw
   case rel => exact ⟨c + 1, by omega, by go_num, HE2.out.1, HE2.out.2⟩
   case measure => simp only [intOf]; omega
  ·obtain rfl : c = n := by omega
   have HRNG : Hid (∀ z ∈ parts vs S M1 c, -9223372036854775808 ≤ z ∧ z ≤ 9223372036854775807) := fun z hz => by
    unfold parts at hz
    obtain ⟨k, -, rfl⟩ := List.mem_map.1 hz
    have := pSet_le vs S (k : Int) c
    omega
   have HE : Hid (IntsV wo (.slice (some ⟨w0.heap.size, 0, none⟩) M1 M1) (parts vs S M1 c)) := by
    have h9 := IntsO.vals (w := wo) (u := .slice (some ⟨w0.heap.size, 0, none⟩) M1 M1) (zs := parts vs S M1 c) ⟨w0.heap.size, by rw [parts_len], hRW.out, HRNG.out⟩ (by rw [parts_len]; unfold maxLen; omega)
    exact h9
   go_wp2_with fail
   go_ret
   exact ⟨⟨_, rfl, HE⟩, hB⟩
end Go.Proofs.YtbdcjhoedhhabaaGreat

/- What the parts of a set are asked: plainly; the closures of hard and needed. -/
namespace Go.Proofs.YtbdcjhoedhhabaaGreat
open Go.RowKit
attribute [local go_sem ↓] Go.wp_at_zero Go.wp_at_succ

theorem filter_pos {α : Type} (p : α → Bool) : ∀ (l : List α), 0 < (l.filter p).length ↔ ∃ (i : Nat) (a : α), l[i]? = some a ∧ p a = true
 | [] => by simp
 | x :: l => by
   by_cases h : p x = true
   ·rw [List.filter_cons_of_pos h]
    exact ⟨fun _ => ⟨0, x, rfl, h⟩, fun _ => by simp⟩
   ·rw [List.filter_cons_of_neg h, filter_pos p l]
    constructor
    ·rintro ⟨i, a, h1, h2⟩
     exact ⟨i + 1, a, h1, h2⟩
    ·rintro ⟨i, a, h1, h2⟩
     match i with
     | 0 => simp only [List.getElem?_cons_zero, Option.some.injEq] at h1; subst h1; exact absurd h2 h
     | i + 1 => exact ⟨i, a, by simpa using h1, h2⟩
theorem filter_two {α : Type} (p : α → Bool) : ∀ (l : List α), 1 < (l.filter p).length ↔ ∃ (i j : Nat) (a b : α), i < j ∧ l[i]? = some a ∧ l[j]? = some b ∧ p a = true ∧ p b = true
 | [] => by simp
 | x :: l => by
   by_cases h : p x = true
   ·rw [List.filter_cons_of_pos h, List.length_cons]
    constructor
    ·intro h1
     obtain ⟨j, b, h2, h3⟩ := (filter_pos p l).1 (by omega)
     exact ⟨0, j + 1, x, b, by omega, rfl, h2, h, h3⟩
    ·rintro ⟨i, j, a, b, h1, h2, h3, h4, h5⟩
     match j with
     | 0 => omega
     | j + 1 =>
       have := (filter_pos p l).2 ⟨j, b, by simpa using h3, h5⟩
       omega
   ·rw [List.filter_cons_of_neg h, filter_two p l]
    constructor
    ·rintro ⟨i, j, a, b, h1, h2, h3, h4, h5⟩
     exact ⟨i + 1, j + 1, a, b, by omega, h2, h3, h4, h5⟩
    ·rintro ⟨i, j, a, b, h1, h2, h3, h4, h5⟩
     match i, j with
     | 0, _ => simp only [List.getElem?_cons_zero, Option.some.injEq] at h2; subst h2; exact absurd h4 h
     | i + 1, 0 => omega
     | i + 1, j + 1 => exact ⟨i, j, a, b, by omega, by simpa using h2, by simpa using h3, h4, h5⟩
/-- A view splits a set. -/
def Splits (view : List Int) (S : Nat) : Prop := ∃ (s t : Nat) (x y : Int), view[s]? = some x ∧ view[t]? = some y ∧ S.testBit s = true ∧ S.testBit t = true ∧ x ≠ y

theorem parts_two {view : List Int} {S n : Nat} (hn : view.length = n) (hc : ∀ (i : Nat) (z : Int), view[i]? = some z → 0 ≤ z ∧ z < n) : 1 < (nzs (parts view S n n)).length ↔ Splits view S := by
 unfold nzs
 rw [filter_two]
 constructor
 ·rintro ⟨i, j, a, b, hij, h1, h2, h3, h4⟩
  have hi := (List.getElem?_eq_some_iff.1 h1).1
  have hj := (List.getElem?_eq_some_iff.1 h2).1
  rw [parts_len] at hi hj
  rw [parts_get view S n hi] at h1
  rw [parts_get view S n hj] at h2
  injection h1 with h1
  injection h2 with h2
  subst h1 h2
  have e1 : pSet view S (i : Int) n ≠ 0 := by intro h; rw [h] at h3; simp at h3
  have e2 : pSet view S (j : Int) n ≠ 0 := by intro h; rw [h] at h4; simp at h4
  obtain ⟨s, s1, s2, s3⟩ := (pSet_nz view S i n).1 e1
  obtain ⟨t, t1, t2, t3⟩ := (pSet_nz view S j n).1 e2
  exact ⟨s, t, i, j, s2, t2, s3, t3, by omega⟩
 ·rintro ⟨s, t, x, y, h1, h2, h3, h4, h5⟩
  have hx := hc s x h1
  have hy := hc t y h2
  obtain ⟨i, rfl⟩ : ∃ i : Nat, x = (i : Int) := ⟨x.toNat, by omega⟩
  obtain ⟨j, rfl⟩ : ∃ j : Nat, y = (j : Int) := ⟨y.toNat, by omega⟩
  have hs := (List.getElem?_eq_some_iff.1 h1).1
  have ht := (List.getElem?_eq_some_iff.1 h2).1
  have e1 : pSet view S (i : Int) n ≠ 0 := (pSet_nz view S i n).2 ⟨s, by omega, h1, h3⟩
  have e2 : pSet view S (j : Int) n ≠ 0 := (pSet_nz view S j n).2 ⟨t, by omega, h2, h4⟩
  have g1 := parts_get view S n (show i < n by omega)
  have g2 := parts_get view S n (show j < n by omega)
  have b1 : (((pSet view S (i : Int) n : Nat) : Int) != 0) = true := by simp; exact e1
  have b2 : (((pSet view S (j : Int) n : Nat) : Int) != 0) = true := by simp; exact e2
  rcases Nat.lt_or_ge i j with hij | hij
  ·exact ⟨i, j, _, _, hij, g1, g2, b1, b2⟩
  ·exact ⟨j, i, _, _, by omega, g2, g1, b2, b1⟩

theorem parts_mem {view : List Int} {S n N : Nat} (hN : ∀ (i : Nat) (z : Int), view[i]? = some z → 0 ≤ z ∧ z < N) (y : Int) : (y ∈ parts view S N n ∧ y ≠ 0) ↔ ∃ k : Nat, y = (pSet view S (k : Int) n : Int) ∧ pSet view S (k : Int) n ≠ 0 := by
 unfold parts
 rw [List.mem_map]
 constructor
 ·rintro ⟨⟨k, hk, rfl⟩, h⟩
  exact ⟨k, rfl, by intro h0; rw [h0] at h; exact h rfl⟩
 ·rintro ⟨k, rfl, h⟩
  obtain ⟨s, s1, s2, s3⟩ := (pSet_nz view S k n).1 h
  have := hN s k s2
  exact ⟨⟨k, List.mem_range.2 (by omega), rfl⟩, by omega⟩
theorem nzs_mem {zs : List Int} {y : Int} : y ∈ nzs zs ↔ y ∈ zs ∧ y ≠ 0 := by
 unfold nzs
 rw [List.mem_filter]
 simp

/-- An entry of at least D - 1 is known. -/
def KnownGe (f : Lit → Option Int) (D : Int) (y : Int) : Prop := ∃ d, f (.int .i64 y) = some d ∧ D - 1 ≤ d

set_option maxHeartbeats 8000000 in
theorem hard1_any (w : World) (z D : Int) (b n c g4 g5 : Nat) (f : Lit → Option Int) (hM : MapF w 3 b n c f) (h4 : w.cell? ⟨g4, 0, none⟩ = some (.map (some b))) (h5 : w.cell? ⟨g5, 1, none⟩ = some (.int .i64 D)) (hz : -9223372036854775808 ≤ z ∧ z ≤ 9223372036854775807) (hD : 1 < D ∧ D ≤ 9223372036854775807) :
 Calls Tryz.prog 256 (#[.int .i64 z] ++ #[.pointer (some ⟨g4, 0, none⟩), .pointer (some ⟨g5, 0, none⟩)]) w fun e w' => Tells (KnownGe f D z) e ∧ Below w.heap.size w w' := by
 have hrun := hM.look keyed_int Tryz.underlying186 (key_int hz)
 obtain ⟨q, hq⟩ : ∃ q, f (.int .i64 z) = q := ⟨_, rfl⟩
 rw [hq] at hrun
 obtain ⟨P, hP⟩ : ∃ P, KnownGe f D z = P := ⟨_, rfl⟩
 rw [hP]
 have HP : Hid (P ↔ ∃ d, q = some d ∧ D - 1 ≤ d) := by rw [← hP, ← hq]; exact Iff.rfl
 have k1 : IntKind.i64.wrap (D - 1) = D - 1 := by rw [IntKind.wrap_i64]; omega
 clear hM hP hq
 cases q with
 | none =>
   have HV : Hid (¬ P) := fun h => by obtain ⟨d, h1, -⟩ := HP.out.1 h; cases h1
   have hr2 : (Instr.lookup 186 (.map (some b)) (.int .i64 z) true).run Tryz.prog w = .ok (.tuple #[.int .i64 0, .bool false]) w := hrun
   clear hrun
   go_enter Tryz.func256, Tryz.ntmps256
   go_wp2_with fail
   go_ret
   exact ⟨Tells.no HV.out, bel⟩
 | some d =>
   have hr2 : (Instr.lookup 186 (.map (some b)) (.int .i64 z) true).run Tryz.prog w = .ok (.tuple #[.int .i64 d, .bool true]) w := hrun
   clear hrun
   by_cases hd : D - 1 ≤ d
   ·have HV : Hid P := HP.out.2 ⟨d, rfl, hd⟩
    have d1 : decide (D - 1 ≤ d) = true := decide_eq_true hd
    clear hd
    go_enter Tryz.func256, Tryz.ntmps256
    go_wp2_with fail
    go_ret
    exact ⟨by first | exact Tells.yes HV.out | (rw [d1]; exact Tells.yes HV.out), bel⟩
   ·have HV : Hid (¬ P) := fun h => by
     obtain ⟨d', h1, h2⟩ := HP.out.1 h
     injection h1 with h1
     omega
    have d1 : decide (D - 1 ≤ d) = false := decide_eq_false hd
    clear hd
    go_enter Tryz.func256, Tryz.ntmps256
    go_wp2_with fail
    go_ret
    exact ⟨by first | exact Tells.no HV.out | (rw [d1]; exact Tells.no HV.out), bel⟩

set_option maxHeartbeats 8000000 in
theorem needed1_any (w : World) (z D : Int) (b n c g4 g5 : Nat) (f : Lit → Option Int) (hM : MapF w 3 b n c f) (h4 : w.cell? ⟨g4, 0, none⟩ = some (.map (some b))) (h5 : w.cell? ⟨g5, 1, none⟩ = some (.int .i64 D)) (hz : -9223372036854775808 ≤ z ∧ z ≤ 9223372036854775807) (hD : 1 < D ∧ D ≤ 9223372036854775807) :
 Calls Tryz.prog 260 (#[.int .i64 z] ++ #[.pointer (some ⟨g4, 0, none⟩), .pointer (some ⟨g5, 0, none⟩)]) w fun e w' => Tells (z ≠ 0 ∧ KnownGe f D z) e ∧ Below w.heap.size w w' := by
 have hrun := hM.look keyed_int Tryz.underlying186 (key_int hz)
 obtain ⟨q, hq⟩ : ∃ q, f (.int .i64 z) = q := ⟨_, rfl⟩
 rw [hq] at hrun
 obtain ⟨P, hP⟩ : ∃ P, (z ≠ 0 ∧ KnownGe f D z) = P := ⟨_, rfl⟩
 rw [hP]
 have HP : Hid (P ↔ z ≠ 0 ∧ ∃ d, q = some d ∧ D - 1 ≤ d) := by rw [← hP, ← hq]; exact Iff.rfl
 have k1 : IntKind.i64.wrap (D - 1) = D - 1 := by rw [IntKind.wrap_i64]; omega
 clear hM hP hq
 by_cases hz0 : z = 0
 ·have HV : Hid (¬ P) := fun h => (HP.out.1 h).1 hz0
  have d2 : (z == 0) = true := beq_iff_eq.2 hz0
  have d3 : (z != 0) = false := by simp only [bne, d2]; rfl
  clear hz0
  cases q with
  | none =>
    have hr2 : (Instr.lookup 186 (.map (some b)) (.int .i64 z) true).run Tryz.prog w = .ok (.tuple #[.int .i64 0, .bool false]) w := hrun
    clear hrun
    go_enter Tryz.func260, Tryz.ntmps260
    go_wp2_with fail
    go_ret
    exact ⟨Tells.no HV.out, bel⟩
  | some d =>
    have hr2 : (Instr.lookup 186 (.map (some b)) (.int .i64 z) true).run Tryz.prog w = .ok (.tuple #[.int .i64 d, .bool true]) w := hrun
    clear hrun
    go_enter Tryz.func260, Tryz.ntmps260
    go_wp2_with fail
    go_ret
    exact ⟨Tells.no HV.out, bel⟩
 have d2 : (z == 0) = false := beq_eq_false_iff_ne.2 hz0
 have d3 : (z != 0) = true := bne_iff_ne.2 hz0
 have HZ : Hid (z ≠ 0) := hz0
 clear hz0
 cases q with
 | none =>
   have HV : Hid (¬ P) := fun h => by obtain ⟨d, h1, -⟩ := (HP.out.1 h).2; cases h1
   have hr2 : (Instr.lookup 186 (.map (some b)) (.int .i64 z) true).run Tryz.prog w = .ok (.tuple #[.int .i64 0, .bool false]) w := hrun
   clear hrun
   go_enter Tryz.func260, Tryz.ntmps260
   go_wp2_with fail
   go_ret
   exact ⟨Tells.no HV.out, bel⟩
 | some d =>
   have hr2 : (Instr.lookup 186 (.map (some b)) (.int .i64 z) true).run Tryz.prog w = .ok (.tuple #[.int .i64 d, .bool true]) w := hrun
   clear hrun
   by_cases hd : D - 1 ≤ d
   ·have HV : Hid P := HP.out.2 ⟨HZ.out, d, rfl, hd⟩
    have d1 : decide (D - 1 ≤ d) = true := decide_eq_true hd
    clear hd
    go_enter Tryz.func260, Tryz.ntmps260
    go_wp2_with fail
    go_ret
    exact ⟨by first | exact Tells.yes HV.out | (rw [d1]; exact Tells.yes HV.out), bel⟩
   ·have HV : Hid (¬ P) := fun h => by
     obtain ⟨d', h1, h2⟩ := (HP.out.1 h).2
     injection h1 with h1
     omega
    have d1 : decide (D - 1 ≤ d) = false := decide_eq_false hd
    clear hd
    go_enter Tryz.func260, Tryz.ntmps260
    go_wp2_with fail
    go_ret
    exact ⟨by first | exact Tells.no HV.out | (rw [d1]; exact Tells.no HV.out), bel⟩
end Go.Proofs.YtbdcjhoedhhabaaGreat

