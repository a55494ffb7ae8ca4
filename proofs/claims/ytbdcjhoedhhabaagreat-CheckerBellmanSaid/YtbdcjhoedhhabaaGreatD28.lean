/- Contracts of the functions that the statements reach, part 28. -/
import Derived.Test.YtbdcjhoedhhabaaGreatRows
import Derived.Test.YtbdcjhoedhhabaaGreatD27
set_option linter.unusedSimpArgs false
set_option linter.unusedVariables false

/- adaptive.asked, the two leaf functions. Printed by gen_bm4.py. -/
namespace Go.Proofs.YtbdcjhoedhhabaaGreat
open Go.RowKit
attribute [local go_sem ↓] Go.wp_at_zero Go.wp_at_succ
attribute [local go_sem] run_max2

/-- The code of a menu, a gain function and a number of questions. -/
def AskC (ns : Int) (L G : List (List Int)) (k r : Int) : Prop := ((MenuOk ns L ∧ GainOk ns G ∧ 0 ≤ k ∧ k ≤ 8) → r = 0) ∧ (¬ (MenuOk ns L ∧ GainOk ns G ∧ 0 ≤ k ∧ k ≤ 8) → r = 1)

set_option maxRecDepth 100000 in
set_option maxHeartbeats 8000000 in
theorem asked48_any (w : World) (ns : Int) (vm vg : Value) (L G : List (List Int)) (k : Int) (h : IMat w vm L) (hg : IMat w vg G) :
 Calls Tryz.prog 146 #[.agg #[.int .i64 ns, vm], vg, .int .i64 k] w fun e w' => (∃ r : Int, e = .returned (.int .i64 r) ∧ Hid (AskC ns L G k r)) ∧ Below w.heap.size w w' := by
 have H := Lib.hid h
 have HG := Lib.hid hg
 obtain ⟨A, cap0, rfl, h, l1, l2⟩ := h.op
 obtain ⟨B, cap1, rfl, hg, l3, l4⟩ := hg.op
 clear h hg
 obtain ⟨m, hml⟩ : ∃ m, L.length = m := ⟨_, rfl⟩
 have H2 : Hid (IMat w (.slice A m cap0) L) := by have h9 := H.out; rw [hml] at h9; exact h9
 obtain ⟨g, hgl⟩ : ∃ g, G.length = g := ⟨_, rfl⟩
 have HG2 : Hid (IMat w (.slice B g cap1) G) := by have h9 := HG.out; rw [hgl] at h9; exact h9
 rw [hml, hgl]
 rw [hml] at l1
 rw [hgl] at l3
 clear hml hgl H HG
 have NO : Hid (¬ (MenuOk ns L ∧ GainOk ns G ∧ 0 ≤ k ∧ k ≤ 8) → AskC ns L G k 1) := fun h => ⟨fun h' => absurd h' h, fun _ => rfl⟩
 have L1 := made1 w #[.int .i64 ns, .slice A m cap0] 84
 go_enter Tryz.func146, Tryz.ntmps146
 go_wp2_with fail
 refine (checkmenu_any _ ns _ L (H2.out.keep kp)).mono ?_
 rintro e w1 ⟨⟨r, rfl, hr⟩, hb1⟩
 have y1 := hb1.size; (try simp only [zs] at y1)
 by_cases hmn : MenuOk ns L
 case neg =>
  obtain rfl : r = 1 := hr.out.2 hmn
  have HV := Lib.hid (NO.out (fun h => hmn h.1))
  clear hr hmn
  go_wp2_with fail
  go_ret
  exact ⟨⟨_, rfl, HV⟩, bel⟩
 obtain rfl : r = 0 := hr.out.1 hmn
 have HMN := Lib.hid hmn
 clear hr hmn
 have hns := HMN.out.1
 obtain ⟨nn, rfl⟩ : ∃ nn : Nat, ns = (nn : Int) := ⟨ns.toNat, by omega⟩
 have hnn : nn ≤ 1000000 := by omega
 have LW : Hid (∀ W, Below w1.heap.size w1 W → W.cell? ⟨w.heap.size, 0, none⟩ = some (.int .i64 (nn : Int)) ∧ W.cell? ⟨w.heap.size, 1, none⟩ = some (.slice A m cap0)) := fun W hW => by
  have L3 : Loc w1 w.heap.size 84 #[.int .i64 (nn : Int), .slice A m cap0] := L1.to
  have L4 := Loc.below L3 hW
  exact ⟨Loc.cell L4 0, Loc.cell L4 1⟩
 have HBW1 : Hid (Below w.heap.size w w1) := by show Below _ _ _; exact bel
 have hw1 : w.heap.size ≤ w1.heap.size := HBW1.out.size
 clear hns L1
 go_wp2_with fail
 refine wp_region_noPanic ?_
 refine wp_region_held_drew (S := (fun W => W.cell? ⟨w.heap.size, 0, none⟩ = some (.int .i64 (nn : Int)) ∧ W.cell? ⟨w.heap.size, 1, none⟩ = some (.slice A m cap0))) (by kernel_rfl) ?_ (fun hHeld => ?_)
 ·exact LW.out _ bel
 refine takeT 0 hHeld ?_
 (try simp only [Act.put, ly])
 refine takeT 1 hHeld ?_
 (try simp only [Act.put, ly])
 refine takeT 2 hHeld ?_
 (try simp only [Act.put, ly])
 refine takeT 3 hHeld ?_
 (try simp only [Act.put, ly])
 refine wpAnyH_ready (rs := [4]) (by kernel_rfl) (by simp) ?_
 refine AllReadyH.cons rfl (fun K hK => ?_) AllReadyH.nil
 refine step_makeI _ rfl _ _ rfl nn rfl rfl hnn ?_
 have hbm : Below w1.heap.size w1 (w1.drew.alloc (.cells (madeCells #[.int .i64 0] nn) 3)) := ((Below.refl _ _).drew).alloc (Nat.le_refl _) _
 have HZ : Hid (RowI (w1.drew.alloc (.cells (madeCells #[.int .i64 0] nn) 3)) w1.heap.size (List.replicate nn 0)) := rowI_made (made1 w1.drew _ _)
 refine hK.out _ _ ?_ (fun hHeld => ?_)
 ·(try dsimp only)
  exact LW.out _ hbm
 clear hK K
 (try simp only [Act.put, ly])
 have HZV : Hid (IntsV (w1.drew.alloc (.cells (madeCells #[.int .i64 0] nn) 3)) (.slice (some ⟨w1.heap.size, 0, none⟩) nn nn) (List.replicate nn 0)) := by
  have h9 := IntsO.vals (w := w1.drew.alloc (.cells (madeCells #[.int .i64 0] nn) 3)) (u := .slice (some ⟨w1.heap.size, 0, none⟩) nn nn) (zs := List.replicate nn 0) ⟨w1.heap.size, by rw [List.length_replicate], HZ.out, fun z hz => by have := List.eq_of_mem_replicate hz; omega⟩ (by rw [List.length_replicate]; unfold maxLen; omega)
  exact h9
 refine wpAnyH_ready (rs := [5]) (by kernel_rfl) (by simp) ?_
 refine AllReadyH.cons rfl (fun K hK => ?_) AllReadyH.nil
 go_simp
 refine (worth_any48 _ nn _ _ _ L G (H2.out.keep (.of_below (HBW1.out.trans (hbm.mono hw1)))) HMN.out (HG2.out.keep (.of_below (HBW1.out.trans (hbm.mono hw1)))) HZV.out).mono ?_
 rintro e w3 ⟨⟨z, r, rfl, hr⟩, hb3⟩
 have hb4 : Below w1.heap.size w1 w3 := hbm.trans (hb3.mono (by have := hbm.size; exact this))
 have y4 := hb4.size; (try simp only [zs] at y4)
 (try go_wp2_with fail)
 refine hK.out _ _ ?_ (fun hHeld => ?_)
 ·(try dsimp only)
  exact LW.out _ hb4
 clear hK K
 (try simp only [Act.put, ly])
 refine takeT 6 hHeld ?_
 (try simp only [Act.put, ly])
 refine takeT 7 hHeld ?_
 (try simp only [Act.put, ly])
 refine takeT 8 hHeld ?_
 (try simp only [Act.put, ly])
 refine takeT 9 hHeld ?_
 (try simp only [Act.put, ly])
 refine takeT 10 hHeld ?_
 (try simp only [Act.put, ly])
 refine wpAnyH_done (by kernel_rfl) ?_ _
 refine NoPanic.normal ?_
 by_cases hgn : GainOk (nn : Int) G
 case neg =>
  obtain rfl : r = 1 := hr.out.2 hgn
  have HV := Lib.hid (NO.out (fun h => hgn h.2.1))
  clear hr hgn
  go_wp2_with fail
  go_ret
  exact ⟨⟨_, rfl, HV⟩, bel⟩
 obtain rfl : r = 0 := hr.out.1 hgn
 have HGN := Lib.hid hgn
 clear hr hgn
 by_cases z0 : k < 0
 ·have HV := Lib.hid (NO.out (fun h => by omega))
  have d1 : decide (k < 0) = true := decide_eq_true z0
  clear z0
  go_wp2_with fail
  go_ret
  exact ⟨⟨_, rfl, HV⟩, bel⟩
 have d1 : decide (k < 0) = false := decide_eq_false z0
 by_cases z1 : 8 < k
 ·have HV := Lib.hid (NO.out (fun h => by omega))
  have d2 : decide (8 < k) = true := decide_eq_true z1
  clear z0 z1
  go_wp2_with fail
  go_ret
  exact ⟨⟨_, rfl, HV⟩, bel⟩
 have d2 : decide (8 < k) = false := decide_eq_false z1
 have HV : Hid (AskC (nn : Int) L G k 0) := ⟨fun _ => rfl, fun h => absurd ⟨HMN.out, HGN.out, by omega, by omega⟩ h⟩
 clear z0 z1
 go_wp2_with fail
 go_ret
 exact ⟨⟨_, rfl, HV⟩, bel⟩

/-- What an action gains over the first members of a set. -/
def rowG (r : List Int) (S : Nat) : Nat → Int
 | 0 => 0
 | c + 1 => rowG r S c + (if S.testBit c then (r[c]?).getD 0 else 0)
/-- The greatest gain of the first actions. -/
def leafG (G : List (List Int)) (S : Nat) : Nat → Int
 | 0 => 0
 | c + 1 => max (leafG G S c) (rowG ((G[c]?).getD []) S ((G[c]?).getD []).length)
theorem rowG_range {r : List Int} (h : ∀ x ∈ r, 0 ≤ x ∧ x ≤ 1024) (S : Nat) : ∀ c, 0 ≤ rowG r S c ∧ rowG r S c ≤ 1024 * (c : Int)
 | 0 => by simp [rowG]
 | c + 1 => by
   have ih := rowG_range h S c
   have hx : 0 ≤ (r[c]?).getD 0 ∧ (r[c]?).getD 0 ≤ 1024 := by
    cases hq : r[c]? with
    | none => simp
    | some x => have := h x (List.mem_of_getElem? hq); simpa using this
   unfold rowG
   split <;> omega


set_option maxRecDepth 100000 in
set_option maxHeartbeats 8000000 in
theorem kleaf_any (w : World) (ns : Int) (vg : Value) (G : List (List Int)) (S : Nat) (hg : IMat w vg G) (hok : GainOk ns G) (hns : ns ≤ 62) (hS : S < 4611686018427387904) :
 Calls Tryz.prog 144 #[vg, .int .i64 (S : Int)] w fun e w' => e = .returned (.int .i64 (leafG G S G.length)) ∧ Below w.heap.size w w' := by
 have HG := Lib.hid hg
 have HOK := Lib.hid hok
 obtain ⟨B, cap1, rfl, hg, l3, l4⟩ := hg.op
 clear hg hok
 obtain ⟨k, hk⟩ : ∃ k, G.length = k := ⟨_, rfl⟩
 have HK := Lib.hid hk
 have HG2 : Hid (IMat w (.slice B k cap1) G) := by have h9 := HG.out; rw [hk] at h9; exact h9
 rw [hk] at l3 ⊢
 have hk64 : k ≤ 64 := by have := HOK.out.1; have := HK.out; omega
 obtain ⟨R, hR⟩ : ∃ R, leafG G S k = R := ⟨_, rfl⟩
 rw [hR]
 have HR := Lib.hid hR
 clear hk HG hR
 go_enter Tryz.func144, Tryz.ntmps144
 go_wp2_with fail
 go_loopw [5, 13] (fun bv i wr => ∃ (c : Nat) (b : Int), c ≤ k ∧ i = .int .i64 c ∧ bv = .int .i64 b ∧ Hid (leafG G S c = b) ∧ Below w.heap.size w wr) (fun _ i _ => k - (intOf i).toNat)
 case atStart => exact ⟨0, 0, by omega, rfl, rfl, Lib.hid rfl, bel⟩
 case round =>
  obtain ⟨c, b, hc, rfl, rfl, hL, hB⟩ := hrel
  obtain ⟨wo, rfl⟩ : ∃ wo : World, wo = wr := ⟨_, rfl⟩
  have y5 := hB.size; (try simp only [zs] at y5)
  by_cases hlt : c < k
  ·obtain ⟨r, he⟩ : ∃ l, G[c]? = some l := ⟨_, List.getElem?_eq_getElem (by rw [HK.out]; exact hlt)⟩
   obtain ⟨a, D, d, rfl, hab, hcell, hnum, l7, l8⟩ := (HG2.out.keep (.of_below hB)).at he
   have hrow := HOK.out.2 r (List.mem_of_getElem? he)
   obtain ⟨n, hn⟩ : ∃ n, r.length = n := ⟨_, rfl⟩
   have HRN := Lib.hid hn
   have hn62 : n ≤ 62 := by have := hrow.1; omega
   have HRR : Hid (∀ x ∈ r, 0 ≤ x ∧ x ≤ 1024) := hrow.2
   have HNX : Hid (leafG G S (c + 1) = max b (rowG r S n)) := by
    show max (leafG G S c) (rowG ((G[c]?).getD []) S ((G[c]?).getD []).length) = _
    rw [he, hL.out]
    simp only [Option.getD_some]
    rw [hn]
   rw [hn] at hcell l7 hnum
   have HNUM := Lib.hid hnum
   have k0 : (0 : Int) ≤ (c : Int) := by omega
   have k1 : (c : Int) < (k : Int) := by omega
   clear he hrow hn hnum
   go_wp2_with fail
   clear hcell
   go_loopw [8, 19] (fun nv i wr => ∃ (s : Nat) (y : Int), s ≤ n ∧ i = .int .i64 s ∧ nv = .int .i64 y ∧ Hid (rowG r S s = y) ∧ Below w.heap.size w wr ∧ Below wo.heap.size wo wr) (fun _ i _ => n - (intOf i).toNat)
   case atStart => exact ⟨0, 0, by omega, rfl, rfl, Lib.hid rfl, bel, bel⟩
   case round =>
    obtain ⟨s, y, hs, rfl, rfl, hY, hB2, hB3⟩ := hrel
    obtain ⟨wp, rfl⟩ : ∃ wp : World, wp = wr := ⟨_, rfl⟩
    have y6 := hB2.size; (try simp only [zs] at y6)
    have y7 := hB3.size; (try simp only [zs] at y7)
    by_cases hlt2 : s < n
    ·obtain ⟨x, hx⟩ : ∃ x, r[s]? = some x := ⟨_, List.getElem?_eq_getElem (by rw [HRN.out]; exact hlt2)⟩
     obtain ⟨aD, rfl, -, hcD, -, -⟩ := (HNUM.out.keep (.of_below hB3)).at hx
     have hxr := HRR.out x (List.mem_of_getElem? hx)
     have hyr := rowG_range HRR.out S s
     rw [hY.out] at hyr
     have hb := shr_bit S s
     have e1 : ((S : Int) / 2 ^ s) = ((S / 2 ^ s : Nat) : Int) := by norm_cast
     have hqb : S / 2 ^ s < 9223372036854775808 := Nat.lt_of_le_of_lt (Nat.div_le_self _ _) (by omega)
     have s2 := bits_one hqb
     obtain ⟨q, hq⟩ : ∃ q : Nat, S / 2 ^ s = q := ⟨_, rfl⟩
     rw [hq] at hb e1 s2
     have k2 : (0 : Int) ≤ (s : Int) := by omega
     have k3 : (s : Int) < (n : Int) := by omega
     have k4 : (s : Int) ≤ 64 := by omega
     have HS : Hid (rowG r S (s + 1) = y + (if S.testBit s then x else 0)) := by
      show rowG r S s + (if S.testBit s then (r[s]?).getD 0 else 0) = _
      rw [hY.out, hx]
      rfl
     obtain ⟨T, hT⟩ : ∃ T, S.testBit s = T := ⟨_, rfl⟩
     rw [hT] at hb HS
     rw [hb] at s2
     clear hx hq hb hT hqb
     cases T
     ·have s3 : bits .and .i64 (q : Int) 1 = 0 := s2
      have HNY : Hid (rowG r S (s + 1) = y) := by show _ = _; rw [HS.out]; simp
      have e3 : IntKind.i64.wrap y = y := by rw [IntKind.wrap_i64]; omega
      clear s2 HS
      go_wp2_with fail
      go_roundw
      case rel => exact ⟨s + 1, y, by omega, by go_num, rfl, HNY, bel, bel⟩
      case measure => simp only [intOf]; omega
     ·have s3 : bits .and .i64 (q : Int) 1 = 1 := s2
      have HNY : Hid (rowG r S (s + 1) = y + x) := by show _ = _; rw [HS.out]; simp
      have e2 : IntKind.i64.wrap x = x := by rw [IntKind.wrap_i64]; omega
      have e3 : IntKind.i64.wrap (y + x) = y + x := by rw [IntKind.wrap_i64]; omega
      clear s2 HS
      go_wp2_with fail
      go_roundw
      case rel => exact ⟨s + 1, y + x, by omega, by go_num, rfl, HNY, bel, bel⟩
      case measure => simp only [intOf]; omega
    ·obtain rfl : s = n := by omega
     obtain ⟨u, hu⟩ : ∃ u, max b y = u := ⟨_, rfl⟩
     have HNU : Hid (leafG G S (c + 1) = u) := by show _ = _; rw [HNX.out, hY.out, hu]
     go_wp2_with fail
     go_roundw
     case rel => exact ⟨c + 1, u, by omega, by go_num, by first | rfl | rw [hu], HNU, bel⟩
     case measure => simp only [intOf]; omega
  ·obtain rfl : c = k := by omega
   have HE : Hid (b = R) := by show _ = _; rw [← hL.out, HR.out]
   go_wp2_with fail
   go_ret
   exact ⟨by first | rfl | (rw [HE.out]; rfl) | rw [HE.out], bel⟩


set_option maxRecDepth 100000 in
set_option maxHeartbeats 8000000 in
theorem aleaf_any (w : World) (ns : Int) (vg : Value) (G : List (List Int)) (S : Nat) (hg : IMat w vg G) (hok : GainOk ns G) (hns : ns ≤ 62) (hS : S < 4611686018427387904) :
 Calls Tryz.prog 148 #[vg, .int .i64 (S : Int)] w fun e w' => e = .returned (.int .i64 (leafG G S G.length)) ∧ Below w.heap.size w w' := by
 have HG := Lib.hid hg
 have HOK := Lib.hid hok
 obtain ⟨B, cap1, rfl, hg, l3, l4⟩ := hg.op
 clear hg hok
 obtain ⟨k, hk⟩ : ∃ k, G.length = k := ⟨_, rfl⟩
 have HK := Lib.hid hk
 have HG2 : Hid (IMat w (.slice B k cap1) G) := by have h9 := HG.out; rw [hk] at h9; exact h9
 rw [hk] at l3 ⊢
 have hk64 : k ≤ 64 := by have := HOK.out.1; have := HK.out; omega
 obtain ⟨R, hR⟩ : ∃ R, leafG G S k = R := ⟨_, rfl⟩
 rw [hR]
 have HR := Lib.hid hR
 clear hk HG hR
 go_enter Tryz.func148, Tryz.ntmps148
 go_wp2_with fail
 go_loopw [5, 13] (fun bv i wr => ∃ (c : Nat) (b : Int), c ≤ k ∧ i = .int .i64 c ∧ bv = .int .i64 b ∧ Hid (leafG G S c = b) ∧ Below w.heap.size w wr) (fun _ i _ => k - (intOf i).toNat)
 case atStart => exact ⟨0, 0, by omega, rfl, rfl, Lib.hid rfl, bel⟩
 case round =>
  obtain ⟨c, b, hc, rfl, rfl, hL, hB⟩ := hrel
  obtain ⟨wo, rfl⟩ : ∃ wo : World, wo = wr := ⟨_, rfl⟩
  have y5 := hB.size; (try simp only [zs] at y5)
  by_cases hlt : c < k
  ·obtain ⟨r, he⟩ : ∃ l, G[c]? = some l := ⟨_, List.getElem?_eq_getElem (by rw [HK.out]; exact hlt)⟩
   obtain ⟨a, D, d, rfl, hab, hcell, hnum, l7, l8⟩ := (HG2.out.keep (.of_below hB)).at he
   have hrow := HOK.out.2 r (List.mem_of_getElem? he)
   obtain ⟨n, hn⟩ : ∃ n, r.length = n := ⟨_, rfl⟩
   have HRN := Lib.hid hn
   have hn62 : n ≤ 62 := by have := hrow.1; omega
   have HRR : Hid (∀ x ∈ r, 0 ≤ x ∧ x ≤ 1024) := hrow.2
   have HNX : Hid (leafG G S (c + 1) = max b (rowG r S n)) := by
    show max (leafG G S c) (rowG ((G[c]?).getD []) S ((G[c]?).getD []).length) = _
    rw [he, hL.out]
    simp only [Option.getD_some]
    rw [hn]
   rw [hn] at hcell l7 hnum
   have HNUM := Lib.hid hnum
   have k0 : (0 : Int) ≤ (c : Int) := by omega
   have k1 : (c : Int) < (k : Int) := by omega
   clear he hrow hn hnum
   go_wp2_with fail
   clear hcell
   go_loopw [8, 19] (fun nv i wr => ∃ (s : Nat) (y : Int), s ≤ n ∧ i = .int .i64 s ∧ nv = .int .i64 y ∧ Hid (rowG r S s = y) ∧ Below w.heap.size w wr ∧ Below wo.heap.size wo wr) (fun _ i _ => n - (intOf i).toNat)
   case atStart => exact ⟨0, 0, by omega, rfl, rfl, Lib.hid rfl, bel, bel⟩
   case round =>
    obtain ⟨s, y, hs, rfl, rfl, hY, hB2, hB3⟩ := hrel
    obtain ⟨wp, rfl⟩ : ∃ wp : World, wp = wr := ⟨_, rfl⟩
    have y6 := hB2.size; (try simp only [zs] at y6)
    have y7 := hB3.size; (try simp only [zs] at y7)
    by_cases hlt2 : s < n
    ·obtain ⟨x, hx⟩ : ∃ x, r[s]? = some x := ⟨_, List.getElem?_eq_getElem (by rw [HRN.out]; exact hlt2)⟩
     obtain ⟨aD, rfl, -, hcD, -, -⟩ := (HNUM.out.keep (.of_below hB3)).at hx
     have hxr := HRR.out x (List.mem_of_getElem? hx)
     have hyr := rowG_range HRR.out S s
     rw [hY.out] at hyr
     have hb := shr_bit S s
     have e1 : ((S : Int) / 2 ^ s) = ((S / 2 ^ s : Nat) : Int) := by norm_cast
     have hqb : S / 2 ^ s < 9223372036854775808 := Nat.lt_of_le_of_lt (Nat.div_le_self _ _) (by omega)
     have s2 := bits_one hqb
     obtain ⟨q, hq⟩ : ∃ q : Nat, S / 2 ^ s = q := ⟨_, rfl⟩
     rw [hq] at hb e1 s2
     have k2 : (0 : Int) ≤ (s : Int) := by omega
     have k3 : (s : Int) < (n : Int) := by omega
     have k4 : (s : Int) ≤ 64 := by omega
     have HS : Hid (rowG r S (s + 1) = y + (if S.testBit s then x else 0)) := by
      show rowG r S s + (if S.testBit s then (r[s]?).getD 0 else 0) = _
      rw [hY.out, hx]
      rfl
     obtain ⟨T, hT⟩ : ∃ T, S.testBit s = T := ⟨_, rfl⟩
     rw [hT] at hb HS
     rw [hb] at s2
     clear hx hq hb hT hqb
     cases T
     ·have s3 : bits .and .i64 (q : Int) 1 = 0 := s2
      have HNY : Hid (rowG r S (s + 1) = y) := by show _ = _; rw [HS.out]; simp
      have e3 : IntKind.i64.wrap y = y := by rw [IntKind.wrap_i64]; omega
      clear s2 HS
      go_wp2_with fail
      go_roundw
      case rel => exact ⟨s + 1, y, by omega, by go_num, rfl, HNY, bel, bel⟩
      case measure => simp only [intOf]; omega
     ·have s3 : bits .and .i64 (q : Int) 1 = 1 := s2
      have HNY : Hid (rowG r S (s + 1) = y + x) := by show _ = _; rw [HS.out]; simp
      have e2 : IntKind.i64.wrap x = x := by rw [IntKind.wrap_i64]; omega
      have e3 : IntKind.i64.wrap (y + x) = y + x := by rw [IntKind.wrap_i64]; omega
      clear s2 HS
      go_wp2_with fail
      go_roundw
      case rel => exact ⟨s + 1, y + x, by omega, by go_num, rfl, HNY, bel, bel⟩
      case measure => simp only [intOf]; omega
    ·obtain rfl : s = n := by omega
     obtain ⟨u, hu⟩ : ∃ u, max b y = u := ⟨_, rfl⟩
     have HNU : Hid (leafG G S (c + 1) = u) := by show _ = _; rw [HNX.out, hY.out, hu]
     go_wp2_with fail
     go_roundw
     case rel => exact ⟨c + 1, u, by omega, by go_num, by first | rfl | rw [hu], HNU, bel⟩
     case measure => simp only [intOf]; omega
  ·obtain rfl : c = k := by omega
   have HE : Hid (b = R) := by show _ = _; rw [← hL.out, HR.out]
   go_wp2_with fail
   go_ret
   exact ⟨by first | rfl | (rw [HE.out]; rfl) | rw [HE.out], bel⟩

end Go.Proofs.YtbdcjhoedhhabaaGreat

/- cmp.Compare, cmp.Or, adaptive.order. -/
namespace Go.Proofs.YtbdcjhoedhhabaaGreat
open Go.RowKit
attribute [local go_sem ↓] Go.wp_at_zero Go.wp_at_succ

/-- The order of two integers. -/
def cmpC (a b : Int) : Int := if a < b then -1 else if b < a then 1 else 0

set_option maxHeartbeats 4000000 in
theorem isnan_any (w : World) (z : Int) :
 Calls Tryz.prog 370 #[.int .i64 z] w fun e w' => e = .returned (.bool false) ∧ Below w.heap.size w w' := by
 have d1 : (z == z) = true := beq_self_eq_true z
 have d2 : (z != z) = false := by simp only [bne, d1]; rfl
 go_enter Tryz.func370, Tryz.ntmps370
 go_wp2_with fail
 go_ret
 exact ⟨by first | rfl | rw [d2], bel⟩

set_option maxHeartbeats 4000000 in
theorem cmpcompare_any (w : World) (a b : Int) :
 Calls Tryz.prog 272 #[.int .i64 a, .int .i64 b] w fun e w' => e = .returned (.int .i64 (cmpC a b)) ∧ Below w.heap.size w w' := by
 obtain ⟨R, hR⟩ : ∃ R, cmpC a b = R := ⟨_, rfl⟩
 rw [hR]
 have HR : Hid ((if a < b then -1 else if b < a then 1 else 0) = R) := hR
 clear hR
 go_enter Tryz.func272, Tryz.ntmps272
 go_wp2_with fail
 refine (isnan_any _ a).mono ?_
 rintro e w1 ⟨rfl, hb1⟩
 have y1 := hb1.size; (try simp only [zs] at y1)
 go_wp2_with fail
 refine (isnan_any _ b).mono ?_
 rintro e w2 ⟨rfl, hb2⟩
 have y2 := hb2.size; (try simp only [zs] at y2)
 by_cases h0 : a < b
 ·have HE : Hid (R = -1) := by have h9 := HR.out; rw [if_pos h0] at h9; exact h9.symm
  have d1 : decide (a < b) = true := decide_eq_true h0
  clear h0 HR
  go_wp2_with fail
  go_ret
  exact ⟨by first | rfl | (rw [HE.out]; rfl) | rw [HE.out], bel⟩
 have d1 : decide (a < b) = false := decide_eq_false h0
 by_cases h1 : b < a
 ·have HE : Hid (R = 1) := by have h9 := HR.out; rw [if_neg h0, if_pos h1] at h9; exact h9.symm
  have d2 : decide (b < a) = true := decide_eq_true h1
  clear h0 h1 HR
  go_wp2_with fail
  go_ret
  exact ⟨by first | rfl | (rw [HE.out]; rfl) | rw [HE.out], bel⟩
 ·have HE : Hid (R = 0) := by have h9 := HR.out; rw [if_neg h0, if_neg h1] at h9; exact h9.symm
  have d2 : decide (b < a) = false := decide_eq_false h1
  clear h0 h1 HR
  go_wp2_with fail
  go_ret
  exact ⟨by first | rfl | (rw [HE.out]; rfl) | rw [HE.out], bel⟩

set_option maxHeartbeats 4000000 in
theorem cmpor_any (w : World) (x y : Int) (g : Nat) (hl : Loc w g 3 #[.int .i64 x, .int .i64 y]) :
 Calls Tryz.prog 271 #[.slice (some ⟨g, 0, none⟩) 2 2] w fun e w' => e = .returned (.int .i64 (if x = 0 then y else x)) ∧ Below w.heap.size w w' := by
 have HL := Lib.hid hl
 obtain ⟨R, hR⟩ : ∃ R, (if x = 0 then y else x) = R := ⟨_, rfl⟩
 rw [hR]
 have HR : Hid ((if x = 0 then y else x) = R) := hR
 clear hR hl
 go_enter Tryz.func271, Tryz.ntmps271
 go_wp2_with fail
 go_loopw [8] (fun i wr => ∃ (c : Nat), c ≤ 2 ∧ i = .int .i64 c ∧ Hid ((0 < c → x = 0) ∧ (1 < c → y = 0)) ∧ Hid (Loc wr g 3 #[.int .i64 x, .int .i64 y]) ∧ Below w.heap.size w wr) (fun i _ => 2 - (intOf i).toNat)
 case atStart => exact ⟨0, by omega, rfl, Lib.hid ⟨fun h => absurd h (by omega), fun h => absurd h (by omega)⟩, HL, bel⟩
 case round =>
  clear HL
  obtain ⟨c, hc, rfl, hI, hL, hB⟩ := hrel
  obtain ⟨wo, rfl⟩ : ∃ wo : World, wo = wr := ⟨_, rfl⟩
  have y5 := hB.size; (try simp only [zs] at y5)
  have c0 := Loc.cell hL.out 0
  have c1 := Loc.cell hL.out 1
  simp only [List.getElem?_toArray, List.getElem?_cons_zero, List.getElem?_cons_succ] at c0 c1
  by_cases h0 : c = 0
  ·subst h0
   by_cases hx : x = 0
   ·have d1 : (x == 0) = true := beq_iff_eq.2 hx
    have d2 : (x != 0) = false := by simp only [bne, d1]; rfl
    have HX := Lib.hid hx
    clear hx
    go_wp2_with fail
    go_roundw
    case rel => exact ⟨1, by omega, by go_num, Lib.hid ⟨fun _ => HX.out, fun h => absurd h (by omega)⟩, hL, bel⟩
    case measure => simp only [intOf]; omega
   ·have HE : Hid (R = x) := by have h9 := HR.out; rw [if_neg hx] at h9; exact h9.symm
    have d1 : (x == 0) = false := beq_eq_false_iff_ne.2 hx
    have d2 : (x != 0) = true := bne_iff_ne.2 hx
    clear hx HR
    go_wp2_with fail
    go_ret
    exact ⟨by first | rfl | (rw [HE.out]; rfl) | rw [HE.out], bel⟩
  by_cases h1 : c = 1
  ·subst h1
   have HX : Hid (x = 0) := hI.out.1 (by omega)
   by_cases hy : y = 0
   ·have d1 : (y == 0) = true := beq_iff_eq.2 hy
    have d2 : (y != 0) = false := by simp only [bne, d1]; rfl
    have HY := Lib.hid hy
    clear hy
    go_wp2_with fail
    go_roundw
    case rel => exact ⟨2, by omega, by go_num, Lib.hid ⟨fun _ => HX.out, fun _ => HY.out⟩, hL, bel⟩
    case measure => simp only [intOf]; omega
   ·have HE : Hid (R = y) := by have h9 := HR.out; rw [if_pos HX.out] at h9; exact h9.symm
    have d1 : (y == 0) = false := beq_eq_false_iff_ne.2 hy
    have d2 : (y != 0) = true := bne_iff_ne.2 hy
    clear hy HR
    go_wp2_with fail
    go_ret
    exact ⟨by first | rfl | (rw [HE.out]; rfl) | rw [HE.out], bel⟩
  ·obtain rfl : c = 2 := by omega
   have HE : Hid (R = 0) := by
    have h9 := HR.out
    rw [if_pos (hI.out.1 (by omega)), hI.out.2 (by omega)] at h9
    exact h9.symm
   clear h0 h1
   go_wp2_with fail
   go_ret
   exact ⟨by first | rfl | (rw [HE.out]; rfl) | rw [HE.out], hB⟩

/-- The order of two entries. -/
def ordC (s1 l1 s2 l2 : Int) : Int := if cmpC l2 l1 = 0 then cmpC s1 s2 else cmpC l2 l1

set_option maxRecDepth 100000 in
set_option maxHeartbeats 8000000 in
theorem order_any48 (w : World) (s1 l1 v1 s2 l2 v2 : Int) :
 Calls Tryz.prog 147 #[.agg #[.int .i64 s1, .int .i64 l1, .int .i64 v1], .agg #[.int .i64 s2, .int .i64 l2, .int .i64 v2]] w fun e w' => e = .returned (.int .i64 (ordC s1 l1 s2 l2)) ∧ Below w.heap.size w w' := by
 have L1 := made1 w #[.int .i64 s1, .int .i64 l1, .int .i64 v1] 241
 have L2 := made2 w (.cells #[.int .i64 s1, .int .i64 l1, .int .i64 v1] 241) #[.int .i64 s2, .int .i64 l2, .int .i64 v2] 241
 obtain ⟨w1, hw1⟩ : ∃ W, (w.alloc (.cells #[.int .i64 s1, .int .i64 l1, .int .i64 v1] 241)).alloc (.cells #[.int .i64 s2, .int .i64 l2, .int .i64 v2] 241) = W := ⟨_, rfl⟩
 have B1 : Loc w1 w.heap.size 241 #[.int .i64 s1, .int .i64 l1, .int .i64 v1] := by rw [← hw1]; exact L1.to
 have B2 : Loc w1 (w.heap.size + 1) 241 #[.int .i64 s2, .int .i64 l2, .int .i64 v2] := by rw [← hw1]; exact L2
 have HB1 : Hid (Below w.heap.size w w1) := by show Below _ _ _; rw [← hw1]; exact bel
 have HW1 := Lib.hid hw1
 have LW : Hid (∀ W, Below w1.heap.size w1 W → (W.cell? ⟨w.heap.size, 0, none⟩ = some (.int .i64 s1) ∧ W.cell? ⟨w.heap.size, 1, none⟩ = some (.int .i64 l1)) ∧ W.cell? ⟨w.heap.size + 1, 0, none⟩ = some (.int .i64 s2) ∧ W.cell? ⟨w.heap.size + 1, 1, none⟩ = some (.int .i64 l2)) := fun W hW =>
  ⟨⟨Loc.cell (Loc.below B1 hW) 0, Loc.cell (Loc.below B1 hW) 1⟩, Loc.cell (Loc.below B2 hW) 0, Loc.cell (Loc.below B2 hW) 1⟩
 obtain ⟨c1, hc1⟩ : ∃ c, cmpC l2 l1 = c := ⟨_, rfl⟩
 obtain ⟨c2, hc2⟩ : ∃ c, cmpC s1 s2 = c := ⟨_, rfl⟩
 obtain ⟨R, hR⟩ : ∃ R, ordC s1 l1 s2 l2 = R := ⟨_, rfl⟩
 rw [hR]
 have HR : Hid ((if c1 = 0 then c2 else c1) = R) := by rw [← hR, ← hc1, ← hc2]; rfl
 have HC1 := Lib.hid hc1
 have HC2 := Lib.hid hc2
 clear hw1 L1 L2 B1 B2 hc1 hc2 hR
 go_enter Tryz.func147, Tryz.ntmps147
 go_wp2_with fail
 rw [HW1.out]
 refine wp_region_noPanic ?_
 refine wp_region_held_drew (S := (fun W => (W.cell? ⟨w.heap.size, 0, none⟩ = some (.int .i64 s1) ∧ W.cell? ⟨w.heap.size, 1, none⟩ = some (.int .i64 l1)) ∧ W.cell? ⟨w.heap.size + 1, 0, none⟩ = some (.int .i64 s2) ∧ W.cell? ⟨w.heap.size + 1, 1, none⟩ = some (.int .i64 l2))) (by kernel_rfl) ?_ (fun hHeld => ?_)
 ·exact LW.out _ (Below.refl _ _).drew
 refine takeT 0 hHeld ?_
 (try simp only [Act.put, ly])
 refine takeT 1 hHeld ?_
 (try simp only [Act.put, ly])
 refine takeT 2 hHeld ?_
 (try simp only [Act.put, ly])
 refine takeT 3 hHeld ?_
 (try simp only [Act.put, ly])
 refine takeT 5 hHeld ?_
 (try simp only [Act.put, ly])
 refine takeT 6 hHeld ?_
 (try simp only [Act.put, ly])
 refine takeT 7 hHeld ?_
 (try simp only [Act.put, ly])
 refine takeT 8 hHeld ?_
 (try simp only [Act.put, ly])
 refine wpAnyH_ready (rs := [4]) (by kernel_rfl) (by simp) ?_
 refine AllReadyH.cons rfl (fun K hK => ?_) AllReadyH.nil
 go_simp
 refine (cmpcompare_any _ l2 l1).mono ?_
 rintro e w3 ⟨he, hb3⟩
 rw [HC1.out] at he
 subst he
 have hb3 : Below w1.heap.size w1 w3 := ((Below.refl _ _).drew).trans hb3
 have y3 := hb3.size; (try simp only [zs] at y3)
 (try go_wp2_with fail)
 refine hK.out _ _ ?_ (fun hHeld => ?_)
 ·(try dsimp only)
  exact LW.out _ hb3
 clear hK K
 (try simp only [Act.put, ly])
 refine wpAnyH_ready (rs := [9]) (by kernel_rfl) (by simp) ?_
 refine AllReadyH.cons rfl (fun K hK => ?_) AllReadyH.nil
 go_simp
 refine (cmpcompare_any _ s1 s2).mono ?_
 rintro e w4 ⟨he, hb4⟩
 rw [HC2.out] at he
 subst he
 have hb4 : Below w1.heap.size w1 w4 := hb3.trans (hb4.mono y3)
 have y4 := hb4.size; (try simp only [zs] at y4)
 (try go_wp2_with fail)
 refine hK.out _ _ ?_ (fun hHeld => ?_)
 ·(try dsimp only)
  exact LW.out _ hb4
 clear hK K
 (try simp only [Act.put, ly])
 refine wpAnyH_ready (rs := [10]) (by kernel_rfl) (by simp) ?_
 refine AllReadyH.cons rfl (fun K hK => ?_) AllReadyH.nil
 go_simp
 have hb5 : Below w1.heap.size w1 (w4.alloc (.cells #[.int .i64 c1, .int .i64 c2] 3)) := hb4.alloc y4 _
 (try go_wp2_with fail)
 refine hK.out _ _ ?_ (fun hHeld => ?_)
 ·(try dsimp only)
  exact LW.out _ hb5
 clear hK K
 (try simp only [Act.put, ly])
 refine wpAnyH_ready (rs := [11]) (by kernel_rfl) (by simp) ?_
 refine AllReadyH.cons rfl (fun K hK => ?_) AllReadyH.nil
 go_simp
 refine (cmpor_any _ c1 c2 w4.heap.size (made1 w4 _ _)).mono ?_
 rintro e w6 ⟨he, hb6⟩
 rw [HR.out] at he
 subst he
 have hb6 : Below w1.heap.size w1 w6 := hb5.trans (hb6.mono (by simp only [World.size_alloc]; omega))
 have y6 := hb6.size; (try simp only [zs] at y6)
 (try go_wp2_with fail)
 refine hK.out _ _ ?_ (fun hHeld => ?_)
 ·(try dsimp only)
  exact LW.out _ hb6
 clear hK K
 (try simp only [Act.put, ly])
 refine takeT 12 hHeld ?_
 (try simp only [Act.put, ly])
 refine wpAnyH_done (by kernel_rfl) ?_ _
 refine NoPanic.normal ?_
 go_wp2_with fail
 go_ret
 exact ⟨rfl, HB1.out.trans (hb6.mono HB1.out.size)⟩
end Go.Proofs.YtbdcjhoedhhabaaGreat

