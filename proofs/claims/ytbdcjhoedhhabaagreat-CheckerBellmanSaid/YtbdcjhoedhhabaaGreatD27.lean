/- Contracts of the functions that the statements reach, part 27. -/
import Derived.Test.YtbdcjhoedhhabaaGreatRows
import Derived.Deep.OwnRows
import Derived.Test.YtbdcjhoedhhabaaGreatD23
import Derived.Test.YtbdcjhoedhhabaaGreatD24
import Derived.Test.YtbdcjhoedhhabaaGreatD25
import Derived.Test.YtbdcjhoedhhabaaGreatD26
set_option linter.unusedSimpArgs false
set_option linter.unusedVariables false

/- partition.Sizes and Count of one class; strategy.Worth without knowledge; adaptive.asked. -/
namespace Go.Proofs.YtbdcjhoedhhabaaGreat
open Go.RowKit
attribute [local go_sem ↓] Go.wp_at_zero Go.wp_at_succ
attribute [local go_sem] run_max2

theorem canGo_zeros : ∀ (n : Nat) (k : Int), 0 ≤ k → canGo k (List.replicate n 0)
 | 0, _, _ => trivial
 | n + 1, k, h => ⟨by omega, canGo_zeros n _ (by omega)⟩

theorem Own1.rowG {w : World} {base g m cap : Nat} {zs : List Int} (h : Own1 w base 3 (.slice (some ⟨g, 0, none⟩) m cap) (zs.map (Value.int .i64))) (hne : zs ≠ []) : m = zs.length ∧ base ≤ g ∧ RowG w g cap zs := by
 have hm9 := h.2
 rcases h.op with ⟨-, h9⟩ | ⟨g', cap', cur, e, h3, h4, h5, h6⟩
 ·exact absurd (by simpa using h9) hne
 ·injection e with e1 e2 e3
  injection e1 with e1
  injection e1 with e1
  subst e1 e3
  rw [List.length_map] at e2 h4
  refine ⟨e2, h3, h4, ?_, cur, h5, fun i z hz => h6 i _ (by rw [List.getElem?_map, hz]; rfl)⟩
  rcases hm9 with ⟨h', _⟩ | ⟨g', cap', cur', h', _, _, _, h2, _, _⟩
  ·cases h'
  ·injection h' with q1 q2 q3
   rw [q3]; exact h2

set_option maxRecDepth 100000 in
set_option maxHeartbeats 8000000 in
theorem sizes_any (w : World) (v : Value) (n : Nat) (h : IntsV w v (List.replicate n 0)) (hn : 1 ≤ n ∧ n ≤ 62) :
 Calls Tryz.prog 440 #[v] w fun e w' => (∃ (g cap : Nat), e = .returned (.slice (some ⟨g, 0, none⟩) 1 cap)) ∧ Below w.heap.size w w' := by
 have H := Lib.hid h
 obtain ⟨A, cap, rfl, h, l1, l2⟩ := h.op
 clear h
 rw [List.length_replicate] at l1 ⊢
 have H2 : Hid (IntsV w (.slice A n cap) (List.replicate n 0)) := by have h9 := H.out; rw [List.length_replicate] at h9; exact h9
 clear H
 go_enter Tryz.func440, Tryz.ntmps440
 go_wp2_with fail
 refine (pvalid_any _ _ (List.replicate n 0) (H2.out.keep kp)).mono ?_
 rintro e w1 ⟨he, hb1⟩
 have y1 := hb1.size; (try simp only [zs] at y1)
 have he := he.eq (b := true) ⟨fun _ => canGo_zeros n 0 (by omega), fun _ => rfl⟩
 subst he
 go_wp2_with fail
 go_loopw [3, 11] (fun ov i wr => ∃ (c : Nat) (vo : Value), c ≤ n ∧ i = .int .i64 c ∧ ov = vo ∧ Hid ((c = 0 ∧ vo = .slice none 0 0) ∨ (0 < c ∧ ∃ (g cap : Nat) (z : Int), vo = .slice (some ⟨g, 0, none⟩) 1 cap ∧ w.heap.size ≤ g ∧ RowG wr g cap [z])) ∧ Below w.heap.size w wr) (fun _ i _ => n - (intOf i).toNat)
 case atStart => exact ⟨0, _, by omega, rfl, rfl, Lib.hid (.inl ⟨rfl, rfl⟩), bel⟩
 case round =>
  obtain ⟨c, vo, hc, rfl, hvo, hO, hB⟩ := hrel
  rw [hvo]
  clear hvo
  obtain ⟨wo, rfl⟩ : ∃ wo : World, wo = wr := ⟨_, rfl⟩
  have y5 := hB.size; (try simp only [zs] at y5)
  by_cases hlt : c < n
  ·have hz : (List.replicate n (0 : Int))[c]? = some 0 := by rw [List.getElem?_replicate, if_pos hlt]
   obtain ⟨a, rfl, hab, hcell, -, -⟩ := (H2.out.keep (.of_below hB)).at hz
   have k0 : (0 : Int) ≤ (c : Int) := by omega
   have k1 : (c : Int) < (n : Int) := by omega
   clear hz
   by_cases hc0 : c = 0
   ·obtain rfl : vo = .slice none 0 0 := by
     rcases hO.out with h | ⟨h, -⟩
     ·exact h.2
     ·omega
    subst hc0
    rw [add_zero'] at hcell
    have hownA : Own1 (wo.alloc (.cells #[.int .i64 0] 3)) w.heap.size 3 (.slice none 0 0) [] := Own1.nil _ _ _
    go_wp2_with (at_builtin; refine wpList_pushZ _ rfl _ _ rfl w.heap.size _ [] rfl hownA wo.heap.size (.int .i64 0) rfl (made1 wo #[.int .i64 0] 3) rfl (by simp) (by simp only [World.size_alloc]; omega) ?_)
    intro gA capA w8 hoa8 hg8 ho8 hl8
    have hR : Hid (RowG w8 gA capA [0] ∧ w.heap.size ≤ gA) := by
     have h9 := Own1.rowG (zs := [0]) (show Own1 w8 w.heap.size 3 (.slice (some ⟨gA, 0, none⟩) 1 capA) ([(0 : Int)].map (Value.int .i64)) from hoa8) (by simp)
     exact ⟨h9.2.2, h9.2.1⟩
    have HB8 : Hid (Below w.heap.size w w8) := below_own (hB.alloc y5 _) hownA hg8 (by omega) (by simp only [World.size_alloc]; omega)
    have g0 : w8.cell? ⟨gA, 0, none⟩ = some (.int .i64 0) := hR.out.1.cell rfl
    have gf : ∀ i, w8.frozen? ⟨gA, i, none⟩ = false := hR.out.1.frz
    have gl : gA < w8.heap.size := hR.out.1.lt
    have HEND : Hid (∀ W (z : Int), w8.setCell ⟨gA, 0, none⟩ (.int .i64 z) = W → RowG W gA capA [z] ∧ Below w.heap.size w W) := fun W z hW => by
     subst hW
     exact ⟨hR.out.1.set 0 z, HB8.out.setCell (by show w.heap.size ≤ gA; exact hR.out.2) _⟩
    have hgA := hR.out.2
    clear hownA hoa8 hg8 ho8
    go_wp2_with fail
    clear g0 gf gl
    go_wp2_with fail
    go_roundw
    case rel => exact ⟨1, _, by omega, by go_num, rfl, Lib.hid (.inr ⟨by omega, gA, capA, _, rfl, hgA, (HEND.out _ _ rfl).1⟩), (HEND.out _ _ rfl).2⟩
    case measure => simp only [intOf]; omega
   ·obtain ⟨g, cap', z, rfl, hg, hR⟩ : ∃ (g cap : Nat) (z : Int), vo = .slice (some ⟨g, 0, none⟩) 1 cap ∧ w.heap.size ≤ g ∧ Hid (RowG wo g cap [z]) := by
     rcases hO.out with h | ⟨-, g, cap, z, h1, h2, h3⟩
     ·exact absurd h.1 hc0
     ·exact ⟨g, cap, z, h1, h2, h3⟩
    have g0 : wo.cell? ⟨g, 0, none⟩ = some (.int .i64 z) := hR.out.cell rfl
    have gf : ∀ i, wo.frozen? ⟨g, i, none⟩ = false := hR.out.frz
    have gl : g < wo.heap.size := hR.out.lt
    have HEND : Hid (∀ W (z : Int), wo.setCell ⟨g, 0, none⟩ (.int .i64 z) = W → RowG W g cap' [z] ∧ Below w.heap.size w W) := fun W z hW => by
     subst hW
     exact ⟨hR.out.set 0 z, hB.setCell (by show w.heap.size ≤ g; exact hg) _⟩
    clear hO
    go_wp2_with fail
    clear g0 gf gl
    go_wp2_with fail
    go_roundw
    case rel => exact ⟨c + 1, _, by omega, by go_num, rfl, Lib.hid (.inr ⟨by omega, g, cap', _, rfl, hg, (HEND.out _ _ rfl).1⟩), (HEND.out _ _ rfl).2⟩
    case measure => simp only [intOf]; omega
  ·obtain rfl : c = n := by omega
   obtain ⟨g, cap', z, rfl, -⟩ : ∃ (g cap : Nat) (z : Int), vo = .slice (some ⟨g, 0, none⟩) 1 cap ∧ True := by
    rcases hO.out with h | ⟨-, g, cap, z, h1, h2, h3⟩
    ·omega
    ·exact ⟨g, cap, z, h1, trivial⟩
   go_wp2_with fail
   go_ret
   exact ⟨⟨g, cap', rfl⟩, hB⟩

set_option maxRecDepth 100000 in
set_option maxHeartbeats 4000000 in
theorem count_any (w : World) (v : Value) (n : Nat) (h : IntsV w v (List.replicate n 0)) (hn : 1 ≤ n ∧ n ≤ 62) :
 Calls Tryz.prog 369 #[v] w fun e w' => e = .returned (.int .i64 1) ∧ Below w.heap.size w w' := by
 have H := Lib.hid h
 obtain ⟨A, cap, rfl, h, l1, l2⟩ := h.op
 clear h
 rw [List.length_replicate] at l1 ⊢
 have H2 : Hid (IntsV w (.slice A n cap) (List.replicate n 0)) := by have h9 := H.out; rw [List.length_replicate] at h9; exact h9
 clear H
 go_enter Tryz.func369, Tryz.ntmps369
 go_wp2_with fail
 refine (sizes_any _ _ n (H2.out.keep kp) hn).mono ?_
 rintro e w1 ⟨⟨g, c, rfl⟩, hb1⟩
 have y1 := hb1.size; (try simp only [zs] at y1)
 go_wp2_with fail
 go_ret
 exact ⟨rfl, bel⟩

/- strategy.Worth without knowledge; adaptive.asked. -/

/-- The code of a gain function. -/
def GainC (ns : Int) (G : List (List Int)) (r : Int) : Prop := (GainOk ns G → r = 0) ∧ (¬ GainOk ns G → r = 1)

theorem RowI.one {w : World} {g : Nat} {z y : Int} (h : RowI w g [z]) : RowI (w.setCell ⟨g, 0, none⟩ (.int .i64 y)) g [y] := RowI.set h 0 y
theorem RowI.other {w : World} {g g' : Nat} {zs : List Int} (h : RowI w g zs) (hne : g ≠ g') (i : Nat) (u : Value) : RowI (w.setCell ⟨g', i, none⟩ u) g zs := Loc.far h (p := ⟨g', i, none⟩) hne u

set_option maxRecDepth 100000 in
set_option maxHeartbeats 16000000 in
theorem worth_any48 (w : World) (n : Nat) (vm vg vp : Value) (L G : List (List Int)) (h : IMat w vm L) (hm : MenuOk (n : Int) L) (hg : IMat w vg G) (hp : IntsV w vp (List.replicate n 0)) :
 Calls Tryz.prog 270 #[.agg #[.int .i64 (n : Int), vm], vg, vp] w fun e w' => (∃ z r : Int, e = .returned (.tuple #[.int .i64 z, .int .i64 r]) ∧ Hid (GainC n G r)) ∧ Below w.heap.size w w' := by
 have H := Lib.hid h
 have HG := Lib.hid hg
 have HP := Lib.hid hp
 have HMN := Lib.hid hm
 obtain ⟨A, cap0, rfl, h, l1, l2⟩ := h.op
 obtain ⟨B, cap1, rfl, hg, l3, l4⟩ := hg.op
 obtain ⟨C, cap2, rfl, hp, l5, l6⟩ := hp.op
 have hn62 : 1 ≤ n ∧ n ≤ 62 := by have := hm.1; omega
 clear h hg hp hm
 rw [List.length_replicate] at l5
 obtain ⟨m, hml⟩ : ∃ m, L.length = m := ⟨_, rfl⟩
 have H2 : Hid (IMat w (.slice A m cap0) L) := by have h9 := H.out; rw [hml] at h9; exact h9
 obtain ⟨k, hk⟩ : ∃ k, G.length = k := ⟨_, rfl⟩
 have HK := Lib.hid hk
 have HG2 : Hid (IMat w (.slice B k cap1) G) := by have h9 := HG.out; rw [hk] at h9; exact h9
 have HP2 : Hid (IntsV w (.slice C n cap2) (List.replicate n 0)) := by have h9 := HP.out; rw [List.length_replicate] at h9; exact h9
 rw [hml, hk, List.length_replicate]
 rw [hml] at l1
 rw [hk] at l3
 clear hml hk H HG HP
 have L1 := made1 w #[.int .i64 (n : Int), .slice A m cap0] 84
 go_enter Tryz.func270, Tryz.ntmps270
 go_wp2_with fail
 refine (checkmenu_any _ (n : Int) _ L (H2.out.keep kp)).mono ?_
 rintro e w1 ⟨⟨r, rfl, hr⟩, hb1⟩
 have y1 := hb1.size; (try simp only [zs] at y1)
 obtain rfl : r = 0 := hr.out.1 HMN.out
 clear hr
 obtain ⟨e1, f1, l1'⟩ := L1.all (w' := w1)
 go_wp2_with fail
 refine (earns_any _ (n : Int) _ _ G ⟨_, _, _, rfl⟩ (HG2.out.keep kp)).mono ?_
 rintro e w2 ⟨⟨b, rfl, hb⟩, hb2⟩
 have y2 := hb2.size; (try simp only [zs] at y2)
 clear e1 f1 l1'
 obtain ⟨e1, f1, l1'⟩ := L1.all (w' := w2)
 cases b
 ·have HV : Hid (GainC n G 1) := ⟨fun h => (by have := hb.out.2 h; cases this), fun _ => rfl⟩
  clear hb
  go_wp2_with fail
  go_ret2
  exact ⟨⟨_, _, rfl, HV⟩, bel⟩
 have HOK : Hid (GainOk (n : Int) G) := hb.out.1 rfl
 have HV : Hid (GainC n G 0) := ⟨fun _ => rfl, fun h => absurd HOK.out h⟩
 have hk64 : k ≤ 64 := by have := HOK.out.1; have := HK.out; omega
 clear hb
 go_wp2_with fail
 refine (pvalid_any _ _ (List.replicate n 0) (HP2.out.keep kp)).mono ?_
 rintro e w3 ⟨he, hb3⟩
 have y3 := hb3.size; (try simp only [zs] at y3)
 have he := he.eq (b := true) ⟨fun _ => canGo_zeros n 0 (by omega), fun _ => rfl⟩
 subst he
 clear e1 f1 l1'
 go_wp2_with fail
 refine (count_any _ _ n (HP2.out.keep kp) hn62).mono ?_
 rintro e w4 ⟨rfl, hb4⟩
 have y4 := hb4.size; (try simp only [zs] at y4)
 have HB4 : Hid (Below w.heap.size w w4) := by show Below _ _ _; exact bel
 have hw4 : w.heap.size ≤ w4.heap.size := HB4.out.size
 go_wp2_with (at_make; refine wpList_makeN _ rfl _ _ rfl Tryz.underlying27 info_int1 rfl w4.heap.size 1 rfl rfl rfl rfl (by omega) (by unfold maxLen; omega) (Nat.le_refl _) ?_)
 intro w5 hrow hg5
 have hb5 : Below w4.heap.size w4 w5 := below_none (Below.refl _ _) hg5 (Nat.le_refl _)
 have HB5 : Hid (Below w.heap.size w w5) := HB4.out.trans (hb5.mono hw4)
 have HR5 : Hid (RowI w5 w4.heap.size [0]) := rowI_zeros hrow
 clear hrow hg5 hb5 L1
 go_wp2_with fail
 go_loopw [46] (fun i wr => ∃ (c : Nat) (z : Int), c ≤ k ∧ i = .int .i64 c ∧ Hid (RowI wr w4.heap.size [z]) ∧ Below w.heap.size w wr) (fun i _ => k - (intOf i).toNat)
 case atStart => exact ⟨0, 0, by omega, rfl, HR5, HB5.out⟩
 case round =>
  clear HR5 HB5 HB4 hb1 hb2 hb3 hb4
  obtain ⟨c, z, hc, rfl, hR, hB⟩ := hrel
  obtain ⟨wo, rfl⟩ : ∃ wo : World, wo = wr := ⟨_, rfl⟩
  have y5 := hB.size; (try simp only [zs] at y5)
  have hwb : w4.heap.size < wo.heap.size := hR.out.lt
  by_cases hlt : c < k
  ·obtain ⟨r, he⟩ : ∃ l, G[c]? = some l := ⟨_, List.getElem?_eq_getElem (by rw [HK.out]; exact hlt)⟩
   obtain ⟨a, D, d, rfl, hab, hcell, hnum, l7, l8⟩ := HG2.out.at he
   have hrl : r.length = n := by have := (HOK.out.2 r (List.mem_of_getElem? he)).1; omega
   rw [hrl] at hcell l7 hnum
   have HRL := Lib.hid hrl
   have HNUM := Lib.hid hnum
   have hcell : wo.cell? (a.add c) = some (.slice D n d) := cell_keep (X := fun _ => False) hcell (by rw [add_block]; exact hab) id (.of_below hB)
   have k0 : (0 : Int) ≤ (c : Int) := by omega
   have k1 : (c : Int) < (k : Int) := by omega
   clear he hrl hnum
   go_wp2_with (at_make; refine wpList_makeN _ rfl _ _ rfl Tryz.underlying27 info_int1 rfl wo.heap.size 1 rfl rfl rfl rfl (by omega) (by unfold maxLen; omega) (Nat.le_refl _) ?_)
   intro w7 hrow hg7
   have hb7 : Below wo.heap.size wo w7 := below_none (Below.refl _ _) hg7 (Nat.le_refl _)
   have HB7 : Hid (Below w.heap.size w w7) := hB.trans (hb7.mono (by omega))
   have HS7 : Hid (RowI w7 wo.heap.size [0]) := rowI_zeros hrow
   have HR7 : Hid (RowI w7 w4.heap.size [z]) := RowI.below hR.out hb7
   clear hrow hg7 hb7 hcell
   go_wp2_with fail
   go_loopw [55] (fun i wr => ∃ (s : Nat) (y : Int), s ≤ n ∧ i = .int .i64 s ∧ Hid (RowI wr wo.heap.size [y]) ∧ Hid (RowI wr w4.heap.size [z]) ∧ Below w.heap.size w wr) (fun i _ => n - (intOf i).toNat)
   case atStart => exact ⟨0, 0, by omega, rfl, HS7, HR7, HB7.out⟩
   case round =>
    clear HS7 HR7 HB7 hR
    obtain ⟨s, y, hs, rfl, hS, hR, hB8⟩ := hrel
    obtain ⟨wp, rfl⟩ : ∃ wp : World, wp = wr := ⟨_, rfl⟩
    have y8 := hB8.size; (try simp only [zs] at y8)
    by_cases hlt2 : s < n
    ·have hz : (List.replicate n (0 : Int))[s]? = some 0 := by rw [List.getElem?_replicate, if_pos hlt2]
     obtain ⟨aC, rfl, -, hcC, -, -⟩ := (HP2.out.keep (.of_below hB8)).at hz
     obtain ⟨x, hx⟩ : ∃ x, r[s]? = some x := ⟨_, List.getElem?_eq_getElem (by rw [HRL.out]; exact hlt2)⟩
     obtain ⟨aD, rfl, -, hcD, -, -⟩ := (HNUM.out.keep (.of_below hB8)).at hx
     have k2 : (0 : Int) ≤ (s : Int) := by omega
     have k3 : (s : Int) < (n : Int) := by omega
     have HLS : Hid (wp.cell? ⟨wo.heap.size, 0, none⟩ = some (.int .i64 y) ∧ wp.cell? (aD.add s) = some (.int .i64 x)) := ⟨hS.out.cell rfl, hcD⟩
     have HG1 : Hid (∀ i, wp.frozen? ⟨wo.heap.size, i, none⟩ = false) := Loc.frz hS.out
     have HS1 : Hid (wo.heap.size < wp.heap.size) := hS.out.lt
     have HEND : Hid (∀ W (u : Int), wp.setCell ⟨wo.heap.size, 0, none⟩ (.int .i64 u) = W → RowI W wo.heap.size [u] ∧ RowI W w4.heap.size [z] ∧ Below w.heap.size w W) := fun W u hW => by
      subst hW
      exact ⟨hS.out.one, hR.out.other (by omega) _ _, hB8.setCell (by show w.heap.size ≤ wo.heap.size; omega) _⟩
     clear hz hx hcD
     go_wp2_with fail
     clear hcC
     refine wp_region_noPanic ?_
     refine wp_region_heldK (k := 10) (S := (fun W => W.cell? ⟨wo.heap.size, 0, none⟩ = some (.int .i64 y) ∧ W.cell? (aD.add s) = some (.int .i64 x))) (by kernel_rfl) ?_ (fun hHeld => ?_)
     ·exact HLS.out
     refine tkK 0 ?_
     (try simp only [Act.put, ly])
     refine tkK 1 ?_
     (try simp only [Act.put, ly])
     refine tkK 2 ?_
     (try simp only [Act.put, ly])
     refine tkK 3 ?_
     (try simp only [Act.put, ly])
     refine tkK 4 ?_
     (try simp only [Act.put, ly])
     refine tkK 5 ?_
     (try simp only [Act.put, ly])
     refine tkK 6 ?_
     (try simp only [Act.put, ly])
     refine tkK 7 ?_
     (try simp only [Act.put, ly])
     refine tkK 8 ?_
     (try simp only [Act.put, ly])
     refine tkK 9 ?_
     (try simp only [Act.put, ly])
     have g0 := HLS.out.1
     have gf := HG1.out
     have gl := HS1.out
     refine wpAnyK_ready (rs := [10]) (by kernel_rfl) (by simp) ?_
     refine AllReadyK.last (by kernel_rfl) rfl (fun KK hKK => ?_) AllReadyK.nil
     go_simp
     refine hKK.out _ _ ?_
     clear hKK KK
     (try simp only [Act.put, ly])
     refine wpAnyK_done (by kernel_rfl) ?_ _
     refine NoPanic.normal ?_
     clear g0 gf gl
     go_wp2_with fail
     go_roundw
     case rel => exact ⟨s + 1, _, by omega, by go_num, Lib.hid (HEND.out _ _ rfl).1, Lib.hid (HEND.out _ _ rfl).2.1, by first | exact (HEND.out _ _ rfl).2.2 | exact (HEND.out _ _ rfl).2.2.drew | exact (HEND.out _ _ rfl).2.2.drew.drew⟩
     case measure => simp only [intOf]; omega
    ·obtain rfl : s = n := by omega
     go_wp2_with fail
     go_loopw [73] (fun i wr => ∃ (q : Nat) (z' : Int), q ≤ 1 ∧ i = .int .i64 q ∧ Hid (RowI wr wo.heap.size [y]) ∧ Hid (RowI wr w4.heap.size [z']) ∧ Below w.heap.size w wr) (fun i _ => 1 - (intOf i).toNat)
     case atStart => exact ⟨0, z, by omega, rfl, hS, hR, hB8⟩
     case round =>
      clear hS hR
      obtain ⟨q, z', hq, rfl, hS, hR, hB9⟩ := hrel
      obtain ⟨wq, rfl⟩ : ∃ wq : World, wq = wr := ⟨_, rfl⟩
      have y9 := hB9.size; (try simp only [zs] at y9)
      by_cases hlt3 : q < 1
      ·obtain rfl : q = 0 := by omega
       have c0 : wq.cell? ⟨wo.heap.size, 0, none⟩ = some (.int .i64 y) := hS.out.cell rfl
       have c1 : wq.cell? ⟨w4.heap.size, 0, none⟩ = some (.int .i64 z') := hR.out.cell rfl
       have gf : ∀ i, wq.frozen? ⟨w4.heap.size, i, none⟩ = false := Loc.frz hR.out
       have gl : w4.heap.size < wq.heap.size := hR.out.lt
       have HEND : Hid (∀ W (u : Int), wq.setCell ⟨w4.heap.size, 0, none⟩ (.int .i64 u) = W → RowI W wo.heap.size [y] ∧ RowI W w4.heap.size [u] ∧ Below w.heap.size w W) := fun W u hW => by
        subst hW
        exact ⟨hS.out.other (by omega) _ _, hR.out.one, hB9.setCell (by show w.heap.size ≤ w4.heap.size; omega) _⟩
       go_wp2_with fail
       clear c0 c1 gf gl
       go_wp2_with fail
       go_roundw
       case rel => exact ⟨1, _, by omega, by go_num, Lib.hid (HEND.out _ _ rfl).1, Lib.hid (HEND.out _ _ rfl).2.1, (HEND.out _ _ rfl).2.2⟩
       case measure => simp only [intOf]; omega
      ·obtain rfl : q = 1 := by omega
       go_wp2_with fail
       go_roundw
       case rel => exact ⟨c + 1, z', by omega, by go_num, hR, hB9⟩
       case measure => simp only [intOf]; omega
  ·obtain rfl : c = k := by omega
   go_wp2_with fail
   go_loopw [17, 91] (fun tv i wr => ∃ (q : Nat) (t : Int), q ≤ 1 ∧ i = .int .i64 q ∧ tv = .int .i64 t ∧ Hid (RowI wr w4.heap.size [z]) ∧ Below w.heap.size w wr) (fun _ i _ => 1 - (intOf i).toNat)
   case atStart => exact ⟨0, 0, by omega, rfl, rfl, hR, hB⟩
   case round =>
    clear hR
    obtain ⟨q, t, hq, rfl, rfl, hR, hB9⟩ := hrel
    obtain ⟨wq, rfl⟩ : ∃ wq : World, wq = wr := ⟨_, rfl⟩
    have y9 := hB9.size; (try simp only [zs] at y9)
    by_cases hlt3 : q < 1
    ·obtain rfl : q = 0 := by omega
     have c1 : wq.cell? ⟨w4.heap.size, 0, none⟩ = some (.int .i64 z) := hR.out.cell rfl
     go_wp2_with fail
     go_roundw
     case rel => exact ⟨1, _, by omega, by go_num, rfl, hR, hB9⟩
     case measure => simp only [intOf]; omega
    ·obtain rfl : q = 1 := by omega
     go_wp2_with fail
     go_ret2
     exact ⟨⟨_, _, rfl, HV⟩, hB9⟩
end Go.Proofs.YtbdcjhoedhhabaaGreat

/- checker.holds, for any costs. -/
namespace Go.Proofs.YtbdcjhoedhhabaaGreat
open Go.RowKit
attribute [local go_sem ↓] Go.wp_at_zero Go.wp_at_succ

/-- An entry of a table. -/
def ent (L : List (List Int)) (j i : Nat) : Int := (((L[j]?).getD [])[i]?).getD 0
/-- The code of what holds or not. -/
def HoCode (P : Prop) (r : Int) : Prop := (P → r = 0) ∧ (¬ P → r = 13)
theorem HoCode.yes {P : Prop} (h : P) : HoCode P 0 := ⟨fun _ => rfl, fun h' => absurd h h'⟩
theorem HoCode.no {P : Prop} (h : ¬ P) : HoCode P 13 := ⟨fun h' => absurd h' h, fun _ => rfl⟩

theorem IMat.entry {w : World} {A : Option Addr} {m cap n : Nat} {L : List (List Int)} (h : IMat w (.slice A m cap) L) (hf : ∀ l ∈ L, (l.length : Int) = (n : Int) + 1) {j i : Nat} (hj : j < L.length) (hi : i ≤ n) :
 ∃ (a a' : Addr) (d : Nat), A = some a ∧ a.block < w.heap.size ∧ a'.block < w.heap.size ∧ w.cell? (a.add j) = some (.slice (some a') (n + 1) d) ∧ w.cell? (a'.add i) = some (.int .i64 (ent L j i)) ∧ n + 1 ≤ d ∧ d ≤ maxLen := by
 have hl : L[j]? = some L[j] := List.getElem?_eq_getElem hj
 have hn := hf L[j] (List.getElem_mem hj)
 obtain ⟨a, B, d, rfl, hab, hcell, hnum, l3, l4⟩ := h.at hl
 have hi2 : i < L[j].length := by omega
 obtain ⟨a', rfl, hab', hc', -, -⟩ := hnum.at (List.getElem?_eq_getElem hi2)
 have e1 : L[j].length = n + 1 := by omega
 have e2 : Go.Proofs.YtbdcjhoedhhabaaGreat.ent L j i = L[j][i] := by unfold Go.Proofs.YtbdcjhoedhhabaaGreat.ent; rw [hl, Option.getD_some, List.getElem?_eq_getElem hi2, Option.getD_some]
 rw [e1] at hcell l3
 refine ⟨a, a', d, rfl, hab, hab', hcell, ?_, l3, l4⟩
 rw [e2]; exact hc'

/- The costs of groups of running times: the checker's closure. -/

/-- A part of a list of running times. -/
theorem Tims.part {w : World} {a : Addr} {m cap : Nat} {l : List (Int × Int)} (h : Tims w (.slice (some a) m cap) l) {lo hi : Nat} (h1 : lo ≤ hi) (h2 : hi ≤ m) : Tims w (.slice (some (a.add (lo * 2))) (hi - lo) (cap - lo)) ((l.take hi).drop lo) := by
 obtain ⟨A', cap', hv, q1, q2, q3, q4⟩ := h
 injection hv with e1 e2 e3
 subst e1 e3
 have hlen : ((l.take hi).drop lo).length = hi - lo := by rw [List.length_drop, List.length_take]; omega
 refine ⟨_, _, by rw [hlen], by rw [hlen]; omega, by omega, fun hn => ?_, fun x hx => q4 x (List.mem_of_mem_take (List.mem_of_mem_drop hx))⟩
 obtain ⟨a', ha, hb, hc⟩ := q3 (by rw [hlen] at hn; omega)
 injection ha with ha
 subst ha
 refine ⟨_, rfl, by rw [add_block]; exact hb, fun i x hx => ?_⟩
 have hx2 : l[lo + i]? = some x := by
  rw [List.getElem?_drop, List.getElem?_take] at hx
  split at hx
  ·exact hx
  ·cases hx
 have h9 := hc (lo + i) x hx2
 have e : (a.add (lo * 2)).add (i * 2) = a.add ((lo + i) * 2) := by rw [addr_add_add, Nat.add_mul]
 rw [e]
 exact h9

/- The costs of groups of running times by sums from the start. -/

/-- The sum of the weights. -/
def wS : List (Int × Int) → Int
 | [] => 0
 | x :: l => x.2 + wS l
/-- The sum of the products of weights and times. -/
def pS : List (Int × Int) → Int
 | [] => 0
 | x :: l => x.2 * x.1 + pS l

/- bucket.group's closure. -/

/-- The blocks of bucket.group's closure: the list's box, the boxes of the two lists of sums, these lists. -/
structure GrpOk (w : World) (a : Addr) (m cap g1 g3 g4 gw gp : Nat) (l : List (Int × Int)) : Prop where
 c1 : w.cell? ⟨g1, 0, none⟩ = some (.slice (some a) m cap)
 c3 : w.cell? ⟨g3, 0, none⟩ = some (.slice (some ⟨gw, 0, none⟩) (m + 1) (m + 1))
 c4 : w.cell? ⟨g4, 0, none⟩ = some (.slice (some ⟨gp, 0, none⟩) (m + 1) (m + 1))
 cw : ∀ j, j ≤ m → w.cell? ⟨gw, j, none⟩ = some (.int .i64 (wS (l.take j)))
 cp : ∀ j, j ≤ m → w.cell? ⟨gp, j, none⟩ = some (.int .i64 (pS (l.take j)))
 b1 : g1 < w.heap.size
 b3 : g3 < w.heap.size
 b4 : g4 < w.heap.size
 bw : gw < w.heap.size
 bp : gp < w.heap.size

theorem GrpOk.keep {w w' : World} {a : Addr} {m cap g1 g3 g4 gw gp : Nat} {l : List (Int × Int)} (h : GrpOk w a m cap g1 g3 g4 gw gp l) (hk : Keep (fun _ => False) w w') : GrpOk w' a m cap g1 g3 g4 gw gp l :=
 ⟨cell_keep h.c1 h.b1 id hk, cell_keep h.c3 h.b3 id hk, cell_keep h.c4 h.b4 id hk, fun j hj => cell_keep (h.cw j hj) h.bw id hk, fun j hj => cell_keep (h.cp j hj) h.bp id hk, Nat.lt_of_lt_of_le h.b1 hk.size, Nat.lt_of_lt_of_le h.b3 hk.size, Nat.lt_of_lt_of_le h.b4 hk.size, Nat.lt_of_lt_of_le h.bw hk.size, Nat.lt_of_lt_of_le h.bp hk.size⟩

/- make of a list of integers in a drawn region; rows that are filled from the left. -/

set_option maxRecDepth 100000 in
theorem step_makeI {ops : Array Oper} {o : Oper} {a : Act} {K : Act → World → Prop} {Q : Exit → Act → World → Prop} {E : Prop} (w : World) (hgd : o.guard = none) (l c : Operand) (ho : o.op = Op.makeSlice 27 l c) (n : Nat) (hl : a.eval l = .int .i64 (n : Int)) (hc : a.eval c = .int .i64 (n : Int)) (hn : n ≤ 1000000)
 (h : K (a.put o.dst (.slice (some ⟨w.heap.size, 0, none⟩) n n)) (w.alloc (.cells (madeCells #[.int .i64 0] n) 3))) :
 if Region.wanted o (yielded ops a.tmps) = true then Oper.wp Tryz.prog o a w K Q else E := by
 have hw : Region.wanted o (yielded ops a.tmps) = true := by simp [Region.wanted, hgd]
 rw [if_pos hw]
 unfold Oper.wp execOp
 have hrun := run_make_row' (P := Tryz.prog) 27 3 (.int .i64 0) 8 Tryz.underlying27 info_int1 rfl .i64 .i64 n (by omega) (by omega) w
 simp only [ho, hl, hc, Sem.run_bind, hrun, Result.andThen_ok, Sem.run_pure]
 exact h

theorem made_zeros (n : Nat) : madeCells #[Value.int .i64 0] n = ((List.replicate n (0 : Int)).map (Value.int .i64)).toArray := by
 rw [List.map_replicate, ← toList_madeCells_one]

theorem rowI_made {w : World} {g n : Nat} (h : Loc w g 3 (madeCells #[.int .i64 0] n)) : RowI w g (List.replicate n 0) := by
 unfold RowI
 rw [← made_zeros]
 exact h

end Go.Proofs.YtbdcjhoedhhabaaGreat

