/- Contracts of the functions that the statements reach, part 47. -/
import Derived.Test.YtdambnieminnfaaGreatRows
import Derived.Test.YtdambnieminnfaaGreatX44
import Derived.Test.YtdambnieminnfaaGreatX46
set_option linter.unusedSimpArgs false
set_option linter.unusedVariables false

/- RefinementDeterministic: the channel that a list of bytes makes. -/
namespace Go.Proofs.YtdambnieminnfaaGreat
open Go.RowKit
attribute [local go_sem ↓] Go.wp_at_zero Go.wp_at_succ

/-- The column of a byte. -/
def am (l : List Int) (x : Nat) : Nat := (l.getD x 0 % 5).toNat
theorem am_lt (l : List Int) (x : Nat) : am l x < 5 := by unfold am; omega
theorem am_get {l : List Int} {x : Nat} {z : Int} (h : l[x]? = some z) : ((am l x : Nat) : Int) = z % 5 := by
 unfold am
 rw [List.getD_eq_getElem?_getD, h]
 simp only [Option.getD_some]
 omega

set_option maxRecDepth 100000 in
set_option maxHeartbeats 16000000 in
theorem make5_any (w : World) (v0 : Value) (l : List Int) (n gn : Nat) (t : Int) (h : U8V w v0 l) (hn : n ≤ l.length) (hn5 : n ≤ 5) (hg : gn < w.heap.size) (hc : w.cell? ⟨gn, 0, none⟩ = some (.int .i64 n)) (ht : 1 ≤ t ∧ t ≤ 256) :
 Calls Tryz.prog 30 #[v0, .int .i64 t, .pointer (some ⟨gn, 0, none⟩)] w fun e w' => ∃ v', e = .returned (.agg #[v']) ∧ Hid (IMatO w' v' (det n (am l) t)) ∧ Below w.heap.size w w' := by
 have H := Lib.hid h
 obtain ⟨A, cA, rfl, -, la1, la2⟩ := h.op
 obtain ⟨m, hm⟩ : ∃ r, l.length = r := ⟨_, rfl⟩
 have HM := Lib.hid hm
 rw [hm] at H la1 hn
 rw [hm]
 obtain ⟨w4, hw4⟩ : ∃ W, (w.alloc (.cells #[.slice none 0 0] 24)).alloc (.cells #[.slice none 0 0] 24) = W := ⟨_, rfl⟩
 have B3 : Loc w4 w.heap.size 24 #[.slice none 0 0] := by rw [← hw4]; exact (made1 w #[.slice none 0 0] 24).to
 have B4 : Loc w4 (w.heap.size + 1) 24 #[.slice none 0 0] := by rw [← hw4]; exact made2 w (.cells #[.slice none 0 0] 24) #[.slice none 0 0] 24
 have HB4 : Hid (Below w.heap.size w w4) := by show Below _ _ _; rw [← hw4]; exact bel
 have hs4 : w4.heap.size = w.heap.size + 2 := by rw [← hw4]; simp only [World.size_alloc]
 have hc4 : w4.cell? ⟨gn, 0, none⟩ = some (.int .i64 n) := cell_keep (X := fun _ => False) hc hg id (.of_below HB4.out)
 clear h hm hc
 go_enter Tryz.func30, Tryz.ntmps30
 go_wp2_with fail
 clear hc4
 go_loopw [10] (fun i wr => ∃ (x : Nat) (v : Value) (us : List Value), x ≤ n ∧ i = .int .i64 x ∧ us.length = x ∧ Loc wr (w.heap.size + 1) 24 #[v] ∧ Own1 wr w4.heap.size 38 v us ∧ Hid (∀ i u, us[i]? = some u → IntsO wr u (oneAt (am l i) t)) ∧ Hid (Loc wr w.heap.size 24 #[.slice none 0 0]) ∧ Below w.heap.size w wr ∧ w4.heap.size ≤ wr.heap.size) (fun i _ => n - (intOf i).toNat)
 case atStart => exact ⟨0, _, [], by omega, rfl, rfl, B4, Own1.nil _ _ _, Lib.hid (fun i u hu => by simp at hu), Lib.hid B3, HB4.out, Nat.le_refl _⟩
 case round =>
  clear B3 B4
  obtain ⟨x, v, us, hx, rfl, hul, hbox, hown, hrows, hL, hBx, yx⟩ := hrel
  obtain ⟨wx, rfl⟩ : ∃ wx : World, wx = wr := ⟨_, rfl⟩
  have HUL := Lib.hid hul
  have HBX := Lib.hid hBx
  have HOWN := Lib.hid hown
  have HBOX := Lib.hid hbox
  obtain ⟨Av, mv, cv, rfl⟩ : ∃ A m c, v = .slice A m c := by
   rcases HOWN.out.2 with ⟨rfl, -⟩ | ⟨g, cap, cur, rfl, -⟩
   ·exact ⟨_, _, _, rfl⟩
   ·exact ⟨_, _, _, rfl⟩
  clear hul hBx hown hbox
  by_cases hlt : x < n
  ·obtain ⟨z, hz⟩ : ∃ z, l[x]? = some z := ⟨_, List.getElem?_eq_getElem (by have := HM.out; omega)⟩
   obtain ⟨a, rfl, hab, hcz, hz0, hz1⟩ := H.out.at hz
   have HAM : Hid ((z % 5).toNat = am l x) := by
    have := am_get hz
    show _ = _
    omega
   have hz5 : (z % 5).toNat < 5 := by omega
   have g0 : wx.cell? (a.add x) = some (.int .u8 z) := cell_keep (X := fun _ => False) hcz (by rw [addr_block]; exact hab) id (.of_below HBX.out)
   have k0 : (0 : Int) ≤ (x : Int) := by omega
   have k1 : (x : Int) < (m : Int) := by omega
   have k2 : (x : Int) < (n : Int) := by omega
   clear hz hcz
   go_wp2_with (at_make; refine wpList_makeN _ rfl _ _ rfl Tryz.underlying38 info_int1 rfl wx.heap.size 5 rfl rfl rfl rfl (by omega) (by unfold maxLen; omega) (Nat.le_refl _) ?_)
   intro w7 hrow hg7
   have hB7 : Below wx.heap.size wx w7 := below_none (Below.refl _ _) hg7 (Nat.le_refl _)
   have hR7 : RowI w7 wx.heap.size (List.replicate 5 0) := rowI_zeros hrow
   have hl7 := hR7.lt
   have g1 : w7.cell? (a.add x) = some (.int .u8 z) := cell_keep (X := fun _ => False) g0 (by rw [addr_block]; have := HBX.out.size; omega) id (.of_below hB7)
   have yx2 := HBX.out.size
   have HB8 : Hid (Below wx.heap.size wx (w7.setCell ⟨wx.heap.size, (z % 5).toNat, none⟩ (.int .i64 t))) := hB7.setCell (Nat.le_refl _) _
   have HR8 : Hid (RowI (w7.setCell ⟨wx.heap.size, (z % 5).toNat, none⟩ (.int .i64 t)) wx.heap.size (oneAt (am l x) t)) := by
    show RowI _ _ _
    rw [← HAM.out]
    exact hR7.set (z % 5).toNat t
   have f7 := Loc.frz hR7
   have g7 : w7.cell? ⟨wx.heap.size, (z % 5).toNat, none⟩ = some (.int .i64 0) := hR7.cell (by rw [List.getElem?_replicate, if_pos hz5])
   have HBX8 : Hid (Loc (w7.setCell ⟨wx.heap.size, (z % 5).toNat, none⟩ (.int .i64 t)) (w.heap.size + 1) 24 #[.slice Av mv cv]) := (Loc.below HBOX.out hB7).far (by dsimp only; omega) _
   have HL8 : Hid (Loc (w7.setCell ⟨wx.heap.size, (z % 5).toNat, none⟩ (.int .i64 t)) w.heap.size 24 #[.slice none 0 0]) := (Loc.below hL.out hB7).far (by dsimp only; omega) _
   obtain ⟨e8, f8, l8⟩ := HBX8.out.all (w' := w7.setCell ⟨wx.heap.size, (z % 5).toNat, none⟩ (.int .i64 t))
   obtain ⟨w8, hw8⟩ : ∃ W, w7.setCell ⟨wx.heap.size, (z % 5).toNat, none⟩ (.int .i64 t) = W := ⟨_, rfl⟩
   have hs8 : wx.heap.size < w8.heap.size := by rw [← hw8, World.size_setCell]; exact hl7
   clear g0 hrow hg7 hB7 hR7
   rw [hw8] at HB8 HR8 HBX8 HL8 e8 f8 l8
   have hownA : Own1 (w8.alloc (.cells #[.slice (some ⟨wx.heap.size, 0, none⟩) 5 5] 38)) w4.heap.size 38 (.slice Av mv cv) us := (Own1.below HOWN.out HB8.out).below (below1 _ _)
   have hul200 : us.length ≤ 200 := by rw [HUL.out]; omega
   go_wp2_with (at_builtin; refine wpList_pushI _ rfl _ _ rfl w4.heap.size _ us rfl hownA w8.heap.size (.slice (some ⟨wx.heap.size, 0, none⟩) 5 5) rfl (made1 w8 #[.slice (some ⟨wx.heap.size, 0, none⟩) 5 5] 38) rfl (by omega) (by simp only [World.size_alloc]; omega) ?_)
   intro gA capA w9 hoa9 hg9 ho9 hl9
   (try simp only [World.size_alloc] at ho9)
   have y9 := hg9.size
   (try simp only [World.size_alloc] at y9)
   have hb9 : Below w4.heap.size w8 w9 := below_own ((Below.refl w4.heap.size w8).alloc (by omega) _) hownA hg9 (Nat.le_refl _) (by simp only [World.size_alloc]; omega)
   have hbx9 : Loc w9 (w.heap.size + 1) 24 #[.slice Av mv cv] := loc_other hownA hg9 (Loc.below HBX8.out (below1 _ _)) (by decide)
   have HL9 : Hid (Loc w9 w.heap.size 24 #[.slice none 0 0]) := loc_other hownA hg9 (Loc.below HL8.out (below1 _ _)) (by decide)
   have HROWS : Hid (∀ i u, (us ++ [.slice (some ⟨wx.heap.size, 0, none⟩) 5 5])[i]? = some u → IntsO w9 u (oneAt (am l i) t)) := fun i u hu => by
    by_cases hi : i < us.length
    ·rw [List.getElem?_append_left hi] at hu
     exact (((hrows.out i u hu).below HB8.out).below (below1 _ _)).other hownA hg9
    ·have hlt2 := (List.getElem?_eq_some_iff.1 hu).1
     simp at hlt2
     obtain rfl : i = us.length := by omega
     simp at hu
     subst hu
     have hI : IntsO w8 (.slice (some ⟨wx.heap.size, 0, none⟩) 5 5) (oneAt (am l x) t) := ⟨_, by rw [oneAt_len], HR8.out, fun y hy => by rcases oneAt_mem hy with h | h <;> omega⟩
     rw [HUL.out]
     exact (hI.below (below1 _ _)).other hownA hg9
   have HB9 := Lib.hid hb9
   clear hownA hg9 e8 f8 l8 hb9
   obtain ⟨e4, f4, l4⟩ := Loc.all hbx9 (w' := w9)
   go_wp2_with fail
   go_roundw
   case rel =>
    refine ⟨x + 1, .slice (some ⟨gA, 0, none⟩) (us.length + 1) capA, us ++ [.slice (some ⟨wx.heap.size, 0, none⟩) 5 5], by omega, by go_num, by simp [HUL.out], Loc.set hbx9 0 _, (by rw [hs4]; exact Own1.far hoa9 (by omega) _ _), Lib.hid (fun i u hu => (HROWS.out i u hu).far hbx9 (by decide) _ _), Lib.hid (HL9.out.far (by dsimp only; omega) _), ?_, ?_⟩
    ·exact ((HBX.out.trans (HB8.out.mono (by omega))).trans (HB9.out.mono (by omega))).setCell (by dsimp only; omega) _
    ·simp only [World.size_setCell]; omega
   case measure => simp only [intOf]; omega
  ·obtain rfl : x = n := by omega
   obtain ⟨e3, f3, -⟩ := Loc.all hL.out (w' := wx)
   obtain ⟨e4, f4, -⟩ := Loc.all HBOX.out (w' := wx)
   have HIM : Hid (IMatO (wx.setCell ⟨w.heap.size, 0, none⟩ (.slice Av mv cv)) (.slice Av mv cv) (det x (am l) t)) := ⟨_, us, (Own1.far HOWN.out (by omega) _ _), (by rw [HUL.out, det_len]), (by rw [det_len]; unfold maxLen; omega), (fun i u l' hu hl => by
    have hi := (List.getElem?_eq_some_iff.1 hu).1
    rw [det_get (by rw [← HUL.out]; exact hi)] at hl
    injection hl with hl
    subst hl
    exact ⟨(hrows.out i u hu).far hL.out (by decide) _ _, by rw [oneAt_len]; unfold maxLen; omega⟩)⟩
   go_wp2_with fail
   have g3 : (wx.setCell ⟨w.heap.size, 0, none⟩ (.slice Av mv cv)).cell? ⟨w.heap.size, 0, none⟩ = some (.slice Av mv cv) := Loc.cell (Loc.set hL.out 0 _) 0
   refine bodyPost_ret (by simp [results, Tryz.results30, go_sem, g3] <;> rfl) rfl ⟨_, rfl, HIM, HBX.out.setCell (by dsimp only; omega) _⟩
end Go.Proofs.YtdambnieminnfaaGreat

