/- Contracts of the functions that the statements reach, part 25. -/
import Derived.Test.YtbdcjhoedhhabaaGreatRows
import Derived.Deep.RegionHeld3
import Derived.Deep.DrawnRows
import Derived.Laws.OwnMore
import Derived.Lib.Strings
import Derived.Lib.Slices
import Derived.Laws.Strings3
import Derived.Deep.LoopGhost
import Derived.Laws.IdiomStrings
import Derived.Test.YtbdcjhoedhhabaaGreatA3
import Derived.Test.YtbdcjhoedhhabaaGreatA20
import Derived.Test.YtbdcjhoedhhabaaGreatA21
import Derived.Test.YtbdcjhoedhhabaaGreatA22
import Derived.Test.YtbdcjhoedhhabaaGreatA23
import Derived.Test.YtbdcjhoedhhabaaGreatA24
set_option linter.unusedSimpArgs false
set_option linter.unusedVariables false

/- Add and Sub of package integer. -/
namespace Go.Proofs.YtbdcjhoedhhabaaGreat
open Go.RowKit
attribute [local go_sem ↓] Go.wp_at_zero Go.wp_at_succ
attribute [local go_sem] beq_self_eq_true

theorem undrew {B : Nat} {w w2 : World} (h : Below B w.drew w2) : Below B w w2 := ⟨h.os, h.tape, h.output, h.size, h.block⟩
theorem undrewN {B n : Nat} {w w2 : World} (h : Below B (w.drewN n) w2) : Below B w w2 := ⟨h.os, h.tape, h.output, h.size, h.block⟩

theorem sv_add_same (n : Bool) (xs ys zs : List Nat) (h : val zs = val xs + val ys) : sv n zs = sv n xs + sv n ys := by
 unfold sv; split <;> omega
theorem sv_sub1 (n m : Bool) (hn : (n == m) = false) (xs ys zs : List Nat) (hl : val ys ≤ val xs) (h : val zs = val xs - val ys) : sv n zs = sv n xs + sv m ys := by
 cases n <;> cases m <;> simp at hn <;> simp only [sv_false, sv_true] <;> omega
theorem sv_sub2 (n m : Bool) (hn : (n == m) = false) (xs ys zs : List Nat) (hl : val xs ≤ val ys) (h : val zs = val ys - val xs) : sv m zs = sv n xs + sv m ys := by
 cases n <;> cases m <;> simp at hn <;> simp only [sv_false, sv_true] <;> omega
theorem trim_len_le {xs ys : List Nat} (hx : Ws xs) (hy : Ws ys) (h : val ys ≤ val xs) : (trimL ys).length ≤ (trimL xs).length := by
 rw [trimL_dig hx, trimL_dig hy]; exact dig_len_mono h

theorem cmpN_ge {a b : Nat} (h : ¬ a < b) : 0 ≤ cmpN a b := by
 unfold cmpN; rw [if_neg h]; split <;> omega
theorem cells_of {W : World} {g h : Nat} {t t' : TypeId} {a b c d : Value} (K : Loc W g t #[a, b] ∧ Loc W h t' #[c, d]) :
 (W.cell? ⟨g, 0, none⟩ = some a ∧ W.cell? ⟨g, 1, none⟩ = some b) ∧ W.cell? ⟨h, 0, none⟩ = some c ∧ W.cell? ⟨h, 1, none⟩ = some d :=
 ⟨⟨K.1.cell 0, K.1.cell 1⟩, K.2.cell 0, K.2.cell 1⟩

set_option maxHeartbeats 2000000 in
theorem add_any (w : World) (X : Nat → Prop) (v1 v2 : Value) (n1 n2 : Bool) (xs ys : List Nat) (h1 : IntR w X v1 n1 xs) (h2 : IntR w X v2 n2 ys) (hs1 : xs.length ≤ 1000000000000) (hs2 : ys.length ≤ 1000000000000) :
 Calls Tryz.prog 386 #[v1, v2] w fun e w' => ∃ v', e = .returned v' ∧ IntV w' (Old w) v' (sv n1 xs + sv n2 ys) ∧ Below w.heap.size w w' := by
 obtain ⟨A, c, rfl, _, _, H1⟩ := h1.open_
 obtain ⟨B, d, rfl, _, _, H2⟩ := h2.open_
 have l1 := trimL_len xs
 have l2 := trimL_len ys
 have HL1 := Lib.hid (fun h : val (trimL ys) ≤ val (trimL xs) => trim_len_le H1.2 H2.2 (by rwa [val_trimL, val_trimL] at h))
 have HL2 := Lib.hid (fun h : val (trimL xs) ≤ val (trimL ys) => trim_len_le H2.2 H1.2 (by rwa [val_trimL, val_trimL] at h))
 have hv1 := val_trimL xs
 have hv2 := val_trimL ys
 have HV1 := Lib.hid hv1
 have HV2 := Lib.hid hv2
 have HC1 := Lib.hid (can_trimL H1.2)
 have HC2 := Lib.hid (can_trimL H2.2)
 clear hv1 hv2
 rw [← sv_trim n1 xs, ← sv_trim n2 ys]
 generalize hz : sv n1 (trimL xs) + sv n2 (trimL ys) = z
 have HZ := Lib.hid hz
 clear hz
 go_enter Tryz.func386, Tryz.ntmps386
 go_wp2_with fail
 have KS := boxes3 w #[.bool n1, .slice A xs.length c] #[.bool n2, .slice B ys.length d] #[.bool false, .slice none 0 0] 211 211 211
 have K1 := (H1.weak (Y := fun _ => False) (fun _ _ h => h.elim)).below (below3 w (.cells #[.bool n1, .slice A xs.length c] 211) (.cells #[.bool n2, .slice B ys.length d] 211) (.cells #[.bool false, .slice none 0 0] 211))
 have K2 := (H2.weak (Y := fun _ => False) (fun _ _ h => h.elim)).below (below3 w (.cells #[.bool n1, .slice A xs.length c] 211) (.cells #[.bool n2, .slice B ys.length d] 211) (.cells #[.bool false, .slice none 0 0] 211))
 obtain ⟨-, -, Lr, hB0, hsz0⟩ := locs3 (c1 := #[.bool n1, .slice A xs.length c]) (c2 := #[.bool n2, .slice B ys.length d]) (c3 := #[.bool false, .slice none 0 0]) (t1 := 211) (t2 := 211) (t3 := 211) (Below.refl _ (((w.alloc _).alloc _).alloc _))
 generalize (((w.alloc (.cells #[.bool n1, .slice A xs.length c] 211)).alloc (.cells #[.bool n2, .slice B ys.length d] 211)).alloc (.cells #[.bool false, .slice none 0 0] 211)) = w0 at *
 clear H1 H2 h1 h2
 go_region_held3 (fun w' => w'.cell? ⟨w.heap.size, 0, none⟩ = some (.bool n1) ∧ w'.cell? ⟨w.heap.size, 1, none⟩ = some (.slice A xs.length c) ∧ w'.cell? ⟨w.heap.size + 1, 0, none⟩ = some (.bool n2) ∧ w'.cell? ⟨w.heap.size + 1, 1, none⟩ = some (.slice B ys.length d))
  (first | exact (fun K => ⟨K.1.cell 0, K.1.cell 1, K.2.cell 0, K.2.cell 1⟩) (KS.out _ (Below.refl _ _).drew))
  (first
   | (go_at_call_of 426 (Value.slice A xs.length c); refine (trim_any _ (fun _ => False) (.slice A xs.length c) xs (K1.below (Below.refl _ _).drew)).mono ?_; rintro e w' ⟨va, rfl, ha, rfl⟩)
   | (go_at_call_of 426 (Value.slice B ys.length d); refine (trim_any _ (fun _ => False) (.slice B ys.length d) ys (K2.below (Below.refl _ _).drew)).mono ?_; rintro e w' ⟨vb, rfl, hb, rfl⟩))
 all_goals
  have KS1 : Hid (∀ W, Below (w.heap.size + 1 + 1) w0.drew W → Loc W w.heap.size 211 #[.bool n1, .slice A xs.length c] ∧ Loc W (w.heap.size + 1) 211 #[.bool n2, .slice B ys.length d]) := fun W hW => KS.out W (undrew hW)
  have hB1 : Below w.heap.size w w0.drew := hB0.drew
  have Lr1 : Loc w0.drew (w.heap.size + 1 + 1) 211 #[.bool false, .slice none 0 0] := Lr
  have hsz1 : w.heap.size + 3 ≤ w0.drew.heap.size := hsz0
  clear KS K1 K2 hB0 Lr hsz0
  generalize w0.drew = w1 at *
  clear w0
  have k2 := KS1.out w1 (Below.refl _ _)
  have ca := k2.1.cell
  have cb := k2.2.cell
  clear k2
  clear HV1 HV2
  generalize trimL xs = es at *
  generalize trimL ys = fs at *
  by_cases hn : n1 = n2
  ·subst hn
   go_wp2_with fail
   go_region_held3 (fun w' => (w'.cell? ⟨w.heap.size, 0, none⟩ = some (.bool n1) ∧ w'.cell? ⟨w.heap.size, 1, none⟩ = some (.slice A xs.length c)) ∧ w'.cell? ⟨w.heap.size + 1, 0, none⟩ = some (.bool n1) ∧ w'.cell? ⟨w.heap.size + 1, 1, none⟩ = some (.slice B ys.length d))
    (first | exact cells_of (KS1.out _ (((k2.mono (by omega)).setCell (by simp) _).setCell (by simp) _)) | exact cells_of (KS1.out _ (k2.mono (by omega))) | exact cells_of (KS1.out _ (k1.mono (by omega))) | exact cells_of (KS1.out _ (Below.refl _ _).drew) | go_keep)
    (first
     | (go_at_call 450; refine (plus_any _ (fun _ => False) va vb es fs (ha.below (Below.refl _ _).drew) (hb.below (Below.refl _ _).drew) (by omega) (by omega)).mono ?_; rintro e w2 ⟨v', zs, rfl, hp, hv, hl, hb2⟩; have HV := Lib.hid hv; have HL := Lib.hid hl; clear hv hl; have k1 := below_undrew hb2)
     | (go_at_call 427; refine (signed_any _ (fun _ => False) _ v' zs (hp.weak (fun _ _ h => h.elim)) (by have := HL.out; omega)).mono ?_; rintro e w3 ⟨vs, rfl, hs, hb3⟩; have k2 := k1.trans (hb3.mono k1.size); have hk1 := k1.size; rw [sv_add_same _ es fs zs HV.out, HZ.out] at hs; obtain ⟨bs, As, ns, cs, rfl, Hs⟩ := hs.op; have Lr2 := Lr1.below k2; have cc := Lr2.cell; have cf := Lr2.frz))
   all_goals
    clear HL1 HL2 HC1 HC2 KS1 ca cb Lr1
    go_wp2_with fail
    refine bodyPost_ret (by simp [results, Tryz.results386, go_sem, cc, cf] <;> rfl) rfl ⟨_, rfl, IntV.stored (g := w.heap.size + 1 + 1) (Y := Old w) hs (by simp only [Old]; omega) _ _ (by intro b _ hb; simp only [Old] at hb ⊢; omega), below_set2 (hB1.trans (k2.mono (by omega))) (by omega) _ _⟩
  ·have hn' : (n1 == n2) = false := by simpa using hn
   clear hn
   by_cases hlt : val es < val fs
   ·have hcmp := cmpN_lt hlt
    have hlen := HL2.out (by omega)
    have HCM := Lib.hid hcmp
    have HLEN := Lib.hid hlen
    have HLT := Lib.hid hlt
    clear hcmp hlen HL1 HL2 hlt
    go_wp2_with fail
    refine (compare_any _ (fun _ => False) va vb es fs ha hb HC1.out HC2.out).mono ?_
    rintro e w' ⟨he, n, rfl⟩
    rw [HCM.out] at he
    subst he
    go_wp2_with fail
    go_region_held3 (fun w' => (w'.cell? ⟨w.heap.size, 0, none⟩ = some (.bool n1) ∧ w'.cell? ⟨w.heap.size, 1, none⟩ = some (.slice A xs.length c)) ∧ w'.cell? ⟨w.heap.size + 1, 0, none⟩ = some (.bool n2) ∧ w'.cell? ⟨w.heap.size + 1, 1, none⟩ = some (.slice B ys.length d))
     (first | exact cells_of (KS1.out _ (((k2.mono (by omega)).setCell (by simp) _).setCell (by simp) _)) | exact cells_of (KS1.out _ (k2.mono (by omega))) | exact cells_of (KS1.out _ (k1.mono (by omega))) | exact cells_of (KS1.out _ (below_drewN (Below.refl _ _) n).drew) | go_keep)
     (first
      | (go_at_call 451; refine (minus_any _ (fun _ => False) vb va fs es (hb.below (below_drewN (Below.refl _ _) n).drew) (ha.below (below_drewN (Below.refl _ _) n).drew) (by omega) (by have := HLT.out; omega) HLEN.out).mono ?_; rintro e w2 ⟨v', zs, rfl, hp, hv, hl, hb2⟩; have HV := Lib.hid hv; have HL := Lib.hid hl; clear hv hl; have k1 : Below w1.heap.size w1 w2 := undrewN (undrew hb2))
      | (go_at_call 427; refine (signed_any _ (fun _ => False) _ v' zs (hp.weak (fun _ _ h => h.elim)) (by have := HL.out; omega)).mono ?_; rintro e w3 ⟨vs, rfl, hs, hb3⟩; have k2 := k1.trans (hb3.mono k1.size); have hk1 := k1.size; rw [sv_sub2 n1 n2 hn' es fs zs (Nat.le_of_lt HLT.out) HV.out, HZ.out] at hs; obtain ⟨bs, As, ns, cs, rfl, Hs⟩ := hs.op; have Lr2 := Lr1.below k2; have cc := Lr2.cell; have cf := Lr2.frz))
    all_goals
     clear HC1 HC2 KS1 ca cb Lr1
     go_wp2_with fail
     refine bodyPost_ret (by simp [results, Tryz.results386, go_sem, cc, cf] <;> rfl) rfl ⟨_, rfl, IntV.stored (g := w.heap.size + 1 + 1) (Y := Old w) hs (by simp only [Old]; omega) _ _ (by intro b _ hb; simp only [Old] at hb ⊢; omega), below_set2 (hB1.trans (k2.mono (by omega))) (by omega) _ _⟩
   ·obtain ⟨cm, hcc, hcm0⟩ : ∃ cm, cmpN (val es) (val fs) = cm ∧ 0 ≤ cm := ⟨_, rfl, cmpN_ge hlt⟩
    have hlen := HL1.out (by omega)
    have HCM := Lib.hid hcc
    have HLEN := Lib.hid hlen
    have HLT := Lib.hid hlt
    clear hcc hlen HL1 HL2 hlt
    go_wp2_with fail
    refine (compare_any _ (fun _ => False) va vb es fs ha hb HC1.out HC2.out).mono ?_
    rintro e w' ⟨he, n, rfl⟩
    rw [HCM.out] at he
    subst he
    go_wp2_with fail
    go_region_held3 (fun w' => (w'.cell? ⟨w.heap.size, 0, none⟩ = some (.bool n1) ∧ w'.cell? ⟨w.heap.size, 1, none⟩ = some (.slice A xs.length c)) ∧ w'.cell? ⟨w.heap.size + 1, 0, none⟩ = some (.bool n2) ∧ w'.cell? ⟨w.heap.size + 1, 1, none⟩ = some (.slice B ys.length d))
     (first | exact cells_of (KS1.out _ (((k2.mono (by omega)).setCell (by simp) _).setCell (by simp) _)) | exact cells_of (KS1.out _ (k2.mono (by omega))) | exact cells_of (KS1.out _ (k1.mono (by omega))) | exact cells_of (KS1.out _ (below_drewN (Below.refl _ _) n).drew) | go_keep)
     (first
      | (go_at_call 451; refine (minus_any _ (fun _ => False) va vb es fs (ha.below (below_drewN (Below.refl _ _) n).drew) (hb.below (below_drewN (Below.refl _ _) n).drew) (by omega) (by have := HLT.out; omega) HLEN.out).mono ?_; rintro e w2 ⟨v', zs, rfl, hp, hv, hl, hb2⟩; have HV := Lib.hid hv; have HL := Lib.hid hl; clear hv hl; have k1 : Below w1.heap.size w1 w2 := undrewN (undrew hb2))
      | (go_at_call 427; refine (signed_any _ (fun _ => False) _ v' zs (hp.weak (fun _ _ h => h.elim)) (by have := HL.out; omega)).mono ?_; rintro e w3 ⟨vs, rfl, hs, hb3⟩; have k2 := k1.trans (hb3.mono k1.size); have hk1 := k1.size; rw [sv_sub1 n1 n2 hn' es fs zs (Nat.le_of_not_lt HLT.out) HV.out, HZ.out] at hs; obtain ⟨bs, As, ns, cs, rfl, Hs⟩ := hs.op; have Lr2 := Lr1.below k2; have cc := Lr2.cell; have cf := Lr2.frz))
    all_goals
     clear HC1 HC2 KS1 ca cb Lr1
     go_wp2_with fail
     refine bodyPost_ret (by simp [results, Tryz.results386, go_sem, cc, cf] <;> rfl) rfl ⟨_, rfl, IntV.stored (g := w.heap.size + 1 + 1) (Y := Old w) hs (by simp only [Old]; omega) _ _ (by intro b _ hb; simp only [Old] at hb ⊢; omega), below_set2 (hB1.trans (k2.mono (by omega))) (by omega) _ _⟩

set_option maxHeartbeats 1000000 in
theorem sub_any (w : World) (X : Nat → Prop) (v1 v2 : Value) (n1 n2 : Bool) (xs ys : List Nat) (h1 : IntR w X v1 n1 xs) (h2 : IntR w X v2 n2 ys) (hs1 : xs.length ≤ 1000000000000) (hs2 : ys.length ≤ 1000000000000) :
 Calls Tryz.prog 558 #[v1, v2] w fun e w' => ∃ v', e = .returned v' ∧ IntV w' (Old w) v' (sv n1 xs - sv n2 ys) ∧ Below w.heap.size w w' := by
 obtain ⟨A, c, rfl, _, _, H1⟩ := h1.open_
 obtain ⟨B, d, rfl, _, _, H2⟩ := h2.open_
 go_enter Tryz.func558, Tryz.ntmps558
 go_wp2_with fail
 refine (add_any _ X _ _ n1 (!n2) xs ys ⟨_, rfl, H1.below (below3 _ _ _ _)⟩ ⟨_, rfl, H2.below (below3 _ _ _ _)⟩ hs1 hs2).mono ?_
 rintro e w2 ⟨v2, rfl, h2, hb2⟩
 obtain ⟨b2, A2, n2, c2, rfl, h2⟩ := h2.op
 obtain ⟨La, Lb, Lr, hB, hsz⟩ := locs3 hb2
 have cc := Lr.cell
 have cf := Lr.frz
 go_wp2_with fail
 refine bodyPost_ret (by simp [results, Tryz.results558, go_sem, cc, cf] <;> rfl) rfl ⟨_, rfl, ?_, below_set2 hB (by omega) _ _⟩
 have h3 := IntV.stored (g := w.heap.size + 1 + 1) (Y := Old w) h2 (by simp only [Old, World.size_alloc]; omega) (.bool b2) (.slice A2 n2 c2) (by intro b _ hb; simp only [Old, World.size_alloc] at hb ⊢; omega)
 rw [sv_not, ← Int.sub_eq_add_neg] at h3
 exact h3
end Go.Proofs.YtbdcjhoedhhabaaGreat

/- The reference's inner functions, second part: timesWord, subWords, compareWords. -/
namespace Go.Proofs.YtbdcjhoedhhabaaGreat
open Go.RowKit

end Go.Proofs.YtbdcjhoedhhabaaGreat

/- Valid, Sign, Of of package integer; Equal, made, Of of the reference; short, same of the law. -/
namespace Go.Proofs.YtbdcjhoedhhabaaGreat
open Go.RowKit
attribute [local go_sem ↓] Go.wp_at_zero Go.wp_at_succ

set_option maxHeartbeats 400000 in
theorem sign_any (w : World) (X : Nat → Prop) (v : Value) (neg : Bool) (xs : List Nat) (h : IntR w X v neg xs) :
 Calls Tryz.prog 422 #[v] w fun e w' => e = .returned (.int .i64 (sv neg xs).sign) ∧ Below w.heap.size w w' := by
 obtain ⟨A, c, rfl, h1, h2, H⟩ := h.open_
 have hlen := trimL_dig H.2
 have hpos := dig_len_pos (val xs)
 by_cases h0 : val xs = 0
 ·have hn : trimL xs = [] := by rw [hlen, h0, dig_zero]
  have HN := Lib.hid hn
  have hs : (sv neg xs).sign = 0 := by unfold sv; rw [h0]; cases neg <;> simp
  have HS := Lib.hid hs
  clear hn hs hlen hpos h0
  go_enter Tryz.func422, Tryz.ntmps422
  go_wp2_with (go_at_call 426; refine (trim_any _ X _ xs (H.below (below1 _ _))).mono ?_; rintro e w' ⟨v1, rfl, hv1, rfl⟩; rw [HN.out] at hv1; obtain ⟨A1, c1, rfl, _, _, _⟩ := hv1.open_)
  go_ret
  exact ⟨ret_eq (int_eq HS.out.symm), below1 _ _⟩
 ·have hl : 0 < (trimL xs).length := by rw [hlen]; omega
  have hlb : (((trimL xs).length : Int) == 0) = false := by rw [beq_eq_false_iff_ne]; omega
  have hs : (sv neg xs).sign = if neg then -1 else 1 := by
   unfold sv; cases neg
   ·show ((val xs : Nat) : Int).sign = 1
    exact Int.sign_eq_one_of_pos (by omega)
   ·show (-((val xs : Nat) : Int)).sign = -1
    exact Int.sign_eq_neg_one_of_neg (by omega)
  have HS := Lib.hid hs
  clear hs hlen hpos h0
  cases neg
  all_goals
   go_enter Tryz.func422, Tryz.ntmps422
   go_wp2_with (go_at_call 426; refine (trim_any _ X _ xs (H.below (below1 _ _))).mono ?_; rintro e w' ⟨v1, rfl, hv1, rfl⟩; obtain ⟨A1, c1, rfl, _, _, _⟩ := hv1.open_)
   go_ret
   exact ⟨ret_eq (int_eq HS.out.symm), below1 _ _⟩

/- Neg, Abs, Bits of package integer; Clean, Neg, Abs, Valid, Sign, Bits of the reference. -/

set_option maxHeartbeats 400000 in
theorem neg_any (w : World) (X : Nat → Prop) (v : Value) (neg : Bool) (xs : List Nat) (h : IntR w X v neg xs) (hsz : xs.length ≤ 1099511627776) :
 Calls Tryz.prog 449 #[v] w fun e w' => ∃ v', e = .returned v' ∧ IntV w' (Old w) v' (-(sv neg xs)) ∧ Below w.heap.size w w' := by
 obtain ⟨A, c, rfl, _, _, H⟩ := h.open_
 go_enter Tryz.func449, Tryz.ntmps449
 go_wp2_with fail
 refine (signed_any _ X _ _ xs (H.below (below2 _ _ _)) (by omega)).mono ?_
 rintro e w2 ⟨v2, rfl, h2, hb2⟩
 obtain ⟨b2, A2, n2, c2, rfl, h2⟩ := h2.op
 obtain ⟨La, Lr, hB, hsz2⟩ := locs2 hb2
 have cc := Lr.cell
 have cf := Lr.frz
 go_wp2_with fail
 refine bodyPost_ret (by simp [results, Tryz.results449, go_sem, cc, cf] <;> rfl) rfl ⟨_, rfl, ?_, below_set2 hB (by omega) _ _⟩
 have h3 := IntV.stored (g := w.heap.size + 1) (Y := Old w) h2 (by simp only [Old, World.size_alloc]; omega) (.bool b2) (.slice A2 n2 c2) (by intro b _ hb; simp only [Old, World.size_alloc] at hb ⊢; omega)
 rw [sv_not] at h3
 exact h3

end Go.Proofs.YtbdcjhoedhhabaaGreat

/- Add and Sub of the reference. -/
namespace Go.Proofs.YtbdcjhoedhhabaaGreat
open Go.RowKit
attribute [local go_sem ↓] Go.wp_at_zero Go.wp_at_succ
attribute [local go_sem] beq_self_eq_true

/- Compare of package integer and of the reference. -/

theorem sign_cases (a : Int) : (a < 0 ∧ a.sign = -1) ∨ (a = 0 ∧ a.sign = 0) ∨ (0 < a ∧ a.sign = 1) := by
 rcases Int.lt_trichotomy a 0 with h | h | h
 ·exact Or.inl ⟨h, Int.sign_eq_neg_one_of_neg h⟩
 ·exact Or.inr (Or.inl ⟨h, by rw [h]; rfl⟩)
 ·exact Or.inr (Or.inr ⟨h, Int.sign_eq_one_of_pos h⟩)
theorem sv_cases (n : Bool) (xs : List Nat) : (sv n xs = (val xs : Nat)) ∨ (sv n xs = -((val xs : Nat) : Int)) := by
 cases n
 ·exact Or.inl (sv_false xs)
 ·exact Or.inr (sv_true xs)
theorem cmp_lt {a b : Int} (h : a.sign < b.sign) : (a - b).sign = -1 := by
 rcases sign_cases a with ⟨h1, e1⟩ | ⟨h1, e1⟩ | ⟨h1, e1⟩ <;> rcases sign_cases b with ⟨h2, e2⟩ | ⟨h2, e2⟩ | ⟨h2, e2⟩ <;> rw [e1, e2] at h <;>
  rcases sign_cases (a - b) with ⟨h3, e3⟩ | ⟨h3, e3⟩ | ⟨h3, e3⟩ <;> omega
theorem cmp_gt {a b : Int} (h : b.sign < a.sign) : (a - b).sign = 1 := by
 rcases sign_cases a with ⟨h1, e1⟩ | ⟨h1, e1⟩ | ⟨h1, e1⟩ <;> rcases sign_cases b with ⟨h2, e2⟩ | ⟨h2, e2⟩ | ⟨h2, e2⟩ <;> rw [e1, e2] at h <;>
  rcases sign_cases (a - b) with ⟨h3, e3⟩ | ⟨h3, e3⟩ | ⟨h3, e3⟩ <;> omega
theorem cmp_eq {n1 n2 : Bool} {xs ys : List Nat} (h : (sv n1 xs).sign = (sv n2 ys).sign) : (sv n1 xs).sign * cmpN (val xs) (val ys) = (sv n1 xs - sv n2 ys).sign := by
 have hc : (val xs < val ys ∧ cmpN (val xs) (val ys) = -1) ∨ (val xs = val ys ∧ cmpN (val xs) (val ys) = 0) ∨ (val ys < val xs ∧ cmpN (val xs) (val ys) = 1) := by
  rcases Nat.lt_trichotomy (val xs) (val ys) with h | h | h
  ·exact Or.inl ⟨h, cmpN_lt h⟩
  ·exact Or.inr (Or.inl ⟨h, cmpN_eq h⟩)
  ·exact Or.inr (Or.inr ⟨h, cmpN_gt h⟩)
 have a1 := sv_cases n1 xs
 have a2 := sv_cases n2 ys
 generalize sv n1 xs = a at *
 generalize sv n2 ys = b at *
 rcases sign_cases a with ⟨h1, e1⟩ | ⟨h1, e1⟩ | ⟨h1, e1⟩ <;> rcases sign_cases b with ⟨h2, e2⟩ | ⟨h2, e2⟩ | ⟨h2, e2⟩ <;> rw [e1] at h ⊢ <;> rw [e2] at h <;>
  rcases sign_cases (a - b) with ⟨h3, e3⟩ | ⟨h3, e3⟩ | ⟨h3, e3⟩ <;> rw [e3] <;> rcases hc with ⟨h4, e4⟩ | ⟨h4, e4⟩ | ⟨h4, e4⟩ <;> rw [e4] <;> omega

theorem add_len (a b : Int) (k : Nat) (ha : (dig a.natAbs).length ≤ k) (hb : (dig b.natAbs).length ≤ k) : (dig (a + b).natAbs).length ≤ k + 1 := by
 have h1 := val_lt (can_dig a.natAbs).1
 have h2 := val_lt (can_dig b.natAbs).1
 rw [val_dig] at h1 h2
 have h3 : 4294967296 ^ (dig a.natAbs).length ≤ 4294967296 ^ k := Nat.pow_le_pow_right (by omega) ha
 have h4 : 4294967296 ^ (dig b.natAbs).length ≤ 4294967296 ^ k := Nat.pow_le_pow_right (by omega) hb
 refine dig_len_le ?_
 rw [Nat.pow_succ]
 omega
theorem sub_len (a b : Int) (k : Nat) (ha : (dig a.natAbs).length ≤ k) (hb : (dig b.natAbs).length ≤ k) : (dig (a - b).natAbs).length ≤ k + 1 := by
 rw [Int.sub_eq_add_neg]
 exact add_len a (-b) k ha (by rw [Int.natAbs_neg]; exact hb)
theorem sv_len (n : Bool) (xs : List Nat) (h : Ws xs) : (dig (sv n xs).natAbs).length ≤ xs.length := by rw [sv_abs]; exact dig_len_le (val_lt h)

set_option maxHeartbeats 2000000 in
theorem icompare_any (w : World) (X : Nat → Prop) (v1 v2 : Value) (n1 n2 : Bool) (xs ys : List Nat) (h1 : IntR w X v1 n1 xs) (h2 : IntR w X v2 n2 ys) :
 Calls Tryz.prog 349 #[v1, v2] w fun e w' => e = .returned (.int .i64 (sv n1 xs - sv n2 ys).sign) ∧ Below w.heap.size w w' := by
 obtain ⟨A, c, rfl, _, _, H1⟩ := h1.open_
 obtain ⟨B, d, rfl, _, _, H2⟩ := h2.open_
 have HC1 := Lib.hid (can_trimL H1.2)
 have HC2 := Lib.hid (can_trimL H2.2)
 have c1 := cmp_lt (a := sv n1 xs) (b := sv n2 ys)
 have c2 := cmp_gt (a := sv n1 xs) (b := sv n2 ys)
 have c3 := cmp_eq (n1 := n1) (n2 := n2) (xs := xs) (ys := ys)
 have hsa := sign_cases (sv n1 xs)
 have hsb := sign_cases (sv n2 ys)
 have hv : cmpN (val (trimL xs)) (val (trimL ys)) = cmpN (val xs) (val ys) := by rw [val_trimL, val_trimL]
 have HV := Lib.hid hv
 have hbr : -1 ≤ (sv n1 xs - sv n2 ys).sign ∧ (sv n1 xs - sv n2 ys).sign ≤ 1 := by
  rcases sign_cases (sv n1 xs - sv n2 ys) with ⟨_, e⟩ | ⟨_, e⟩ | ⟨_, e⟩ <;> rw [e] <;> omega
 generalize hr : (sv n1 xs - sv n2 ys).sign = r at *
 generalize hs1 : (sv n1 xs).sign = s1 at *
 generalize hs2 : (sv n2 ys).sign = s2 at *
 generalize cmpN (val xs) (val ys) = cm at *
 have hb1 : -1 ≤ s1 ∧ s1 ≤ 1 := by omega
 have hb2 : -1 ≤ s2 ∧ s2 ≤ 1 := by omega
 have G1 := Lib.hid hs1
 have G2 := Lib.hid hs2
 have C1 := Lib.hid c1
 have C2 := Lib.hid c2
 have C3 := Lib.hid c3
 clear hr hs1 hs2 hsa hsb c1 c2 c3 hv
 go_enter Tryz.func349, Tryz.ntmps349
 go_wp2_with fail
 have K1 := (H1.weak (Y := fun _ => False) (fun _ _ h => h.elim)).below (below2 w (.cells #[.bool n1, .slice A xs.length c] 211) (.cells #[.bool n2, .slice B ys.length d] 211))
 have K2 := (H2.weak (Y := fun _ => False) (fun _ _ h => h.elim)).below (below2 w (.cells #[.bool n1, .slice A xs.length c] 211) (.cells #[.bool n2, .slice B ys.length d] 211))
 obtain ⟨La, Lb, hB0, hsz0⟩ := locs2 (c1 := #[.bool n1, .slice A xs.length c]) (c2 := #[.bool n2, .slice B ys.length d]) (t1 := 211) (t2 := 211) (Below.refl _ ((w.alloc _).alloc _))
 generalize ((w.alloc (.cells #[.bool n1, .slice A xs.length c] 211)).alloc (.cells #[.bool n2, .slice B ys.length d] 211)) = w0 at *
 clear H1 H2 h1 h2
 have KS : Hid (∀ W, Below w0.heap.size w0 W → ((W.cell? ⟨w.heap.size, 0, none⟩ = some (.bool n1) ∧ W.cell? ⟨w.heap.size, 1, none⟩ = some (.slice A xs.length c)) ∧ W.cell? ⟨w.heap.size + 1, 0, none⟩ = some (.bool n2) ∧ W.cell? ⟨w.heap.size + 1, 1, none⟩ = some (.slice B ys.length d))) := fun W hW => cells_of ⟨La.below hW, Lb.below hW⟩
 go_region_held3 (fun W => ((W.cell? ⟨w.heap.size, 0, none⟩ = some (.bool n1) ∧ W.cell? ⟨w.heap.size, 1, none⟩ = some (.slice A xs.length c)) ∧ W.cell? ⟨w.heap.size + 1, 0, none⟩ = some (.bool n2) ∧ W.cell? ⟨w.heap.size + 1, 1, none⟩ = some (.slice B ys.length d)))
  (first | exact KS.out _ k2 | exact KS.out _ k1 | exact KS.out _ (Below.refl _ _).drew)
  (first
   | (go_at_call_of 422 (Value.agg #[Value.bool n1, Value.slice A xs.length c]); refine (sign_any _ (fun _ => False) _ n1 xs ⟨_, rfl, K1.below (Below.refl _ _).drew⟩).mono ?_; rintro e wa ⟨he, hka⟩; rw [G1.out] at he; subst he; have k1 := below_undrew hka)
   | (go_at_call_of 422 (Value.agg #[Value.bool n2, Value.slice B ys.length d]); refine (sign_any _ (fun _ => False) _ n2 ys ⟨_, rfl, K2.below k1⟩).mono ?_; rintro e wb ⟨he, hkb⟩; rw [G2.out] at he; subst he; have k2 := k1.trans (hkb.mono k1.size)))
 all_goals
  have hBn := hB0.trans (k2.mono (by omega))
  have Ka := K1.below k2
  have Kb := K2.below k2
  have La2 := La.below k2
  have Lb2 := Lb.below k2
  clear K1 K2 La Lb KS k1 hka hkb
  by_cases hlt : s1 < s2
  ·have HR := Lib.hid (C1.out hlt)
   go_wp2_with fail
   go_ret
   exact ⟨ret_eq (int_eq HR.out.symm), hBn⟩
  ·by_cases hgt : s2 < s1
   ·have HR := Lib.hid (C2.out hgt)
    go_wp2_with fail
    go_ret
    exact ⟨ret_eq (int_eq HR.out.symm), hBn⟩
   ·obtain rfl : s1 = s2 := by omega
    have HR := Lib.hid (C3.out rfl)
    have KS : Hid (∀ W, Below wb.heap.size wb W → ((W.cell? ⟨w.heap.size, 0, none⟩ = some (.bool n1) ∧ W.cell? ⟨w.heap.size, 1, none⟩ = some (.slice A xs.length c)) ∧ W.cell? ⟨w.heap.size + 1, 0, none⟩ = some (.bool n2) ∧ W.cell? ⟨w.heap.size + 1, 1, none⟩ = some (.slice B ys.length d))) := fun W hW => cells_of ⟨La2.below hW, Lb2.below hW⟩
    go_wp2_with fail
    go_region_held3 (fun W => ((W.cell? ⟨w.heap.size, 0, none⟩ = some (.bool n1) ∧ W.cell? ⟨w.heap.size, 1, none⟩ = some (.slice A xs.length c)) ∧ W.cell? ⟨w.heap.size + 1, 0, none⟩ = some (.bool n2) ∧ W.cell? ⟨w.heap.size + 1, 1, none⟩ = some (.slice B ys.length d)))
     (first | exact KS.out _ (Below.refl _ _).drew | exact KS.out _ (below_drewN (Below.refl _ _) _))
     (first
      | (go_at_call_of 426 (Value.slice A xs.length c); refine (trim_any _ (fun _ => False) (.slice A xs.length c) xs (Ka.below (Below.refl _ _).drew)).mono ?_; rintro e w' ⟨va, rfl, ha, rfl⟩)
      | (go_at_call_of 426 (Value.slice B ys.length d); refine (trim_any _ (fun _ => False) (.slice B ys.length d) ys (Kb.below (Below.refl _ _).drew)).mono ?_; rintro e w' ⟨vb, rfl, hb, rfl⟩)
      | (go_at_call 425; refine (compare_any _ (fun _ => False) va vb _ _ ha hb HC1.out HC2.out).mono ?_; rintro e w' ⟨he, n, rfl⟩; rw [HV.out] at he; subst he))
    all_goals
     try go_wp2_with fail
     go_ret
     refine ⟨ret_eq (int_eq ?_), hBn.trans ((below_drewN (Below.refl _ _) _).mono hBn.size)⟩
     rw [HR.out, IntKind.wrap_i64]
     omega
end Go.Proofs.YtbdcjhoedhhabaaGreat

/- append(own row, words...): one law for a source that is nil or not; in a list of operations, and as one step of a region that draws. -/
namespace Go.Proofs.YtbdcjhoedhhabaaGreat
open Go.RowKit

section
variable {P : Program} {ops : Array Oper} {rest : List Oper} {o : Oper} {a : Act} {K : Act → World → Prop} {Q : Exit → Act → World → Prop} {E : Prop} {t e : TypeId} {X : Nat → Prop}

end
end Go.Proofs.YtbdcjhoedhhabaaGreat

/- mulWords of the reference. -/
namespace Go.Proofs.YtbdcjhoedhhabaaGreat
open Go.RowKit
attribute [local go_sem ↓] Go.wp_at_zero Go.wp_at_succ

theorem len_mul {xs ys : List Nat} (hx : Ws xs) (hy : Ws ys) : (dig (val xs * val ys)).length ≤ xs.length + ys.length := by
 refine dig_len_le ?_
 rw [Nat.pow_add]
 have h1 := val_lt hx
 have h2 := val_lt hy
 exact Nat.mul_lt_mul'' h1 h2
theorem ws_dig (n : Nat) : Ws (dig n) := (can_dig n).1

/- Mul of the reference. -/
end Go.Proofs.YtbdcjhoedhhabaaGreat

/- Parse: the sign cut off. -/
namespace Go.Proofs.YtbdcjhoedhhabaaGreat
open Go.RowKit

/-- A string of bytes. -/
abbrev str (bs : List UInt8) : Value := .string ⟨bs.toArray⟩
end Go.Proofs.YtbdcjhoedhhabaaGreat

/- Decimal texts. Plain arithmetic. -/
namespace Go.Proofs.YtbdcjhoedhhabaaGreat

/-- The number of little-endian decimal digits. -/
def dval : List Nat → Nat
 | [] => 0
 | d :: ds => d + 10 * dval ds
def Ds (ds : List Nat) : Prop := ∀ d ∈ ds, d < 10

@[simp] theorem dval_nil : dval [] = 0 := rfl
@[simp] theorem dval_cons (d : Nat) (ds : List Nat) : dval (d :: ds) = d + 10 * dval ds := rfl
theorem Ds.cons {x : Nat} {xs : List Nat} : Ds (x :: xs) ↔ x < 10 ∧ Ds xs := by simp [Ds]
theorem Ds.append {xs ys : List Nat} : Ds (xs ++ ys) ↔ Ds xs ∧ Ds ys := by
 simp only [Ds, List.mem_append]
 exact ⟨fun h => ⟨fun x hx => h x (.inl hx), fun x hx => h x (.inr hx)⟩, fun h x hx => hx.elim (h.1 x) (h.2 x)⟩
theorem Ds.take {xs : List Nat} (h : Ds xs) (n : Nat) : Ds (xs.take n) := fun x hx => h x (List.mem_of_mem_take hx)
/-- The characters of digits. -/
def chars (ds : List Nat) : List Nat := ds.map (48 + ·)
@[simp] theorem chars_length (ds : List Nat) : (chars ds).length = ds.length := by simp [chars]
/-- Bytes out of numbers. -/
def bytesOf (xs : List Nat) : List UInt8 := xs.map UInt8.ofNat
@[simp] theorem bytesOf_length (xs : List Nat) : (bytesOf xs).length = xs.length := by simp [bytesOf]
end Go.Proofs.YtbdcjhoedhhabaaGreat

/- Parse: what it answers; the plain law. -/
namespace Go.Proofs.YtbdcjhoedhhabaaGreat
open Go.RowKit

def good (c : UInt8) : Prop := 48 ≤ c.toNat ∧ c.toNat ≤ 57
instance (c : UInt8) : Decidable (good c) := inferInstanceAs (Decidable (_ ∧ _))
/-- No number's canonical digits. -/
def synt (neg : Bool) (ds : List UInt8) : Prop := ds = [] ∨ (ds.head? = some 48 ∧ (1 < ds.length ∨ neg = true))
instance (neg : Bool) (ds : List UInt8) : Decidable (synt neg ds) := inferInstanceAs (Decidable (_ ∨ _))
/-! The text of what was parsed. -/

/- Parse of package integer. -/

theorem IntV.zero (w : World) (X : Nat → Prop) : IntV w X (.agg #[.bool false, .slice none 0 0]) 0 := by
 refine ⟨_, rfl, ?_⟩
 have : dig (0 : Int).natAbs = [] := dig_zero
 rw [this]
 exact Words.nil _ _

theorem Words.one {w : World} {t : TypeId} {X : Nat → Prop} (d : Nat) (h : d < 4294967296) (z : Int) (e : z = (d : Nat)) (hX : ∀ b, X b → b < w.heap.size) :
 Words (w.alloc (.cells #[.int .u32 z] t)) X (.slice (some ⟨w.heap.size, 0, none⟩) 1 1) [d] := by
 subst e
 exact Words.lit (t := t) [d] (Loc.new _ _ _) (by simpa using h) (fun h => by have := hX _ h; omega) (by unfold maxLen; simp)
end Go.Proofs.YtbdcjhoedhhabaaGreat

/- Of and Small of package integer and of the reference; same of the law. -/
namespace Go.Proofs.YtbdcjhoedhhabaaGreat
open Go.RowKit
attribute [local go_sem ↓] Go.wp_at_zero Go.wp_at_succ

/-- The two words of an int. -/
theorem words2_val (m : Nat) (h : m < 18446744073709551616) : val [m % 4294967296, m / 4294967296] = m := by
 simp; omega

theorem Words.two {w : World} {o : Obj} {t : TypeId} {X : Nat → Prop} (m : Nat) (h : m < 18446744073709551616) (z1 z2 : Int) (e1 : z1 = ((m % 4294967296 : Nat) : Int)) (e2 : z2 = ((m / 4294967296 : Nat) : Int)) (hX : ∀ b, X b → b < w.heap.size) :
 Words ((w.alloc o).alloc (.cells #[.int .u32 z1, .int .u32 z2] t)) X (.slice (some ⟨w.heap.size + 1, 0, none⟩) 2 2) [m % 4294967296, m / 4294967296] := by
 subst e1 e2
 refine Words.lit (t := t) [m % 4294967296, m / 4294967296] ?_ (by simp; omega) (fun h => by have := hX _ h; omega) (by unfold maxLen; simp)
 have := Loc.new (w.alloc o) #[.int .u32 ((m % 4294967296 : Nat) : Int), .int .u32 ((m / 4294967296 : Nat) : Int)] t
 simpa [nums] using this

set_option maxHeartbeats 400000 in
theorem of_any (w : World) (n : Int) (h0 : -9223372036854775808 ≤ n) (h1 : n ≤ 9223372036854775807) :
 Calls Tryz.prog 448 #[.int .i64 n] w fun e w' => ∃ v', e = .returned v' ∧ IntV w' (Old w) v' n ∧ Below w.heap.size w w' := by
 obtain ⟨m, hm⟩ : ∃ m, m = n.natAbs := ⟨_, rfl⟩
 have hs : sv (decide (n < 0)) [m % 4294967296, m / 4294967296] = n := by unfold sv; rw [words2_val m (by omega)]; split <;> simp_all <;> omega
 have HT : Hid (n < 0 → sv true [m % 4294967296, m / 4294967296] = n) := fun h => by rw [← hs]; simp [h]
 have HF : Hid (¬ n < 0 → sv false [m % 4294967296, m / 4294967296] = n) := fun h => by rw [← hs]; simp [h]
 have HM := Lib.hid hm
 clear hs hm
 by_cases hn : n < 0
 all_goals
  go_enter Tryz.func448, Tryz.ntmps448
  go_wp2_with fail
  refine (signed_any _ (Old w) _ _ [m % 4294967296, m / 4294967296] (Words.two m (by have := HM.out; omega) _ _ (by have := HM.out; (try simp only [IntKind.wrap_u64]); omega) (by have := HM.out; (try simp only [IntKind.wrap_u64]); omega) (by simp [Old])) (by simp)).mono ?_
  rintro e w2 ⟨v2, rfl, h2, hb2⟩
  first | rw [HT.out (by omega)] at h2 | rw [HF.out (by omega)] at h2
  obtain ⟨b2, A2, n2, c2, rfl, h2⟩ := h2.op
  obtain ⟨Lr, _, hB, hsz2⟩ := locs2 hb2
  have cc := Lr.cell
  have cf := Lr.frz
  go_wp2_with fail
  refine bodyPost_ret (by simp [results, Tryz.results448, go_sem, cc, cf] <;> rfl) rfl ⟨_, rfl, ?_, below_set2 hB (by omega) _ _⟩
  exact IntV.stored (g := w.heap.size) h2 (by simp only [Old, World.size_alloc]; omega) _ _ (by intro b _ hb; simp only [Old, World.size_alloc] at hb ⊢; omega)

/- Of of the reference; Small of both. -/

/-- Does an integer fit an int? -/
def fits (z : Int) : Bool := decide (-9223372036854775808 ≤ z ∧ z ≤ 9223372036854775807)
end Go.Proofs.YtbdcjhoedhhabaaGreat

