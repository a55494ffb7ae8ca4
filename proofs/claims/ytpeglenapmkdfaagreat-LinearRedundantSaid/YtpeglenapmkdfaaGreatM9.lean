/- Contracts of the functions that the statements reach, part 9. -/
import Derived.Test.YtpeglenapmkdfaaGreatRows
import Derived.Deep.RegionHeld3
import Derived.Deep.DrawnRows
import Derived.Test.YtpeglenapmkdfaaGreatM4
import Derived.Test.YtpeglenapmkdfaaGreatM8
set_option linter.unusedSimpArgs false
set_option linter.unusedVariables false

/- Neg, Abs, Bits of package integer; Clean, Neg, Abs, Valid, Sign, Bits of the reference. -/
namespace Go.Proofs.YtpeglenapmkdfaaGreat
open Go.RowKit
attribute [local go_sem ↓] Go.wp_at_zero Go.wp_at_succ

theorem sv_absI (neg : Bool) (xs : List Nat) : sv false xs = ((sv neg xs).natAbs : Int) := by rw [sv_abs, sv_false]

set_option maxHeartbeats 400000 in
theorem neg_any (w : World) (X : Nat → Prop) (v : Value) (neg : Bool) (xs : List Nat) (h : IntR w X v neg xs) (hsz : xs.length ≤ 1099511627776) :
    Calls Tryz.prog 92 #[v] w fun e w' => ∃ v', e = .returned v' ∧ IntV w' (Old w) v' (-(sv neg xs)) ∧ Below w.heap.size w w' := by
  obtain ⟨A, c, rfl, _, _, H⟩ := h.open_
  go_enter Tryz.func92, Tryz.ntmps92
  go_wp2_with fail
  refine (signed_any _ X _ _ xs (H.below (below2 _ _ _)) (by omega)).mono ?_
  rintro e w2 ⟨v2, rfl, h2, hb2⟩
  obtain ⟨b2, A2, n2, c2, rfl, h2⟩ := h2.op
  obtain ⟨La, Lr, hB, hsz2⟩ := locs2 hb2
  have cc := Lr.cell
  have cf := Lr.frz
  go_wp2_with fail
  refine bodyPost_ret (by simp [results, Tryz.results92, go_sem, cc, cf] <;> rfl) rfl ⟨_, rfl, ?_, below_set2 hB (by omega) _ _⟩
  have h3 := IntV.stored (g := w.heap.size + 1) (Y := Old w) h2 (by simp only [Old, World.size_alloc]; omega) (.bool b2) (.slice A2 n2 c2) (by intro b _ hb; simp only [Old, World.size_alloc] at hb ⊢; omega)
  rw [sv_not] at h3
  exact h3

set_option maxHeartbeats 400000 in
theorem rclean_any (w : World) (X : Nat → Prop) (v : Value) (neg : Bool) (xs : List Nat) (h : IntR w X v neg xs) (hsz : xs.length ≤ 1099511627776) :
    Calls Tryz.prog 82 #[v] w fun e w' => ∃ v', e = .returned v' ∧ IntV w' (Old w) v' (sv neg xs) ∧ Below w.heap.size w w' := by
  obtain ⟨A, c, rfl, _, _, H⟩ := h.open_
  go_enter Tryz.func82, Tryz.ntmps82
  go_wp2_with fail
  refine (made_any _ X _ _ xs (H.below (below2 _ _ _)) (by omega)).mono ?_
  rintro e w2 ⟨v2, rfl, h2, hb2⟩
  obtain ⟨b2, A2, n2, c2, rfl, h2⟩ := h2.op
  obtain ⟨La, Lr, hB, hsz2⟩ := locs2 hb2
  have cc := Lr.cell
  have cf := Lr.frz
  go_wp2_with fail
  refine bodyPost_ret (by simp [results, Tryz.results82, go_sem, cc, cf] <;> rfl) rfl ⟨_, rfl, ?_, below_set2 hB (by omega) _ _⟩
  have h3 := IntV.stored (g := w.heap.size + 1) (Y := Old w) h2 (by simp only [Old, World.size_alloc]; omega) (.bool b2) (.slice A2 n2 c2) (by intro b _ hb; simp only [Old, World.size_alloc] at hb ⊢; omega)
  exact h3

set_option maxHeartbeats 400000 in
theorem rneg_any (w : World) (X : Nat → Prop) (v : Value) (neg : Bool) (xs : List Nat) (h : IntR w X v neg xs) (hsz : xs.length ≤ 1099511627776) :
    Calls Tryz.prog 83 #[v] w fun e w' => ∃ v', e = .returned v' ∧ IntV w' (Old w) v' (-(sv neg xs)) ∧ Below w.heap.size w w' := by
  obtain ⟨A, c, rfl, _, _, H⟩ := h.open_
  go_enter Tryz.func83, Tryz.ntmps83
  go_wp2_with fail
  refine (made_any _ X _ _ xs (H.below (below2 _ _ _)) (by omega)).mono ?_
  rintro e w2 ⟨v2, rfl, h2, hb2⟩
  obtain ⟨b2, A2, n2, c2, rfl, h2⟩ := h2.op
  obtain ⟨La, Lr, hB, hsz2⟩ := locs2 hb2
  have cc := Lr.cell
  have cf := Lr.frz
  go_wp2_with fail
  refine bodyPost_ret (by simp [results, Tryz.results83, go_sem, cc, cf] <;> rfl) rfl ⟨_, rfl, ?_, below_set2 hB (by omega) _ _⟩
  have h3 := IntV.stored (g := w.heap.size + 1) (Y := Old w) h2 (by simp only [Old, World.size_alloc]; omega) (.bool b2) (.slice A2 n2 c2) (by intro b _ hb; simp only [Old, World.size_alloc] at hb ⊢; omega)
  rw [sv_not] at h3
  exact h3

/-- The bits of canonical words. -/
def bitsW (ws : List Nat) : Nat := 32 * (ws.length - 1) + Lib.bitLen (ws.getLastD 0)

theorem bitsW_nil : bitsW [] = 0 := rfl
theorem bitsW_last {ws : List Nat} (h : 0 < ws.length) : bitsW ws = 32 * (ws.length - 1) + Lib.bitLen (ws[ws.length - 1]'(by omega)) := by
  unfold bitsW
  congr 2
  have hne : ws ≠ [] := List.length_pos_iff.1 h
  rw [← List.getLast_eq_getElem hne]
  cases ws with
  | nil => exact absurd rfl hne
  | cons x xs => simp [List.getLastD_eq_getLast?, List.getLast?_eq_some_getLast]
end Go.Proofs.YtpeglenapmkdfaaGreat

/- Add and Sub of the reference. -/
namespace Go.Proofs.YtpeglenapmkdfaaGreat
open Go.RowKit
attribute [local go_sem ↓] Go.wp_at_zero Go.wp_at_succ
attribute [local go_sem] beq_self_eq_true

theorem val_add_lt {xs ys : List Nat} (hx : Ws xs) (hy : Ws ys) : val xs + val ys < 4294967296 ^ (xs.length + ys.length + 1) := by
  have h1 := val_lt hx
  have h2 := val_lt hy
  have h3 : 4294967296 ^ xs.length ≤ 4294967296 ^ (xs.length + ys.length) := Nat.pow_le_pow_right (by omega) (by omega)
  have h4 : 4294967296 ^ ys.length ≤ 4294967296 ^ (xs.length + ys.length) := Nat.pow_le_pow_right (by omega) (by omega)
  rw [Nat.pow_succ]
  omega

set_option maxHeartbeats 2000000 in
theorem radd_any (w : World) (X : Nat → Prop) (v1 v2 : Value) (n1 n2 : Bool) (xs ys : List Nat) (h1 : IntR w X v1 n1 xs) (h2 : IntR w X v2 n2 ys) (hs1 : xs.length ≤ 400000000000) (hs2 : ys.length ≤ 400000000000) :
    Calls Tryz.prog 51 #[v1, v2] w fun e w' => ∃ v', e = .returned v' ∧ IntV w' (Old w) v' (sv n1 xs + sv n2 ys) ∧ Below w.heap.size w w' := by
  obtain ⟨A, c, rfl, _, _, H1⟩ := h1.open_
  obtain ⟨B, d, rfl, _, _, H2⟩ := h2.open_
  have l1 := trimL_len xs
  have l2 := trimL_len ys
  have HL1 := Lib.hid (fun h : val (trimL ys) ≤ val (trimL xs) => trim_len_le H1.2 H2.2 (by rwa [val_trimL, val_trimL] at h))
  have HL2 := Lib.hid (fun h : val (trimL xs) ≤ val (trimL ys) => trim_len_le H2.2 H1.2 (by rwa [val_trimL, val_trimL] at h))
  have hv1 := val_trimL xs
  have hv2 := val_trimL ys
  have HV1 := Lib.hid hv1
  have HV2 := Lib.hid hv2
  have HC1 := Lib.hid (can_trimL H1.2)
  have HC2 := Lib.hid (can_trimL H2.2)
  clear hv1 hv2
  rw [← sv_trim n1 xs, ← sv_trim n2 ys]
  generalize hz : sv n1 (trimL xs) + sv n2 (trimL ys) = z
  have HZ := Lib.hid hz
  clear hz
  go_enter Tryz.func51, Tryz.ntmps51
  go_wp2_with fail
  have KS := boxes3 w #[.bool n1, .slice A xs.length c] #[.bool n2, .slice B ys.length d] #[.bool false, .slice none 0 0] 42 42 42
  have K1 := (H1.weak (Y := fun _ => False) (fun _ _ h => h.elim)).below (below3 w (.cells #[.bool n1, .slice A xs.length c] 42) (.cells #[.bool n2, .slice B ys.length d] 42) (.cells #[.bool false, .slice none 0 0] 42))
  have K2 := (H2.weak (Y := fun _ => False) (fun _ _ h => h.elim)).below (below3 w (.cells #[.bool n1, .slice A xs.length c] 42) (.cells #[.bool n2, .slice B ys.length d] 42) (.cells #[.bool false, .slice none 0 0] 42))
  obtain ⟨-, -, Lr, hB0, hsz0⟩ := locs3 (c1 := #[.bool n1, .slice A xs.length c]) (c2 := #[.bool n2, .slice B ys.length d]) (c3 := #[.bool false, .slice none 0 0]) (t1 := 42) (t2 := 42) (t3 := 42) (Below.refl _ (((w.alloc _).alloc _).alloc _))
  generalize (((w.alloc (.cells #[.bool n1, .slice A xs.length c] 42)).alloc (.cells #[.bool n2, .slice B ys.length d] 42)).alloc (.cells #[.bool false, .slice none 0 0] 42)) = w0 at *
  clear H1 H2 h1 h2
  go_region_held3 (fun w' => w'.cell? ⟨w.heap.size, 0, none⟩ = some (.bool n1) ∧ w'.cell? ⟨w.heap.size, 1, none⟩ = some (.slice A xs.length c) ∧ w'.cell? ⟨w.heap.size + 1, 0, none⟩ = some (.bool n2) ∧ w'.cell? ⟨w.heap.size + 1, 1, none⟩ = some (.slice B ys.length d))
    (first | exact (fun K => ⟨K.1.cell 0, K.1.cell 1, K.2.cell 0, K.2.cell 1⟩) (KS.out _ (k9.mono (by omega))) | exact (fun K => ⟨K.1.cell 0, K.1.cell 1, K.2.cell 0, K.2.cell 1⟩) (KS.out _ (ka.mono (by omega))) | exact (fun K => ⟨K.1.cell 0, K.1.cell 1, K.2.cell 0, K.2.cell 1⟩) (KS.out _ (kb.mono (by omega))) | exact (fun K => ⟨K.1.cell 0, K.1.cell 1, K.2.cell 0, K.2.cell 1⟩) (KS.out _ (Below.refl _ _).drew))
    (first
      | (go_at_call_of 76 (Value.slice A xs.length c); refine (rtrim_any _ (fun _ => False) (.slice A xs.length c) xs (K1.below (by first | exact kb | exact (Below.refl _ _).drew)) (by omega)).mono ?_; rintro e wa ⟨va, rfl, ha, hka⟩; have ka : Below w0.heap.size w0 wa := (by first | exact kb.trans (hka.mono kb.size) | exact undrew hka); have k9 := ka)
      | (go_at_call_of 76 (Value.slice B ys.length d); refine (rtrim_any _ (fun _ => False) (.slice B ys.length d) ys (K2.below (by first | exact ka | exact (Below.refl _ _).drew)) (by omega)).mono ?_; rintro e wb ⟨vb, rfl, hb, hkb⟩; have kb : Below w0.heap.size w0 wb := (by first | exact ka.trans (hkb.mono ka.size) | exact undrew hkb); have k9 := kb))
  all_goals
    first
      | (have ha1 := (ha.below hkb).weak (Y := fun _ => False) (fun _ _ h => h.elim)
         have hb1 := hb.weak (Y := fun _ => False) (fun _ _ h => h.elim)
         have k0 := kb
         clear ha hb ka kb hka hkb k9
         generalize wb = w1 at *)
      | (have ha1 := ha.weak (Y := fun _ => False) (fun _ _ h => h.elim)
         have hb1 := (hb.below hka).weak (Y := fun _ => False) (fun _ _ h => h.elim)
         have k0 := ka
         clear ha hb ka kb hka hkb k9
         generalize wa = w1 at *)
    have ha := ha1
    have hb := hb1
    clear ha1 hb1
    have KS1 : Hid (∀ W, Below (w.heap.size + 1 + 1) w1 W → Loc W w.heap.size 42 #[.bool n1, .slice A xs.length c] ∧ Loc W (w.heap.size + 1) 42 #[.bool n2, .slice B ys.length d]) := fun W hW => KS.out W ((k0.mono (by omega)).trans hW)
    have hB1 : Below w.heap.size w w1 := hB0.trans (k0.mono hB0.size)
    have Lr1 := Lr.below k0
    have hsz1 : w.heap.size + 3 ≤ w1.heap.size := by have := k0.size; omega
    clear KS K1 K2 hB0 Lr hsz0 k0
    have k2 := KS1.out w1 (Below.refl _ _)
    have ca := k2.1.cell
    have cb := k2.2.cell
    clear k2
    clear HV1 HV2
    generalize trimL xs = es at *
    generalize trimL ys = fs at *
    by_cases hn : n1 = n2
    · subst hn
      go_wp2_with fail
      go_region_held3 (fun w' => (w'.cell? ⟨w.heap.size, 0, none⟩ = some (.bool n1) ∧ w'.cell? ⟨w.heap.size, 1, none⟩ = some (.slice A xs.length c)) ∧ w'.cell? ⟨w.heap.size + 1, 0, none⟩ = some (.bool n1) ∧ w'.cell? ⟨w.heap.size + 1, 1, none⟩ = some (.slice B ys.length d))
        (first | exact cells_of (KS1.out _ (((k2.mono (by omega)).setCell (by simp) _).setCell (by simp) _)) | exact cells_of (KS1.out _ (k2.mono (by omega))) | exact cells_of (KS1.out _ (k1.mono (by omega))) | exact cells_of (KS1.out _ (Below.refl _ _).drew) | go_keep)
        (first
          | (go_at_call 78; refine (addWords_any _ (fun _ => False) va vb es fs (ha.below (Below.refl _ _).drew) (hb.below (Below.refl _ _).drew) (by omega)).mono ?_; rintro e w2 ⟨v', rfl, hp, hb2⟩; have k1 := below_undrew hb2)
          | (go_at_call 77; refine (made_any _ (fun _ => False) _ v' _ (hp.weak (fun _ _ h => h.elim)) (Nat.le_trans (dig_len_le (val_add_lt ha.2 hb.2)) (by omega))).mono ?_; rintro e w3 ⟨vs, rfl, hs, hb3⟩; have k2 := k1.trans (hb3.mono k1.size); have hk1 := k1.size; rw [sv_add_same _ es fs _ (val_dig _), HZ.out] at hs; obtain ⟨bs, As, ns, cs, rfl, Hs⟩ := hs.op; have Lr2 := Lr1.below k2; have cc := Lr2.cell; have cf := Lr2.frz))
      all_goals
        clear HL1 HL2 HC1 HC2 KS1 ca cb Lr1
        go_wp2_with fail
        refine bodyPost_ret (by simp [results, Tryz.results51, go_sem, cc, cf] <;> rfl) rfl ⟨_, rfl, IntV.stored (g := w.heap.size + 1 + 1) (Y := Old w) hs (by simp only [Old]; omega) _ _ (by intro b _ hb; simp only [Old] at hb ⊢; omega), below_set2 (hB1.trans (k2.mono (by omega))) (by omega) _ _⟩
    · have hn' : (n1 == n2) = false := by simpa using hn
      clear hn
      by_cases hlt : val es < val fs
      · have hcmp := cmpN_lt hlt
        have hlen := HL2.out (by omega)
        have HCM := Lib.hid hcmp
        have HLEN := Lib.hid hlen
        have HLT := Lib.hid hlt
        clear hcmp hlen HL1 HL2 hlt
        go_wp2_with fail
        refine (compareWords_any _ (fun _ => False) va vb es fs ha hb HC1.out HC2.out).mono ?_
        rintro e w' ⟨he, n, rfl⟩
        rw [HCM.out] at he
        subst he
        go_wp2_with fail
        go_region_held3 (fun w' => (w'.cell? ⟨w.heap.size, 0, none⟩ = some (.bool n1) ∧ w'.cell? ⟨w.heap.size, 1, none⟩ = some (.slice A xs.length c)) ∧ w'.cell? ⟨w.heap.size + 1, 0, none⟩ = some (.bool n2) ∧ w'.cell? ⟨w.heap.size + 1, 1, none⟩ = some (.slice B ys.length d))
          (first | exact cells_of (KS1.out _ (((k2.mono (by omega)).setCell (by simp) _).setCell (by simp) _)) | exact cells_of (KS1.out _ (k2.mono (by omega))) | exact cells_of (KS1.out _ (k1.mono (by omega))) | exact cells_of (KS1.out _ (below_drewN (Below.refl _ _) n).drew) | go_keep)
          (first
            | (go_at_call 80; refine (subWords_any _ (fun _ => False) vb va fs es (hb.below (below_drewN (Below.refl _ _) n).drew) (ha.below (below_drewN (Below.refl _ _) n).drew) (by omega) (by have := HLT.out; omega) HLEN.out).mono ?_; rintro e w2 ⟨v', rfl, hp, hb2⟩; have k1 : Below w1.heap.size w1 w2 := undrewN (undrew hb2))
            | (go_at_call 77; refine (made_any _ (fun _ => False) _ v' _ (hp.weak (fun _ _ h => h.elim)) (Nat.le_trans (dig_len_le (Nat.lt_of_le_of_lt (Nat.sub_le _ _) (val_lt hb.2))) (by omega))).mono ?_; rintro e w3 ⟨vs, rfl, hs, hb3⟩; have k2 := k1.trans (hb3.mono k1.size); have hk1 := k1.size; rw [sv_sub2 n1 n2 hn' es fs _ (Nat.le_of_lt HLT.out) (val_dig _), HZ.out] at hs; obtain ⟨bs, As, ns, cs, rfl, Hs⟩ := hs.op; have Lr2 := Lr1.below k2; have cc := Lr2.cell; have cf := Lr2.frz))
        all_goals
          clear HC1 HC2 KS1 ca cb Lr1
          go_wp2_with fail
          refine bodyPost_ret (by simp [results, Tryz.results51, go_sem, cc, cf] <;> rfl) rfl ⟨_, rfl, IntV.stored (g := w.heap.size + 1 + 1) (Y := Old w) hs (by simp only [Old]; omega) _ _ (by intro b _ hb; simp only [Old] at hb ⊢; omega), below_set2 (hB1.trans (k2.mono (by omega))) (by omega) _ _⟩
      · obtain ⟨cm, hcc, hcm0⟩ : ∃ cm, cmpN (val es) (val fs) = cm ∧ 0 ≤ cm := ⟨_, rfl, cmpN_ge hlt⟩
        have hlen := HL1.out (by omega)
        have HCM := Lib.hid hcc
        have HLEN := Lib.hid hlen
        have HLT := Lib.hid hlt
        clear hcc hlen HL1 HL2 hlt
        go_wp2_with fail
        refine (compareWords_any _ (fun _ => False) va vb es fs ha hb HC1.out HC2.out).mono ?_
        rintro e w' ⟨he, n, rfl⟩
        rw [HCM.out] at he
        subst he
        go_wp2_with fail
        go_region_held3 (fun w' => (w'.cell? ⟨w.heap.size, 0, none⟩ = some (.bool n1) ∧ w'.cell? ⟨w.heap.size, 1, none⟩ = some (.slice A xs.length c)) ∧ w'.cell? ⟨w.heap.size + 1, 0, none⟩ = some (.bool n2) ∧ w'.cell? ⟨w.heap.size + 1, 1, none⟩ = some (.slice B ys.length d))
          (first | exact cells_of (KS1.out _ (((k2.mono (by omega)).setCell (by simp) _).setCell (by simp) _)) | exact cells_of (KS1.out _ (k2.mono (by omega))) | exact cells_of (KS1.out _ (k1.mono (by omega))) | exact cells_of (KS1.out _ (below_drewN (Below.refl _ _) n).drew) | go_keep)
          (first
            | (go_at_call 80; refine (subWords_any _ (fun _ => False) va vb es fs (ha.below (below_drewN (Below.refl _ _) n).drew) (hb.below (below_drewN (Below.refl _ _) n).drew) (by omega) (by have := HLT.out; omega) HLEN.out).mono ?_; rintro e w2 ⟨v', rfl, hp, hb2⟩; have k1 : Below w1.heap.size w1 w2 := undrewN (undrew hb2))
            | (go_at_call 77; refine (made_any _ (fun _ => False) _ v' _ (hp.weak (fun _ _ h => h.elim)) (Nat.le_trans (dig_len_le (Nat.lt_of_le_of_lt (Nat.sub_le _ _) (val_lt ha.2))) (by omega))).mono ?_; rintro e w3 ⟨vs, rfl, hs, hb3⟩; have k2 := k1.trans (hb3.mono k1.size); have hk1 := k1.size; rw [sv_sub1 n1 n2 hn' es fs _ (Nat.le_of_not_lt HLT.out) (val_dig _), HZ.out] at hs; obtain ⟨bs, As, ns, cs, rfl, Hs⟩ := hs.op; have Lr2 := Lr1.below k2; have cc := Lr2.cell; have cf := Lr2.frz))
        all_goals
          clear HC1 HC2 KS1 ca cb Lr1
          go_wp2_with fail
          refine bodyPost_ret (by simp [results, Tryz.results51, go_sem, cc, cf] <;> rfl) rfl ⟨_, rfl, IntV.stored (g := w.heap.size + 1 + 1) (Y := Old w) hs (by simp only [Old]; omega) _ _ (by intro b _ hb; simp only [Old] at hb ⊢; omega), below_set2 (hB1.trans (k2.mono (by omega))) (by omega) _ _⟩

set_option maxHeartbeats 1000000 in
theorem rsub_any (w : World) (X : Nat → Prop) (v1 v2 : Value) (n1 n2 : Bool) (xs ys : List Nat) (h1 : IntR w X v1 n1 xs) (h2 : IntR w X v2 n2 ys) (hs1 : xs.length ≤ 100000000000) (hs2 : ys.length ≤ 100000000000) :
    Calls Tryz.prog 103 #[v1, v2] w fun e w' => ∃ v', e = .returned v' ∧ IntV w' (Old w) v' (sv n1 xs - sv n2 ys) ∧ Below w.heap.size w w' := by
  obtain ⟨A, c, rfl, _, _, H1⟩ := h1.open_
  obtain ⟨B, d, rfl, _, _, H2⟩ := h2.open_
  have hlb : (dig (-(sv n2 ys)).natAbs).length ≤ ys.length := by rw [Int.natAbs_neg, sv_abs]; exact dig_len_le (val_lt H2.2)
  go_enter Tryz.func103, Tryz.ntmps103
  go_wp2_with fail
  have KS := boxes3 w #[.bool n1, .slice A xs.length c] #[.bool n2, .slice B ys.length d] #[.bool false, .slice none 0 0] 42 42 42
  have K1 := (H1.weak (Y := fun _ => False) (fun _ _ h => h.elim)).below (below3 w (.cells #[.bool n1, .slice A xs.length c] 42) (.cells #[.bool n2, .slice B ys.length d] 42) (.cells #[.bool false, .slice none 0 0] 42))
  have K2 := (H2.weak (Y := fun _ => False) (fun _ _ h => h.elim)).below (below3 w (.cells #[.bool n1, .slice A xs.length c] 42) (.cells #[.bool n2, .slice B ys.length d] 42) (.cells #[.bool false, .slice none 0 0] 42))
  obtain ⟨-, -, Lr, hB0, hsz0⟩ := locs3 (c1 := #[.bool n1, .slice A xs.length c]) (c2 := #[.bool n2, .slice B ys.length d]) (c3 := #[.bool false, .slice none 0 0]) (t1 := 42) (t2 := 42) (t3 := 42) (Below.refl _ (((w.alloc _).alloc _).alloc _))
  generalize (((w.alloc (.cells #[.bool n1, .slice A xs.length c] 42)).alloc (.cells #[.bool n2, .slice B ys.length d] 42)).alloc (.cells #[.bool false, .slice none 0 0] 42)) = w1 at *
  clear H1 H2 h1 h2
  go_region_held3 (fun w' => (w'.cell? ⟨w.heap.size, 0, none⟩ = some (.bool n1) ∧ w'.cell? ⟨w.heap.size, 1, none⟩ = some (.slice A xs.length c)) ∧ w'.cell? ⟨w.heap.size + 1, 0, none⟩ = some (.bool n2) ∧ w'.cell? ⟨w.heap.size + 1, 1, none⟩ = some (.slice B ys.length d))
    (first | exact cells_of (KS.out _ (((k2.mono (by omega)).setCell (by simp) _).setCell (by simp) _)) | exact cells_of (KS.out _ (k2.mono (by omega))) | exact cells_of (KS.out _ (k1.mono (by omega))) | exact cells_of (KS.out _ (Below.refl _ _).drew) | go_keep)
    (first
      | (go_at_call 83; refine (rneg_any _ (fun _ => False) _ n2 ys ⟨_, rfl, K2.below (Below.refl _ _).drew⟩ (by omega)).mono ?_; rintro e w2 ⟨vn, rfl, hn, hb2⟩; have k1 := below_undrew hb2; obtain ⟨bn, An, nn, cn, rfl, hn⟩ := hn.op)
      | (go_at_call 51; refine (radd_any _ (fun _ => False) _ _ _ _ _ _ ⟨_, rfl, K1.below k1⟩ (hn.weak (fun _ _ h => h.elim)) (by omega) (by omega)).mono ?_; rintro e w3 ⟨vs, rfl, hs, hb3⟩; have k2 := k1.trans (hb3.mono k1.size); have hk1 := k1.size; rw [sv_dig, ← Int.sub_eq_add_neg] at hs; obtain ⟨bs, As, ns, cs, rfl, hs⟩ := hs.op; have Lr2 := Lr.below k2; have cc := Lr2.cell; have cf := Lr2.frz))
  all_goals
    clear KS Lr
    go_wp2_with fail
    refine bodyPost_ret (by simp [results, Tryz.results103, go_sem, cc, cf] <;> rfl) rfl ⟨_, rfl, IntV.stored (g := w.heap.size + 1 + 1) (Y := Old w) hs (by simp only [Old]; omega) _ _ (by intro b _ hb; simp only [Old] at hb ⊢; omega), below_set2 (hB0.trans (k2.mono (by omega))) (by omega) _ _⟩
end Go.Proofs.YtpeglenapmkdfaaGreat

/- Compare of package integer and of the reference. -/
namespace Go.Proofs.YtpeglenapmkdfaaGreat
open Go.RowKit
attribute [local go_sem ↓] Go.wp_at_zero Go.wp_at_succ
attribute [local go_sem] beq_self_eq_true

theorem sign_cases (a : Int) : (a < 0 ∧ a.sign = -1) ∨ (a = 0 ∧ a.sign = 0) ∨ (0 < a ∧ a.sign = 1) := by
  rcases Int.lt_trichotomy a 0 with h | h | h
  · exact Or.inl ⟨h, Int.sign_eq_neg_one_of_neg h⟩
  · exact Or.inr (Or.inl ⟨h, by rw [h]; rfl⟩)
  · exact Or.inr (Or.inr ⟨h, Int.sign_eq_one_of_pos h⟩)
theorem sv_cases (n : Bool) (xs : List Nat) : (sv n xs = (val xs : Nat)) ∨ (sv n xs = -((val xs : Nat) : Int)) := by
  cases n
  · exact Or.inl (sv_false xs)
  · exact Or.inr (sv_true xs)
theorem cmp_lt {a b : Int} (h : a.sign < b.sign) : (a - b).sign = -1 := by
  rcases sign_cases a with ⟨h1, e1⟩ | ⟨h1, e1⟩ | ⟨h1, e1⟩ <;> rcases sign_cases b with ⟨h2, e2⟩ | ⟨h2, e2⟩ | ⟨h2, e2⟩ <;> rw [e1, e2] at h <;>
    rcases sign_cases (a - b) with ⟨h3, e3⟩ | ⟨h3, e3⟩ | ⟨h3, e3⟩ <;> omega
theorem cmp_gt {a b : Int} (h : b.sign < a.sign) : (a - b).sign = 1 := by
  rcases sign_cases a with ⟨h1, e1⟩ | ⟨h1, e1⟩ | ⟨h1, e1⟩ <;> rcases sign_cases b with ⟨h2, e2⟩ | ⟨h2, e2⟩ | ⟨h2, e2⟩ <;> rw [e1, e2] at h <;>
    rcases sign_cases (a - b) with ⟨h3, e3⟩ | ⟨h3, e3⟩ | ⟨h3, e3⟩ <;> omega
theorem cmp_eq {n1 n2 : Bool} {xs ys : List Nat} (h : (sv n1 xs).sign = (sv n2 ys).sign) : (sv n1 xs).sign * cmpN (val xs) (val ys) = (sv n1 xs - sv n2 ys).sign := by
  have hc : (val xs < val ys ∧ cmpN (val xs) (val ys) = -1) ∨ (val xs = val ys ∧ cmpN (val xs) (val ys) = 0) ∨ (val ys < val xs ∧ cmpN (val xs) (val ys) = 1) := by
    rcases Nat.lt_trichotomy (val xs) (val ys) with h | h | h
    · exact Or.inl ⟨h, cmpN_lt h⟩
    · exact Or.inr (Or.inl ⟨h, cmpN_eq h⟩)
    · exact Or.inr (Or.inr ⟨h, cmpN_gt h⟩)
  have a1 := sv_cases n1 xs
  have a2 := sv_cases n2 ys
  generalize sv n1 xs = a at *
  generalize sv n2 ys = b at *
  rcases sign_cases a with ⟨h1, e1⟩ | ⟨h1, e1⟩ | ⟨h1, e1⟩ <;> rcases sign_cases b with ⟨h2, e2⟩ | ⟨h2, e2⟩ | ⟨h2, e2⟩ <;> rw [e1] at h ⊢ <;> rw [e2] at h <;>
    rcases sign_cases (a - b) with ⟨h3, e3⟩ | ⟨h3, e3⟩ | ⟨h3, e3⟩ <;> rw [e3] <;> rcases hc with ⟨h4, e4⟩ | ⟨h4, e4⟩ | ⟨h4, e4⟩ <;> rw [e4] <;> omega

theorem add_len (a b : Int) (k : Nat) (ha : (dig a.natAbs).length ≤ k) (hb : (dig b.natAbs).length ≤ k) : (dig (a + b).natAbs).length ≤ k + 1 := by
  have h1 := val_lt (can_dig a.natAbs).1
  have h2 := val_lt (can_dig b.natAbs).1
  rw [val_dig] at h1 h2
  have h3 : 4294967296 ^ (dig a.natAbs).length ≤ 4294967296 ^ k := Nat.pow_le_pow_right (by omega) ha
  have h4 : 4294967296 ^ (dig b.natAbs).length ≤ 4294967296 ^ k := Nat.pow_le_pow_right (by omega) hb
  refine dig_len_le ?_
  rw [Nat.pow_succ]
  omega
theorem sub_len (a b : Int) (k : Nat) (ha : (dig a.natAbs).length ≤ k) (hb : (dig b.natAbs).length ≤ k) : (dig (a - b).natAbs).length ≤ k + 1 := by
  rw [Int.sub_eq_add_neg]
  exact add_len a (-b) k ha (by rw [Int.natAbs_neg]; exact hb)
theorem sv_len (n : Bool) (xs : List Nat) (h : Ws xs) : (dig (sv n xs).natAbs).length ≤ xs.length := by rw [sv_abs]; exact dig_len_le (val_lt h)

set_option maxHeartbeats 2000000 in
theorem icompare_any (w : World) (X : Nat → Prop) (v1 v2 : Value) (n1 n2 : Bool) (xs ys : List Nat) (h1 : IntR w X v1 n1 xs) (h2 : IntR w X v2 n2 ys) :
    Calls Tryz.prog 97 #[v1, v2] w fun e w' => e = .returned (.int .i64 (sv n1 xs - sv n2 ys).sign) ∧ Below w.heap.size w w' := by
  obtain ⟨A, c, rfl, _, _, H1⟩ := h1.open_
  obtain ⟨B, d, rfl, _, _, H2⟩ := h2.open_
  have HC1 := Lib.hid (can_trimL H1.2)
  have HC2 := Lib.hid (can_trimL H2.2)
  have c1 := cmp_lt (a := sv n1 xs) (b := sv n2 ys)
  have c2 := cmp_gt (a := sv n1 xs) (b := sv n2 ys)
  have c3 := cmp_eq (n1 := n1) (n2 := n2) (xs := xs) (ys := ys)
  have hsa := sign_cases (sv n1 xs)
  have hsb := sign_cases (sv n2 ys)
  have hv : cmpN (val (trimL xs)) (val (trimL ys)) = cmpN (val xs) (val ys) := by rw [val_trimL, val_trimL]
  have HV := Lib.hid hv
  have hbr : -1 ≤ (sv n1 xs - sv n2 ys).sign ∧ (sv n1 xs - sv n2 ys).sign ≤ 1 := by
    rcases sign_cases (sv n1 xs - sv n2 ys) with ⟨_, e⟩ | ⟨_, e⟩ | ⟨_, e⟩ <;> rw [e] <;> omega
  generalize hr : (sv n1 xs - sv n2 ys).sign = r at *
  generalize hs1 : (sv n1 xs).sign = s1 at *
  generalize hs2 : (sv n2 ys).sign = s2 at *
  generalize cmpN (val xs) (val ys) = cm at *
  have hb1 : -1 ≤ s1 ∧ s1 ≤ 1 := by omega
  have hb2 : -1 ≤ s2 ∧ s2 ≤ 1 := by omega
  have G1 := Lib.hid hs1
  have G2 := Lib.hid hs2
  have C1 := Lib.hid c1
  have C2 := Lib.hid c2
  have C3 := Lib.hid c3
  clear hr hs1 hs2 hsa hsb c1 c2 c3 hv
  go_enter Tryz.func97, Tryz.ntmps97
  go_wp2_with fail
  have K1 := (H1.weak (Y := fun _ => False) (fun _ _ h => h.elim)).below (below2 w (.cells #[.bool n1, .slice A xs.length c] 42) (.cells #[.bool n2, .slice B ys.length d] 42))
  have K2 := (H2.weak (Y := fun _ => False) (fun _ _ h => h.elim)).below (below2 w (.cells #[.bool n1, .slice A xs.length c] 42) (.cells #[.bool n2, .slice B ys.length d] 42))
  obtain ⟨La, Lb, hB0, hsz0⟩ := locs2 (c1 := #[.bool n1, .slice A xs.length c]) (c2 := #[.bool n2, .slice B ys.length d]) (t1 := 42) (t2 := 42) (Below.refl _ ((w.alloc _).alloc _))
  generalize ((w.alloc (.cells #[.bool n1, .slice A xs.length c] 42)).alloc (.cells #[.bool n2, .slice B ys.length d] 42)) = w0 at *
  clear H1 H2 h1 h2
  have KS : Hid (∀ W, Below w0.heap.size w0 W → ((W.cell? ⟨w.heap.size, 0, none⟩ = some (.bool n1) ∧ W.cell? ⟨w.heap.size, 1, none⟩ = some (.slice A xs.length c)) ∧ W.cell? ⟨w.heap.size + 1, 0, none⟩ = some (.bool n2) ∧ W.cell? ⟨w.heap.size + 1, 1, none⟩ = some (.slice B ys.length d))) := fun W hW => cells_of ⟨La.below hW, Lb.below hW⟩
  go_region_held3 (fun W => ((W.cell? ⟨w.heap.size, 0, none⟩ = some (.bool n1) ∧ W.cell? ⟨w.heap.size, 1, none⟩ = some (.slice A xs.length c)) ∧ W.cell? ⟨w.heap.size + 1, 0, none⟩ = some (.bool n2) ∧ W.cell? ⟨w.heap.size + 1, 1, none⟩ = some (.slice B ys.length d)))
    (first | exact KS.out _ k2 | exact KS.out _ k1 | exact KS.out _ (Below.refl _ _).drew)
    (first
      | (go_at_call_of 96 (Value.agg #[Value.bool n1, Value.slice A xs.length c]); refine (sign_any _ (fun _ => False) _ n1 xs ⟨_, rfl, K1.below (Below.refl _ _).drew⟩).mono ?_; rintro e wa ⟨he, hka⟩; rw [G1.out] at he; subst he; have k1 := below_undrew hka)
      | (go_at_call_of 96 (Value.agg #[Value.bool n2, Value.slice B ys.length d]); refine (sign_any _ (fun _ => False) _ n2 ys ⟨_, rfl, K2.below k1⟩).mono ?_; rintro e wb ⟨he, hkb⟩; rw [G2.out] at he; subst he; have k2 := k1.trans (hkb.mono k1.size)))
  all_goals
    have hBn := hB0.trans (k2.mono (by omega))
    have Ka := K1.below k2
    have Kb := K2.below k2
    have La2 := La.below k2
    have Lb2 := Lb.below k2
    clear K1 K2 La Lb KS k1 hka hkb
    by_cases hlt : s1 < s2
    · have HR := Lib.hid (C1.out hlt)
      go_wp2_with fail
      go_ret
      exact ⟨ret_eq (int_eq HR.out.symm), hBn⟩
    · by_cases hgt : s2 < s1
      · have HR := Lib.hid (C2.out hgt)
        go_wp2_with fail
        go_ret
        exact ⟨ret_eq (int_eq HR.out.symm), hBn⟩
      · obtain rfl : s1 = s2 := by omega
        have HR := Lib.hid (C3.out rfl)
        have KS : Hid (∀ W, Below wb.heap.size wb W → ((W.cell? ⟨w.heap.size, 0, none⟩ = some (.bool n1) ∧ W.cell? ⟨w.heap.size, 1, none⟩ = some (.slice A xs.length c)) ∧ W.cell? ⟨w.heap.size + 1, 0, none⟩ = some (.bool n2) ∧ W.cell? ⟨w.heap.size + 1, 1, none⟩ = some (.slice B ys.length d))) := fun W hW => cells_of ⟨La2.below hW, Lb2.below hW⟩
        go_wp2_with fail
        go_region_held3 (fun W => ((W.cell? ⟨w.heap.size, 0, none⟩ = some (.bool n1) ∧ W.cell? ⟨w.heap.size, 1, none⟩ = some (.slice A xs.length c)) ∧ W.cell? ⟨w.heap.size + 1, 0, none⟩ = some (.bool n2) ∧ W.cell? ⟨w.heap.size + 1, 1, none⟩ = some (.slice B ys.length d)))
          (first | exact KS.out _ (Below.refl _ _).drew | exact KS.out _ (below_drewN (Below.refl _ _) _))
          (first
            | (go_at_call_of 109 (Value.slice A xs.length c); refine (trim_any _ (fun _ => False) (.slice A xs.length c) xs (Ka.below (Below.refl _ _).drew)).mono ?_; rintro e w' ⟨va, rfl, ha, rfl⟩)
            | (go_at_call_of 109 (Value.slice B ys.length d); refine (trim_any _ (fun _ => False) (.slice B ys.length d) ys (Kb.below (Below.refl _ _).drew)).mono ?_; rintro e w' ⟨vb, rfl, hb, rfl⟩)
            | (go_at_call 111; refine (compare_any _ (fun _ => False) va vb _ _ ha hb HC1.out HC2.out).mono ?_; rintro e w' ⟨he, n, rfl⟩; rw [HV.out] at he; subst he))
        all_goals
          try go_wp2_with fail
          go_ret
          refine ⟨ret_eq (int_eq ?_), hBn.trans ((below_drewN (Below.refl _ _) _).mono hBn.size)⟩
          rw [HR.out, IntKind.wrap_i64]
          omega
end Go.Proofs.YtpeglenapmkdfaaGreat

