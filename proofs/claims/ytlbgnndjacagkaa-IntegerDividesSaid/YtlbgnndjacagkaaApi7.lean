/- Add and Sub of the reference. -/
import Derived.Test.YtlbgnndjacagkaaRows
import Derived.Test.YtlbgnndjacagkaaApi6
import Derived.Test.YtlbgnndjacagkaaApi5
import Derived.Test.YtlbgnndjacagkaaRef2
import Derived.Deep.RegionHeld3
import Derived.Deep.DrawnRows
namespace Go.Proofs.Ytlbgnndjacagkaa
open Go.RowKit
attribute [local go_sem ↓] Go.wp_at_zero Go.wp_at_succ
attribute [local go_sem] beq_self_eq_true

theorem val_add_lt {xs ys : List Nat} (hx : Ws xs) (hy : Ws ys) : val xs + val ys < 4294967296 ^ (xs.length + ys.length + 1) := by
  have h1 := val_lt hx
  have h2 := val_lt hy
  have h3 : 4294967296 ^ xs.length ≤ 4294967296 ^ (xs.length + ys.length) := Nat.pow_le_pow_right (by omega) (by omega)
  have h4 : 4294967296 ^ ys.length ≤ 4294967296 ^ (xs.length + ys.length) := Nat.pow_le_pow_right (by omega) (by omega)
  rw [Nat.pow_succ]
  omega

set_option maxHeartbeats 2000000 in
theorem radd_any (w : World) (X : Nat → Prop) (v1 v2 : Value) (n1 n2 : Bool) (xs ys : List Nat) (h1 : IntR w X v1 n1 xs) (h2 : IntR w X v2 n2 ys) (hs1 : xs.length ≤ 400000000000) (hs2 : ys.length ≤ 400000000000) :
    Calls Try.prog 39 #[v1, v2] w fun e w' => ∃ v', e = .returned v' ∧ IntV w' (Old w) v' (sv n1 xs + sv n2 ys) ∧ Below w.heap.size w w' := by
  obtain ⟨A, c, rfl, _, _, H1⟩ := h1.open_
  obtain ⟨B, d, rfl, _, _, H2⟩ := h2.open_
  have l1 := trimL_len xs
  have l2 := trimL_len ys
  have HL1 := Lib.hid (fun h : val (trimL ys) ≤ val (trimL xs) => trim_len_le H1.2 H2.2 (by rwa [val_trimL, val_trimL] at h))
  have HL2 := Lib.hid (fun h : val (trimL xs) ≤ val (trimL ys) => trim_len_le H2.2 H1.2 (by rwa [val_trimL, val_trimL] at h))
  have hv1 := val_trimL xs
  have hv2 := val_trimL ys
  have HV1 := Lib.hid hv1
  have HV2 := Lib.hid hv2
  have HC1 := Lib.hid (can_trimL H1.2)
  have HC2 := Lib.hid (can_trimL H2.2)
  clear hv1 hv2
  rw [← sv_trim n1 xs, ← sv_trim n2 ys]
  generalize hz : sv n1 (trimL xs) + sv n2 (trimL ys) = z
  have HZ := Lib.hid hz
  clear hz
  go_enter Try.func39, Try.ntmps39
  go_wp2_with fail
  have KS := boxes3 w #[.bool n1, .slice A xs.length c] #[.bool n2, .slice B ys.length d] #[.bool false, .slice none 0 0] 24 24 24
  have K1 := (H1.weak (Y := fun _ => False) (fun _ _ h => h.elim)).below (below3 w (.cells #[.bool n1, .slice A xs.length c] 24) (.cells #[.bool n2, .slice B ys.length d] 24) (.cells #[.bool false, .slice none 0 0] 24))
  have K2 := (H2.weak (Y := fun _ => False) (fun _ _ h => h.elim)).below (below3 w (.cells #[.bool n1, .slice A xs.length c] 24) (.cells #[.bool n2, .slice B ys.length d] 24) (.cells #[.bool false, .slice none 0 0] 24))
  obtain ⟨-, -, Lr, hB0, hsz0⟩ := locs3 (c1 := #[.bool n1, .slice A xs.length c]) (c2 := #[.bool n2, .slice B ys.length d]) (c3 := #[.bool false, .slice none 0 0]) (t1 := 24) (t2 := 24) (t3 := 24) (Below.refl _ (((w.alloc _).alloc _).alloc _))
  generalize (((w.alloc (.cells #[.bool n1, .slice A xs.length c] 24)).alloc (.cells #[.bool n2, .slice B ys.length d] 24)).alloc (.cells #[.bool false, .slice none 0 0] 24)) = w0 at *
  clear H1 H2 h1 h2
  go_region_held3 (fun w' => w'.cell? ⟨w.heap.size, 0, none⟩ = some (.bool n1) ∧ w'.cell? ⟨w.heap.size, 1, none⟩ = some (.slice A xs.length c) ∧ w'.cell? ⟨w.heap.size + 1, 0, none⟩ = some (.bool n2) ∧ w'.cell? ⟨w.heap.size + 1, 1, none⟩ = some (.slice B ys.length d))
    (first | exact (fun K => ⟨K.1.cell 0, K.1.cell 1, K.2.cell 0, K.2.cell 1⟩) (KS.out _ (k9.mono (by omega))) | exact (fun K => ⟨K.1.cell 0, K.1.cell 1, K.2.cell 0, K.2.cell 1⟩) (KS.out _ (ka.mono (by omega))) | exact (fun K => ⟨K.1.cell 0, K.1.cell 1, K.2.cell 0, K.2.cell 1⟩) (KS.out _ (kb.mono (by omega))) | exact (fun K => ⟨K.1.cell 0, K.1.cell 1, K.2.cell 0, K.2.cell 1⟩) (KS.out _ (Below.refl _ _).drew))
    (first
      | (go_at_call_of 51 (Value.slice A xs.length c); refine (rtrim_any _ (fun _ => False) (.slice A xs.length c) xs (K1.below (by first | exact kb | exact (Below.refl _ _).drew)) (by omega)).mono ?_; rintro e wa ⟨va, rfl, ha, hka⟩; have ka : Below w0.heap.size w0 wa := (by first | exact kb.trans (hka.mono kb.size) | exact undrew hka); have k9 := ka)
      | (go_at_call_of 51 (Value.slice B ys.length d); refine (rtrim_any _ (fun _ => False) (.slice B ys.length d) ys (K2.below (by first | exact ka | exact (Below.refl _ _).drew)) (by omega)).mono ?_; rintro e wb ⟨vb, rfl, hb, hkb⟩; have kb : Below w0.heap.size w0 wb := (by first | exact ka.trans (hkb.mono ka.size) | exact undrew hkb); have k9 := kb))
  all_goals
    first
      | (have ha1 := (ha.below hkb).weak (Y := fun _ => False) (fun _ _ h => h.elim)
         have hb1 := hb.weak (Y := fun _ => False) (fun _ _ h => h.elim)
         have k0 := kb
         clear ha hb ka kb hka hkb k9
         generalize wb = w1 at *)
      | (have ha1 := ha.weak (Y := fun _ => False) (fun _ _ h => h.elim)
         have hb1 := (hb.below hka).weak (Y := fun _ => False) (fun _ _ h => h.elim)
         have k0 := ka
         clear ha hb ka kb hka hkb k9
         generalize wa = w1 at *)
    have ha := ha1
    have hb := hb1
    clear ha1 hb1
    have KS1 : Hid (∀ W, Below (w.heap.size + 1 + 1) w1 W → Loc W w.heap.size 24 #[.bool n1, .slice A xs.length c] ∧ Loc W (w.heap.size + 1) 24 #[.bool n2, .slice B ys.length d]) := fun W hW => KS.out W ((k0.mono (by omega)).trans hW)
    have hB1 : Below w.heap.size w w1 := hB0.trans (k0.mono hB0.size)
    have Lr1 := Lr.below k0
    have hsz1 : w.heap.size + 3 ≤ w1.heap.size := by have := k0.size; omega
    clear KS K1 K2 hB0 Lr hsz0 k0
    have k2 := KS1.out w1 (Below.refl _ _)
    have ca := k2.1.cell
    have cb := k2.2.cell
    clear k2
    clear HV1 HV2
    generalize trimL xs = es at *
    generalize trimL ys = fs at *
    by_cases hn : n1 = n2
    · subst hn
      go_wp2_with fail
      go_region_held3 (fun w' => (w'.cell? ⟨w.heap.size, 0, none⟩ = some (.bool n1) ∧ w'.cell? ⟨w.heap.size, 1, none⟩ = some (.slice A xs.length c)) ∧ w'.cell? ⟨w.heap.size + 1, 0, none⟩ = some (.bool n1) ∧ w'.cell? ⟨w.heap.size + 1, 1, none⟩ = some (.slice B ys.length d))
        (first | exact cells_of (KS1.out _ (((k2.mono (by omega)).setCell (by simp) _).setCell (by simp) _)) | exact cells_of (KS1.out _ (k2.mono (by omega))) | exact cells_of (KS1.out _ (k1.mono (by omega))) | exact cells_of (KS1.out _ (Below.refl _ _).drew) | go_keep)
        (first
          | (go_at_call 56; refine (addWords_any _ (fun _ => False) va vb es fs (ha.below (Below.refl _ _).drew) (hb.below (Below.refl _ _).drew) (by omega)).mono ?_; rintro e w2 ⟨v', rfl, hp, hb2⟩; have k1 := below_undrew hb2)
          | (go_at_call 50; refine (made_any _ (fun _ => False) _ v' _ (hp.weak (fun _ _ h => h.elim)) (Nat.le_trans (dig_len_le (val_add_lt ha.2 hb.2)) (by omega))).mono ?_; rintro e w3 ⟨vs, rfl, hs, hb3⟩; have k2 := k1.trans (hb3.mono k1.size); have hk1 := k1.size; rw [sv_add_same _ es fs _ (val_dig _), HZ.out] at hs; obtain ⟨bs, As, ns, cs, rfl, Hs⟩ := hs.op; have Lr2 := Lr1.below k2; have cc := Lr2.cell; have cf := Lr2.frz))
      all_goals
        clear HL1 HL2 HC1 HC2 KS1 ca cb Lr1
        go_wp2_with fail
        refine bodyPost_ret (by simp [results, Try.results39, go_sem, cc, cf] <;> rfl) rfl ⟨_, rfl, IntV.stored (g := w.heap.size + 1 + 1) (Y := Old w) hs (by simp only [Old]; omega) _ _ (by intro b _ hb; simp only [Old] at hb ⊢; omega), below_set2 (hB1.trans (k2.mono (by omega))) (by omega) _ _⟩
    · have hn' : (n1 == n2) = false := by simpa using hn
      clear hn
      by_cases hlt : val es < val fs
      · have hcmp := cmpN_lt hlt
        have hlen := HL2.out (by omega)
        have HCM := Lib.hid hcmp
        have HLEN := Lib.hid hlen
        have HLT := Lib.hid hlt
        clear hcmp hlen HL1 HL2 hlt
        go_wp2_with fail
        refine (compareWords_any _ (fun _ => False) va vb es fs ha hb HC1.out HC2.out).mono ?_
        rintro e w' ⟨he, n, rfl⟩
        rw [HCM.out] at he
        subst he
        go_wp2_with fail
        go_region_held3 (fun w' => (w'.cell? ⟨w.heap.size, 0, none⟩ = some (.bool n1) ∧ w'.cell? ⟨w.heap.size, 1, none⟩ = some (.slice A xs.length c)) ∧ w'.cell? ⟨w.heap.size + 1, 0, none⟩ = some (.bool n2) ∧ w'.cell? ⟨w.heap.size + 1, 1, none⟩ = some (.slice B ys.length d))
          (first | exact cells_of (KS1.out _ (((k2.mono (by omega)).setCell (by simp) _).setCell (by simp) _)) | exact cells_of (KS1.out _ (k2.mono (by omega))) | exact cells_of (KS1.out _ (k1.mono (by omega))) | exact cells_of (KS1.out _ (below_drewN (Below.refl _ _) n).drew) | go_keep)
          (first
            | (go_at_call 66; refine (subWords_any _ (fun _ => False) vb va fs es (hb.below (below_drewN (Below.refl _ _) n).drew) (ha.below (below_drewN (Below.refl _ _) n).drew) (by omega) (by have := HLT.out; omega) HLEN.out).mono ?_; rintro e w2 ⟨v', rfl, hp, hb2⟩; have k1 : Below w1.heap.size w1 w2 := undrewN (undrew hb2))
            | (go_at_call 50; refine (made_any _ (fun _ => False) _ v' _ (hp.weak (fun _ _ h => h.elim)) (Nat.le_trans (dig_len_le (Nat.lt_of_le_of_lt (Nat.sub_le _ _) (val_lt hb.2))) (by omega))).mono ?_; rintro e w3 ⟨vs, rfl, hs, hb3⟩; have k2 := k1.trans (hb3.mono k1.size); have hk1 := k1.size; rw [sv_sub2 n1 n2 hn' es fs _ (Nat.le_of_lt HLT.out) (val_dig _), HZ.out] at hs; obtain ⟨bs, As, ns, cs, rfl, Hs⟩ := hs.op; have Lr2 := Lr1.below k2; have cc := Lr2.cell; have cf := Lr2.frz))
        all_goals
          clear HC1 HC2 KS1 ca cb Lr1
          go_wp2_with fail
          refine bodyPost_ret (by simp [results, Try.results39, go_sem, cc, cf] <;> rfl) rfl ⟨_, rfl, IntV.stored (g := w.heap.size + 1 + 1) (Y := Old w) hs (by simp only [Old]; omega) _ _ (by intro b _ hb; simp only [Old] at hb ⊢; omega), below_set2 (hB1.trans (k2.mono (by omega))) (by omega) _ _⟩
      · obtain ⟨cm, hcc, hcm0⟩ : ∃ cm, cmpN (val es) (val fs) = cm ∧ 0 ≤ cm := ⟨_, rfl, cmpN_ge hlt⟩
        have hlen := HL1.out (by omega)
        have HCM := Lib.hid hcc
        have HLEN := Lib.hid hlen
        have HLT := Lib.hid hlt
        clear hcc hlen HL1 HL2 hlt
        go_wp2_with fail
        refine (compareWords_any _ (fun _ => False) va vb es fs ha hb HC1.out HC2.out).mono ?_
        rintro e w' ⟨he, n, rfl⟩
        rw [HCM.out] at he
        subst he
        go_wp2_with fail
        go_region_held3 (fun w' => (w'.cell? ⟨w.heap.size, 0, none⟩ = some (.bool n1) ∧ w'.cell? ⟨w.heap.size, 1, none⟩ = some (.slice A xs.length c)) ∧ w'.cell? ⟨w.heap.size + 1, 0, none⟩ = some (.bool n2) ∧ w'.cell? ⟨w.heap.size + 1, 1, none⟩ = some (.slice B ys.length d))
          (first | exact cells_of (KS1.out _ (((k2.mono (by omega)).setCell (by simp) _).setCell (by simp) _)) | exact cells_of (KS1.out _ (k2.mono (by omega))) | exact cells_of (KS1.out _ (k1.mono (by omega))) | exact cells_of (KS1.out _ (below_drewN (Below.refl _ _) n).drew) | go_keep)
          (first
            | (go_at_call 66; refine (subWords_any _ (fun _ => False) va vb es fs (ha.below (below_drewN (Below.refl _ _) n).drew) (hb.below (below_drewN (Below.refl _ _) n).drew) (by omega) (by have := HLT.out; omega) HLEN.out).mono ?_; rintro e w2 ⟨v', rfl, hp, hb2⟩; have k1 : Below w1.heap.size w1 w2 := undrewN (undrew hb2))
            | (go_at_call 50; refine (made_any _ (fun _ => False) _ v' _ (hp.weak (fun _ _ h => h.elim)) (Nat.le_trans (dig_len_le (Nat.lt_of_le_of_lt (Nat.sub_le _ _) (val_lt ha.2))) (by omega))).mono ?_; rintro e w3 ⟨vs, rfl, hs, hb3⟩; have k2 := k1.trans (hb3.mono k1.size); have hk1 := k1.size; rw [sv_sub1 n1 n2 hn' es fs _ (Nat.le_of_not_lt HLT.out) (val_dig _), HZ.out] at hs; obtain ⟨bs, As, ns, cs, rfl, Hs⟩ := hs.op; have Lr2 := Lr1.below k2; have cc := Lr2.cell; have cf := Lr2.frz))
        all_goals
          clear HC1 HC2 KS1 ca cb Lr1
          go_wp2_with fail
          refine bodyPost_ret (by simp [results, Try.results39, go_sem, cc, cf] <;> rfl) rfl ⟨_, rfl, IntV.stored (g := w.heap.size + 1 + 1) (Y := Old w) hs (by simp only [Old]; omega) _ _ (by intro b _ hb; simp only [Old] at hb ⊢; omega), below_set2 (hB1.trans (k2.mono (by omega))) (by omega) _ _⟩

set_option maxHeartbeats 1000000 in
theorem rsub_any (w : World) (X : Nat → Prop) (v1 v2 : Value) (n1 n2 : Bool) (xs ys : List Nat) (h1 : IntR w X v1 n1 xs) (h2 : IntR w X v2 n2 ys) (hs1 : xs.length ≤ 100000000000) (hs2 : ys.length ≤ 100000000000) :
    Calls Try.prog 40 #[v1, v2] w fun e w' => ∃ v', e = .returned v' ∧ IntV w' (Old w) v' (sv n1 xs - sv n2 ys) ∧ Below w.heap.size w w' := by
  obtain ⟨A, c, rfl, _, _, H1⟩ := h1.open_
  obtain ⟨B, d, rfl, _, _, H2⟩ := h2.open_
  have hlb : (dig (-(sv n2 ys)).natAbs).length ≤ ys.length := by rw [Int.natAbs_neg, sv_abs]; exact dig_len_le (val_lt H2.2)
  go_enter Try.func40, Try.ntmps40
  go_wp2_with fail
  have KS := boxes3 w #[.bool n1, .slice A xs.length c] #[.bool n2, .slice B ys.length d] #[.bool false, .slice none 0 0] 24 24 24
  have K1 := (H1.weak (Y := fun _ => False) (fun _ _ h => h.elim)).below (below3 w (.cells #[.bool n1, .slice A xs.length c] 24) (.cells #[.bool n2, .slice B ys.length d] 24) (.cells #[.bool false, .slice none 0 0] 24))
  have K2 := (H2.weak (Y := fun _ => False) (fun _ _ h => h.elim)).below (below3 w (.cells #[.bool n1, .slice A xs.length c] 24) (.cells #[.bool n2, .slice B ys.length d] 24) (.cells #[.bool false, .slice none 0 0] 24))
  obtain ⟨-, -, Lr, hB0, hsz0⟩ := locs3 (c1 := #[.bool n1, .slice A xs.length c]) (c2 := #[.bool n2, .slice B ys.length d]) (c3 := #[.bool false, .slice none 0 0]) (t1 := 24) (t2 := 24) (t3 := 24) (Below.refl _ (((w.alloc _).alloc _).alloc _))
  generalize (((w.alloc (.cells #[.bool n1, .slice A xs.length c] 24)).alloc (.cells #[.bool n2, .slice B ys.length d] 24)).alloc (.cells #[.bool false, .slice none 0 0] 24)) = w1 at *
  clear H1 H2 h1 h2
  go_region_held3 (fun w' => (w'.cell? ⟨w.heap.size, 0, none⟩ = some (.bool n1) ∧ w'.cell? ⟨w.heap.size, 1, none⟩ = some (.slice A xs.length c)) ∧ w'.cell? ⟨w.heap.size + 1, 0, none⟩ = some (.bool n2) ∧ w'.cell? ⟨w.heap.size + 1, 1, none⟩ = some (.slice B ys.length d))
    (first | exact cells_of (KS.out _ (((k2.mono (by omega)).setCell (by simp) _).setCell (by simp) _)) | exact cells_of (KS.out _ (k2.mono (by omega))) | exact cells_of (KS.out _ (k1.mono (by omega))) | exact cells_of (KS.out _ (Below.refl _ _).drew) | go_keep)
    (first
      | (go_at_call 28; refine (rneg_any _ (fun _ => False) _ n2 ys ⟨_, rfl, K2.below (Below.refl _ _).drew⟩ (by omega)).mono ?_; rintro e w2 ⟨vn, rfl, hn, hb2⟩; have k1 := below_undrew hb2; obtain ⟨bn, An, nn, cn, rfl, hn⟩ := hn.op)
      | (go_at_call 39; refine (radd_any _ (fun _ => False) _ _ _ _ _ _ ⟨_, rfl, K1.below k1⟩ (hn.weak (fun _ _ h => h.elim)) (by omega) (by omega)).mono ?_; rintro e w3 ⟨vs, rfl, hs, hb3⟩; have k2 := k1.trans (hb3.mono k1.size); have hk1 := k1.size; rw [sv_dig, ← Int.sub_eq_add_neg] at hs; obtain ⟨bs, As, ns, cs, rfl, hs⟩ := hs.op; have Lr2 := Lr.below k2; have cc := Lr2.cell; have cf := Lr2.frz))
  all_goals
    clear KS Lr
    go_wp2_with fail
    refine bodyPost_ret (by simp [results, Try.results40, go_sem, cc, cf] <;> rfl) rfl ⟨_, rfl, IntV.stored (g := w.heap.size + 1 + 1) (Y := Old w) hs (by simp only [Old]; omega) _ _ (by intro b _ hb; simp only [Old] at hb ⊢; omega), below_set2 (hB0.trans (k2.mono (by omega))) (by omega) _ _⟩
end Go.Proofs.Ytlbgnndjacagkaa
