/- Add and Sub of package integer. -/
import Derived.Test.YtlbgnndjacagkaaRows
import Derived.Test.YtlbgnndjacagkaaApi1
import Derived.Test.YtlbgnndjacagkaaInt2
import Derived.Test.YtlbgnndjacagkaaInt3
import Derived.Test.YtlbgnndjacagkaaInt5
import Derived.Deep.RegionHeld3
import Derived.Deep.DrawnRows
namespace Go.Proofs.Ytlbgnndjacagkaa
open Go.RowKit
attribute [local go_sem ↓] Go.wp_at_zero Go.wp_at_succ
attribute [local go_sem] beq_self_eq_true

theorem undrew {B : Nat} {w w2 : World} (h : Below B w.drew w2) : Below B w w2 := ⟨h.os, h.tape, h.output, h.size, h.block⟩
theorem undrewN {B n : Nat} {w w2 : World} (h : Below B (w.drewN n) w2) : Below B w w2 := ⟨h.os, h.tape, h.output, h.size, h.block⟩

theorem sv_add_same (n : Bool) (xs ys zs : List Nat) (h : val zs = val xs + val ys) : sv n zs = sv n xs + sv n ys := by
  unfold sv; split <;> omega
theorem sv_sub1 (n m : Bool) (hn : (n == m) = false) (xs ys zs : List Nat) (hl : val ys ≤ val xs) (h : val zs = val xs - val ys) : sv n zs = sv n xs + sv m ys := by
  cases n <;> cases m <;> simp at hn <;> simp only [sv_false, sv_true] <;> omega
theorem sv_sub2 (n m : Bool) (hn : (n == m) = false) (xs ys zs : List Nat) (hl : val xs ≤ val ys) (h : val zs = val ys - val xs) : sv m zs = sv n xs + sv m ys := by
  cases n <;> cases m <;> simp at hn <;> simp only [sv_false, sv_true] <;> omega
theorem trim_len_le {xs ys : List Nat} (hx : Ws xs) (hy : Ws ys) (h : val ys ≤ val xs) : (trimL ys).length ≤ (trimL xs).length := by
  rw [trimL_dig hx, trimL_dig hy]; exact dig_len_mono h

theorem cmpN_ge {a b : Nat} (h : ¬ a < b) : 0 ≤ cmpN a b := by
  unfold cmpN; rw [if_neg h]; split <;> omega
theorem cells_of {W : World} {g h : Nat} {t t' : TypeId} {a b c d : Value} (K : Loc W g t #[a, b] ∧ Loc W h t' #[c, d]) :
    (W.cell? ⟨g, 0, none⟩ = some a ∧ W.cell? ⟨g, 1, none⟩ = some b) ∧ W.cell? ⟨h, 0, none⟩ = some c ∧ W.cell? ⟨h, 1, none⟩ = some d :=
  ⟨⟨K.1.cell 0, K.1.cell 1⟩, K.2.cell 0, K.2.cell 1⟩

set_option maxHeartbeats 2000000 in
theorem add_any (w : World) (X : Nat → Prop) (v1 v2 : Value) (n1 n2 : Bool) (xs ys : List Nat) (h1 : IntR w X v1 n1 xs) (h2 : IntR w X v2 n2 ys) (hs1 : xs.length ≤ 1000000000000) (hs2 : ys.length ≤ 1000000000000) :
    Calls Try.prog 37 #[v1, v2] w fun e w' => ∃ v', e = .returned v' ∧ IntV w' (Old w) v' (sv n1 xs + sv n2 ys) ∧ Below w.heap.size w w' := by
  obtain ⟨A, c, rfl, _, _, H1⟩ := h1.open_
  obtain ⟨B, d, rfl, _, _, H2⟩ := h2.open_
  have l1 := trimL_len xs
  have l2 := trimL_len ys
  have HL1 := Lib.hid (fun h : val (trimL ys) ≤ val (trimL xs) => trim_len_le H1.2 H2.2 (by rwa [val_trimL, val_trimL] at h))
  have HL2 := Lib.hid (fun h : val (trimL xs) ≤ val (trimL ys) => trim_len_le H2.2 H1.2 (by rwa [val_trimL, val_trimL] at h))
  have hv1 := val_trimL xs
  have hv2 := val_trimL ys
  have HV1 := Lib.hid hv1
  have HV2 := Lib.hid hv2
  have HC1 := Lib.hid (can_trimL H1.2)
  have HC2 := Lib.hid (can_trimL H2.2)
  clear hv1 hv2
  rw [← sv_trim n1 xs, ← sv_trim n2 ys]
  generalize hz : sv n1 (trimL xs) + sv n2 (trimL ys) = z
  have HZ := Lib.hid hz
  clear hz
  go_enter Try.func37, Try.ntmps37
  go_wp2_with fail
  have KS := boxes3 w #[.bool n1, .slice A xs.length c] #[.bool n2, .slice B ys.length d] #[.bool false, .slice none 0 0] 24 24 24
  have K1 := (H1.weak (Y := fun _ => False) (fun _ _ h => h.elim)).below (below3 w (.cells #[.bool n1, .slice A xs.length c] 24) (.cells #[.bool n2, .slice B ys.length d] 24) (.cells #[.bool false, .slice none 0 0] 24))
  have K2 := (H2.weak (Y := fun _ => False) (fun _ _ h => h.elim)).below (below3 w (.cells #[.bool n1, .slice A xs.length c] 24) (.cells #[.bool n2, .slice B ys.length d] 24) (.cells #[.bool false, .slice none 0 0] 24))
  obtain ⟨-, -, Lr, hB0, hsz0⟩ := locs3 (c1 := #[.bool n1, .slice A xs.length c]) (c2 := #[.bool n2, .slice B ys.length d]) (c3 := #[.bool false, .slice none 0 0]) (t1 := 24) (t2 := 24) (t3 := 24) (Below.refl _ (((w.alloc _).alloc _).alloc _))
  generalize (((w.alloc (.cells #[.bool n1, .slice A xs.length c] 24)).alloc (.cells #[.bool n2, .slice B ys.length d] 24)).alloc (.cells #[.bool false, .slice none 0 0] 24)) = w0 at *
  clear H1 H2 h1 h2
  go_region_held3 (fun w' => w'.cell? ⟨w.heap.size, 0, none⟩ = some (.bool n1) ∧ w'.cell? ⟨w.heap.size, 1, none⟩ = some (.slice A xs.length c) ∧ w'.cell? ⟨w.heap.size + 1, 0, none⟩ = some (.bool n2) ∧ w'.cell? ⟨w.heap.size + 1, 1, none⟩ = some (.slice B ys.length d))
    (first | exact (fun K => ⟨K.1.cell 0, K.1.cell 1, K.2.cell 0, K.2.cell 1⟩) (KS.out _ (Below.refl _ _).drew))
    (first
      | (go_at_call_of 48 (Value.slice A xs.length c); refine (trim_any _ (fun _ => False) (.slice A xs.length c) xs (K1.below (Below.refl _ _).drew)).mono ?_; rintro e w' ⟨va, rfl, ha, rfl⟩)
      | (go_at_call_of 48 (Value.slice B ys.length d); refine (trim_any _ (fun _ => False) (.slice B ys.length d) ys (K2.below (Below.refl _ _).drew)).mono ?_; rintro e w' ⟨vb, rfl, hb, rfl⟩))
  all_goals
    have KS1 : Hid (∀ W, Below (w.heap.size + 1 + 1) w0.drew W → Loc W w.heap.size 24 #[.bool n1, .slice A xs.length c] ∧ Loc W (w.heap.size + 1) 24 #[.bool n2, .slice B ys.length d]) := fun W hW => KS.out W (undrew hW)
    have hB1 : Below w.heap.size w w0.drew := hB0.drew
    have Lr1 : Loc w0.drew (w.heap.size + 1 + 1) 24 #[.bool false, .slice none 0 0] := Lr
    have hsz1 : w.heap.size + 3 ≤ w0.drew.heap.size := hsz0
    clear KS K1 K2 hB0 Lr hsz0
    generalize w0.drew = w1 at *
    clear w0
    have k2 := KS1.out w1 (Below.refl _ _)
    have ca := k2.1.cell
    have cb := k2.2.cell
    clear k2
    clear HV1 HV2
    generalize trimL xs = es at *
    generalize trimL ys = fs at *
    by_cases hn : n1 = n2
    · subst hn
      go_wp2_with fail
      go_region_held3 (fun w' => (w'.cell? ⟨w.heap.size, 0, none⟩ = some (.bool n1) ∧ w'.cell? ⟨w.heap.size, 1, none⟩ = some (.slice A xs.length c)) ∧ w'.cell? ⟨w.heap.size + 1, 0, none⟩ = some (.bool n1) ∧ w'.cell? ⟨w.heap.size + 1, 1, none⟩ = some (.slice B ys.length d))
        (first | exact cells_of (KS1.out _ (((k2.mono (by omega)).setCell (by simp) _).setCell (by simp) _)) | exact cells_of (KS1.out _ (k2.mono (by omega))) | exact cells_of (KS1.out _ (k1.mono (by omega))) | exact cells_of (KS1.out _ (Below.refl _ _).drew) | go_keep)
        (first
          | (go_at_call 54; refine (plus_any _ (fun _ => False) va vb es fs (ha.below (Below.refl _ _).drew) (hb.below (Below.refl _ _).drew) (by omega) (by omega)).mono ?_; rintro e w2 ⟨v', zs, rfl, hp, hv, hl, hb2⟩; have HV := Lib.hid hv; have HL := Lib.hid hl; clear hv hl; have k1 := below_undrew hb2)
          | (go_at_call 47; refine (signed_any _ (fun _ => False) _ v' zs (hp.weak (fun _ _ h => h.elim)) (by have := HL.out; omega)).mono ?_; rintro e w3 ⟨vs, rfl, hs, hb3⟩; have k2 := k1.trans (hb3.mono k1.size); have hk1 := k1.size; rw [sv_add_same _ es fs zs HV.out, HZ.out] at hs; obtain ⟨bs, As, ns, cs, rfl, Hs⟩ := hs.op; have Lr2 := Lr1.below k2; have cc := Lr2.cell; have cf := Lr2.frz))
      all_goals
        clear HL1 HL2 HC1 HC2 KS1 ca cb Lr1
        go_wp2_with fail
        refine bodyPost_ret (by simp [results, Try.results37, go_sem, cc, cf] <;> rfl) rfl ⟨_, rfl, IntV.stored (g := w.heap.size + 1 + 1) (Y := Old w) hs (by simp only [Old]; omega) _ _ (by intro b _ hb; simp only [Old] at hb ⊢; omega), below_set2 (hB1.trans (k2.mono (by omega))) (by omega) _ _⟩
    · have hn' : (n1 == n2) = false := by simpa using hn
      clear hn
      by_cases hlt : val es < val fs
      · have hcmp := cmpN_lt hlt
        have hlen := HL2.out (by omega)
        have HCM := Lib.hid hcmp
        have HLEN := Lib.hid hlen
        have HLT := Lib.hid hlt
        clear hcmp hlen HL1 HL2 hlt
        go_wp2_with fail
        refine (compare_any _ (fun _ => False) va vb es fs ha hb HC1.out HC2.out).mono ?_
        rintro e w' ⟨he, n, rfl⟩
        rw [HCM.out] at he
        subst he
        go_wp2_with fail
        go_region_held3 (fun w' => (w'.cell? ⟨w.heap.size, 0, none⟩ = some (.bool n1) ∧ w'.cell? ⟨w.heap.size, 1, none⟩ = some (.slice A xs.length c)) ∧ w'.cell? ⟨w.heap.size + 1, 0, none⟩ = some (.bool n2) ∧ w'.cell? ⟨w.heap.size + 1, 1, none⟩ = some (.slice B ys.length d))
          (first | exact cells_of (KS1.out _ (((k2.mono (by omega)).setCell (by simp) _).setCell (by simp) _)) | exact cells_of (KS1.out _ (k2.mono (by omega))) | exact cells_of (KS1.out _ (k1.mono (by omega))) | exact cells_of (KS1.out _ (below_drewN (Below.refl _ _) n).drew) | go_keep)
          (first
            | (go_at_call 64; refine (minus_any _ (fun _ => False) vb va fs es (hb.below (below_drewN (Below.refl _ _) n).drew) (ha.below (below_drewN (Below.refl _ _) n).drew) (by omega) (by have := HLT.out; omega) HLEN.out).mono ?_; rintro e w2 ⟨v', zs, rfl, hp, hv, hl, hb2⟩; have HV := Lib.hid hv; have HL := Lib.hid hl; clear hv hl; have k1 : Below w1.heap.size w1 w2 := undrewN (undrew hb2))
            | (go_at_call 47; refine (signed_any _ (fun _ => False) _ v' zs (hp.weak (fun _ _ h => h.elim)) (by have := HL.out; omega)).mono ?_; rintro e w3 ⟨vs, rfl, hs, hb3⟩; have k2 := k1.trans (hb3.mono k1.size); have hk1 := k1.size; rw [sv_sub2 n1 n2 hn' es fs zs (Nat.le_of_lt HLT.out) HV.out, HZ.out] at hs; obtain ⟨bs, As, ns, cs, rfl, Hs⟩ := hs.op; have Lr2 := Lr1.below k2; have cc := Lr2.cell; have cf := Lr2.frz))
        all_goals
          clear HC1 HC2 KS1 ca cb Lr1
          go_wp2_with fail
          refine bodyPost_ret (by simp [results, Try.results37, go_sem, cc, cf] <;> rfl) rfl ⟨_, rfl, IntV.stored (g := w.heap.size + 1 + 1) (Y := Old w) hs (by simp only [Old]; omega) _ _ (by intro b _ hb; simp only [Old] at hb ⊢; omega), below_set2 (hB1.trans (k2.mono (by omega))) (by omega) _ _⟩
      · obtain ⟨cm, hcc, hcm0⟩ : ∃ cm, cmpN (val es) (val fs) = cm ∧ 0 ≤ cm := ⟨_, rfl, cmpN_ge hlt⟩
        have hlen := HL1.out (by omega)
        have HCM := Lib.hid hcc
        have HLEN := Lib.hid hlen
        have HLT := Lib.hid hlt
        clear hcc hlen HL1 HL2 hlt
        go_wp2_with fail
        refine (compare_any _ (fun _ => False) va vb es fs ha hb HC1.out HC2.out).mono ?_
        rintro e w' ⟨he, n, rfl⟩
        rw [HCM.out] at he
        subst he
        go_wp2_with fail
        go_region_held3 (fun w' => (w'.cell? ⟨w.heap.size, 0, none⟩ = some (.bool n1) ∧ w'.cell? ⟨w.heap.size, 1, none⟩ = some (.slice A xs.length c)) ∧ w'.cell? ⟨w.heap.size + 1, 0, none⟩ = some (.bool n2) ∧ w'.cell? ⟨w.heap.size + 1, 1, none⟩ = some (.slice B ys.length d))
          (first | exact cells_of (KS1.out _ (((k2.mono (by omega)).setCell (by simp) _).setCell (by simp) _)) | exact cells_of (KS1.out _ (k2.mono (by omega))) | exact cells_of (KS1.out _ (k1.mono (by omega))) | exact cells_of (KS1.out _ (below_drewN (Below.refl _ _) n).drew) | go_keep)
          (first
            | (go_at_call 64; refine (minus_any _ (fun _ => False) va vb es fs (ha.below (below_drewN (Below.refl _ _) n).drew) (hb.below (below_drewN (Below.refl _ _) n).drew) (by omega) (by have := HLT.out; omega) HLEN.out).mono ?_; rintro e w2 ⟨v', zs, rfl, hp, hv, hl, hb2⟩; have HV := Lib.hid hv; have HL := Lib.hid hl; clear hv hl; have k1 : Below w1.heap.size w1 w2 := undrewN (undrew hb2))
            | (go_at_call 47; refine (signed_any _ (fun _ => False) _ v' zs (hp.weak (fun _ _ h => h.elim)) (by have := HL.out; omega)).mono ?_; rintro e w3 ⟨vs, rfl, hs, hb3⟩; have k2 := k1.trans (hb3.mono k1.size); have hk1 := k1.size; rw [sv_sub1 n1 n2 hn' es fs zs (Nat.le_of_not_lt HLT.out) HV.out, HZ.out] at hs; obtain ⟨bs, As, ns, cs, rfl, Hs⟩ := hs.op; have Lr2 := Lr1.below k2; have cc := Lr2.cell; have cf := Lr2.frz))
        all_goals
          clear HC1 HC2 KS1 ca cb Lr1
          go_wp2_with fail
          refine bodyPost_ret (by simp [results, Try.results37, go_sem, cc, cf] <;> rfl) rfl ⟨_, rfl, IntV.stored (g := w.heap.size + 1 + 1) (Y := Old w) hs (by simp only [Old]; omega) _ _ (by intro b _ hb; simp only [Old] at hb ⊢; omega), below_set2 (hB1.trans (k2.mono (by omega))) (by omega) _ _⟩

set_option maxHeartbeats 1000000 in
theorem sub_any (w : World) (X : Nat → Prop) (v1 v2 : Value) (n1 n2 : Bool) (xs ys : List Nat) (h1 : IntR w X v1 n1 xs) (h2 : IntR w X v2 n2 ys) (hs1 : xs.length ≤ 1000000000000) (hs2 : ys.length ≤ 1000000000000) :
    Calls Try.prog 38 #[v1, v2] w fun e w' => ∃ v', e = .returned v' ∧ IntV w' (Old w) v' (sv n1 xs - sv n2 ys) ∧ Below w.heap.size w w' := by
  obtain ⟨A, c, rfl, _, _, H1⟩ := h1.open_
  obtain ⟨B, d, rfl, _, _, H2⟩ := h2.open_
  go_enter Try.func38, Try.ntmps38
  go_wp2_with fail
  refine (add_any _ X _ _ n1 (!n2) xs ys ⟨_, rfl, H1.below (below3 _ _ _ _)⟩ ⟨_, rfl, H2.below (below3 _ _ _ _)⟩ hs1 hs2).mono ?_
  rintro e w2 ⟨v2, rfl, h2, hb2⟩
  obtain ⟨b2, A2, n2, c2, rfl, h2⟩ := h2.op
  obtain ⟨La, Lb, Lr, hB, hsz⟩ := locs3 hb2
  have cc := Lr.cell
  have cf := Lr.frz
  go_wp2_with fail
  refine bodyPost_ret (by simp [results, Try.results38, go_sem, cc, cf] <;> rfl) rfl ⟨_, rfl, ?_, below_set2 hB (by omega) _ _⟩
  have h3 := IntV.stored (g := w.heap.size + 1 + 1) (Y := Old w) h2 (by simp only [Old, World.size_alloc]; omega) (.bool b2) (.slice A2 n2 c2) (by intro b _ hb; simp only [Old, World.size_alloc] at hb ⊢; omega)
  rw [sv_not, ← Int.sub_eq_add_neg] at h3
  exact h3
end Go.Proofs.Ytlbgnndjacagkaa
