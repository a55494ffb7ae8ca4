/- Contracts of the functions that the statements reach, part 3. -/
import Derived.Test.YtooheapikhdllaaRows
import Derived.Deep.RegionHeld3
import Derived.Deep.DrawnRows
import Derived.Laws.OwnMore
import Derived.Lib.Strings
import Derived.Lib.Slices
import Derived.Laws.Strings3
import Derived.Deep.LoopGhost
import Derived.Laws.IdiomStrings
import Derived.Test.YtooheapikhdllaaM2
set_option linter.unusedSimpArgs false
set_option linter.unusedVariables false

/- Add and Sub of package integer. -/
namespace Go.Proofs.Ytooheapikhdllaa
open Go.RowKit
attribute [local go_sem ↓] Go.wp_at_zero Go.wp_at_succ
attribute [local go_sem] beq_self_eq_true

theorem undrew {B : Nat} {w w2 : World} (h : Below B w.drew w2) : Below B w w2 := ⟨h.os, h.tape, h.output, h.size, h.block⟩
theorem undrewN {B n : Nat} {w w2 : World} (h : Below B (w.drewN n) w2) : Below B w w2 := ⟨h.os, h.tape, h.output, h.size, h.block⟩

theorem sv_add_same (n : Bool) (xs ys zs : List Nat) (h : val zs = val xs + val ys) : sv n zs = sv n xs + sv n ys := by
  unfold sv; split <;> omega
theorem sv_sub1 (n m : Bool) (hn : (n == m) = false) (xs ys zs : List Nat) (hl : val ys ≤ val xs) (h : val zs = val xs - val ys) : sv n zs = sv n xs + sv m ys := by
  cases n <;> cases m <;> simp at hn <;> simp only [sv_false, sv_true] <;> omega
theorem sv_sub2 (n m : Bool) (hn : (n == m) = false) (xs ys zs : List Nat) (hl : val xs ≤ val ys) (h : val zs = val ys - val xs) : sv m zs = sv n xs + sv m ys := by
  cases n <;> cases m <;> simp at hn <;> simp only [sv_false, sv_true] <;> omega
theorem trim_len_le {xs ys : List Nat} (hx : Ws xs) (hy : Ws ys) (h : val ys ≤ val xs) : (trimL ys).length ≤ (trimL xs).length := by
  rw [trimL_dig hx, trimL_dig hy]; exact dig_len_mono h

theorem cmpN_ge {a b : Nat} (h : ¬ a < b) : 0 ≤ cmpN a b := by
  unfold cmpN; rw [if_neg h]; split <;> omega
theorem cells_of {W : World} {g h : Nat} {t t' : TypeId} {a b c d : Value} (K : Loc W g t #[a, b] ∧ Loc W h t' #[c, d]) :
    (W.cell? ⟨g, 0, none⟩ = some a ∧ W.cell? ⟨g, 1, none⟩ = some b) ∧ W.cell? ⟨h, 0, none⟩ = some c ∧ W.cell? ⟨h, 1, none⟩ = some d :=
  ⟨⟨K.1.cell 0, K.1.cell 1⟩, K.2.cell 0, K.2.cell 1⟩

set_option maxHeartbeats 2000000 in
theorem add_any (w : World) (X : Nat → Prop) (v1 v2 : Value) (n1 n2 : Bool) (xs ys : List Nat) (h1 : IntR w X v1 n1 xs) (h2 : IntR w X v2 n2 ys) (hs1 : xs.length ≤ 1000000000000) (hs2 : ys.length ≤ 1000000000000) :
    Calls Try.prog 81 #[v1, v2] w fun e w' => ∃ v', e = .returned v' ∧ IntV w' (Old w) v' (sv n1 xs + sv n2 ys) ∧ Below w.heap.size w w' := by
  obtain ⟨A, c, rfl, _, _, H1⟩ := h1.open_
  obtain ⟨B, d, rfl, _, _, H2⟩ := h2.open_
  have l1 := trimL_len xs
  have l2 := trimL_len ys
  have HL1 := Lib.hid (fun h : val (trimL ys) ≤ val (trimL xs) => trim_len_le H1.2 H2.2 (by rwa [val_trimL, val_trimL] at h))
  have HL2 := Lib.hid (fun h : val (trimL xs) ≤ val (trimL ys) => trim_len_le H2.2 H1.2 (by rwa [val_trimL, val_trimL] at h))
  have hv1 := val_trimL xs
  have hv2 := val_trimL ys
  have HV1 := Lib.hid hv1
  have HV2 := Lib.hid hv2
  have HC1 := Lib.hid (can_trimL H1.2)
  have HC2 := Lib.hid (can_trimL H2.2)
  clear hv1 hv2
  rw [← sv_trim n1 xs, ← sv_trim n2 ys]
  generalize hz : sv n1 (trimL xs) + sv n2 (trimL ys) = z
  have HZ := Lib.hid hz
  clear hz
  go_enter Try.func81, Try.ntmps81
  go_wp2_with fail
  have KS := boxes3 w #[.bool n1, .slice A xs.length c] #[.bool n2, .slice B ys.length d] #[.bool false, .slice none 0 0] 24 24 24
  have K1 := (H1.weak (Y := fun _ => False) (fun _ _ h => h.elim)).below (below3 w (.cells #[.bool n1, .slice A xs.length c] 24) (.cells #[.bool n2, .slice B ys.length d] 24) (.cells #[.bool false, .slice none 0 0] 24))
  have K2 := (H2.weak (Y := fun _ => False) (fun _ _ h => h.elim)).below (below3 w (.cells #[.bool n1, .slice A xs.length c] 24) (.cells #[.bool n2, .slice B ys.length d] 24) (.cells #[.bool false, .slice none 0 0] 24))
  obtain ⟨-, -, Lr, hB0, hsz0⟩ := locs3 (c1 := #[.bool n1, .slice A xs.length c]) (c2 := #[.bool n2, .slice B ys.length d]) (c3 := #[.bool false, .slice none 0 0]) (t1 := 24) (t2 := 24) (t3 := 24) (Below.refl _ (((w.alloc _).alloc _).alloc _))
  generalize (((w.alloc (.cells #[.bool n1, .slice A xs.length c] 24)).alloc (.cells #[.bool n2, .slice B ys.length d] 24)).alloc (.cells #[.bool false, .slice none 0 0] 24)) = w0 at *
  clear H1 H2 h1 h2
  go_region_held3 (fun w' => w'.cell? ⟨w.heap.size, 0, none⟩ = some (.bool n1) ∧ w'.cell? ⟨w.heap.size, 1, none⟩ = some (.slice A xs.length c) ∧ w'.cell? ⟨w.heap.size + 1, 0, none⟩ = some (.bool n2) ∧ w'.cell? ⟨w.heap.size + 1, 1, none⟩ = some (.slice B ys.length d))
    (first | exact (fun K => ⟨K.1.cell 0, K.1.cell 1, K.2.cell 0, K.2.cell 1⟩) (KS.out _ (Below.refl _ _).drew))
    (first
      | (go_at_call_of 90 (Value.slice A xs.length c); refine (trim_any _ (fun _ => False) (.slice A xs.length c) xs (K1.below (Below.refl _ _).drew)).mono ?_; rintro e w' ⟨va, rfl, ha, rfl⟩)
      | (go_at_call_of 90 (Value.slice B ys.length d); refine (trim_any _ (fun _ => False) (.slice B ys.length d) ys (K2.below (Below.refl _ _).drew)).mono ?_; rintro e w' ⟨vb, rfl, hb, rfl⟩))
  all_goals
    have KS1 : Hid (∀ W, Below (w.heap.size + 1 + 1) w0.drew W → Loc W w.heap.size 24 #[.bool n1, .slice A xs.length c] ∧ Loc W (w.heap.size + 1) 24 #[.bool n2, .slice B ys.length d]) := fun W hW => KS.out W (undrew hW)
    have hB1 : Below w.heap.size w w0.drew := hB0.drew
    have Lr1 : Loc w0.drew (w.heap.size + 1 + 1) 24 #[.bool false, .slice none 0 0] := Lr
    have hsz1 : w.heap.size + 3 ≤ w0.drew.heap.size := hsz0
    clear KS K1 K2 hB0 Lr hsz0
    generalize w0.drew = w1 at *
    clear w0
    have k2 := KS1.out w1 (Below.refl _ _)
    have ca := k2.1.cell
    have cb := k2.2.cell
    clear k2
    clear HV1 HV2
    generalize trimL xs = es at *
    generalize trimL ys = fs at *
    by_cases hn : n1 = n2
    · subst hn
      go_wp2_with fail
      go_region_held3 (fun w' => (w'.cell? ⟨w.heap.size, 0, none⟩ = some (.bool n1) ∧ w'.cell? ⟨w.heap.size, 1, none⟩ = some (.slice A xs.length c)) ∧ w'.cell? ⟨w.heap.size + 1, 0, none⟩ = some (.bool n1) ∧ w'.cell? ⟨w.heap.size + 1, 1, none⟩ = some (.slice B ys.length d))
        (first | exact cells_of (KS1.out _ (((k2.mono (by omega)).setCell (by simp) _).setCell (by simp) _)) | exact cells_of (KS1.out _ (k2.mono (by omega))) | exact cells_of (KS1.out _ (k1.mono (by omega))) | exact cells_of (KS1.out _ (Below.refl _ _).drew) | go_keep)
        (first
          | (go_at_call 106; refine (plus_any _ (fun _ => False) va vb es fs (ha.below (Below.refl _ _).drew) (hb.below (Below.refl _ _).drew) (by omega) (by omega)).mono ?_; rintro e w2 ⟨v', zs, rfl, hp, hv, hl, hb2⟩; have HV := Lib.hid hv; have HL := Lib.hid hl; clear hv hl; have k1 := below_undrew hb2)
          | (go_at_call 91; refine (signed_any _ (fun _ => False) _ v' zs (hp.weak (fun _ _ h => h.elim)) (by have := HL.out; omega)).mono ?_; rintro e w3 ⟨vs, rfl, hs, hb3⟩; have k2 := k1.trans (hb3.mono k1.size); have hk1 := k1.size; rw [sv_add_same _ es fs zs HV.out, HZ.out] at hs; obtain ⟨bs, As, ns, cs, rfl, Hs⟩ := hs.op; have Lr2 := Lr1.below k2; have cc := Lr2.cell; have cf := Lr2.frz))
      all_goals
        clear HL1 HL2 HC1 HC2 KS1 ca cb Lr1
        go_wp2_with fail
        refine bodyPost_ret (by simp [results, Try.results81, go_sem, cc, cf] <;> rfl) rfl ⟨_, rfl, IntV.stored (g := w.heap.size + 1 + 1) (Y := Old w) hs (by simp only [Old]; omega) _ _ (by intro b _ hb; simp only [Old] at hb ⊢; omega), below_set2 (hB1.trans (k2.mono (by omega))) (by omega) _ _⟩
    · have hn' : (n1 == n2) = false := by simpa using hn
      clear hn
      by_cases hlt : val es < val fs
      · have hcmp := cmpN_lt hlt
        have hlen := HL2.out (by omega)
        have HCM := Lib.hid hcmp
        have HLEN := Lib.hid hlen
        have HLT := Lib.hid hlt
        clear hcmp hlen HL1 HL2 hlt
        go_wp2_with fail
        refine (compare_any _ (fun _ => False) va vb es fs ha hb HC1.out HC2.out).mono ?_
        rintro e w' ⟨he, n, rfl⟩
        rw [HCM.out] at he
        subst he
        go_wp2_with fail
        go_region_held3 (fun w' => (w'.cell? ⟨w.heap.size, 0, none⟩ = some (.bool n1) ∧ w'.cell? ⟨w.heap.size, 1, none⟩ = some (.slice A xs.length c)) ∧ w'.cell? ⟨w.heap.size + 1, 0, none⟩ = some (.bool n2) ∧ w'.cell? ⟨w.heap.size + 1, 1, none⟩ = some (.slice B ys.length d))
          (first | exact cells_of (KS1.out _ (((k2.mono (by omega)).setCell (by simp) _).setCell (by simp) _)) | exact cells_of (KS1.out _ (k2.mono (by omega))) | exact cells_of (KS1.out _ (k1.mono (by omega))) | exact cells_of (KS1.out _ (below_drewN (Below.refl _ _) n).drew) | go_keep)
          (first
            | (go_at_call 107; refine (minus_any _ (fun _ => False) vb va fs es (hb.below (below_drewN (Below.refl _ _) n).drew) (ha.below (below_drewN (Below.refl _ _) n).drew) (by omega) (by have := HLT.out; omega) HLEN.out).mono ?_; rintro e w2 ⟨v', zs, rfl, hp, hv, hl, hb2⟩; have HV := Lib.hid hv; have HL := Lib.hid hl; clear hv hl; have k1 : Below w1.heap.size w1 w2 := undrewN (undrew hb2))
            | (go_at_call 91; refine (signed_any _ (fun _ => False) _ v' zs (hp.weak (fun _ _ h => h.elim)) (by have := HL.out; omega)).mono ?_; rintro e w3 ⟨vs, rfl, hs, hb3⟩; have k2 := k1.trans (hb3.mono k1.size); have hk1 := k1.size; rw [sv_sub2 n1 n2 hn' es fs zs (Nat.le_of_lt HLT.out) HV.out, HZ.out] at hs; obtain ⟨bs, As, ns, cs, rfl, Hs⟩ := hs.op; have Lr2 := Lr1.below k2; have cc := Lr2.cell; have cf := Lr2.frz))
        all_goals
          clear HC1 HC2 KS1 ca cb Lr1
          go_wp2_with fail
          refine bodyPost_ret (by simp [results, Try.results81, go_sem, cc, cf] <;> rfl) rfl ⟨_, rfl, IntV.stored (g := w.heap.size + 1 + 1) (Y := Old w) hs (by simp only [Old]; omega) _ _ (by intro b _ hb; simp only [Old] at hb ⊢; omega), below_set2 (hB1.trans (k2.mono (by omega))) (by omega) _ _⟩
      · obtain ⟨cm, hcc, hcm0⟩ : ∃ cm, cmpN (val es) (val fs) = cm ∧ 0 ≤ cm := ⟨_, rfl, cmpN_ge hlt⟩
        have hlen := HL1.out (by omega)
        have HCM := Lib.hid hcc
        have HLEN := Lib.hid hlen
        have HLT := Lib.hid hlt
        clear hcc hlen HL1 HL2 hlt
        go_wp2_with fail
        refine (compare_any _ (fun _ => False) va vb es fs ha hb HC1.out HC2.out).mono ?_
        rintro e w' ⟨he, n, rfl⟩
        rw [HCM.out] at he
        subst he
        go_wp2_with fail
        go_region_held3 (fun w' => (w'.cell? ⟨w.heap.size, 0, none⟩ = some (.bool n1) ∧ w'.cell? ⟨w.heap.size, 1, none⟩ = some (.slice A xs.length c)) ∧ w'.cell? ⟨w.heap.size + 1, 0, none⟩ = some (.bool n2) ∧ w'.cell? ⟨w.heap.size + 1, 1, none⟩ = some (.slice B ys.length d))
          (first | exact cells_of (KS1.out _ (((k2.mono (by omega)).setCell (by simp) _).setCell (by simp) _)) | exact cells_of (KS1.out _ (k2.mono (by omega))) | exact cells_of (KS1.out _ (k1.mono (by omega))) | exact cells_of (KS1.out _ (below_drewN (Below.refl _ _) n).drew) | go_keep)
          (first
            | (go_at_call 107; refine (minus_any _ (fun _ => False) va vb es fs (ha.below (below_drewN (Below.refl _ _) n).drew) (hb.below (below_drewN (Below.refl _ _) n).drew) (by omega) (by have := HLT.out; omega) HLEN.out).mono ?_; rintro e w2 ⟨v', zs, rfl, hp, hv, hl, hb2⟩; have HV := Lib.hid hv; have HL := Lib.hid hl; clear hv hl; have k1 : Below w1.heap.size w1 w2 := undrewN (undrew hb2))
            | (go_at_call 91; refine (signed_any _ (fun _ => False) _ v' zs (hp.weak (fun _ _ h => h.elim)) (by have := HL.out; omega)).mono ?_; rintro e w3 ⟨vs, rfl, hs, hb3⟩; have k2 := k1.trans (hb3.mono k1.size); have hk1 := k1.size; rw [sv_sub1 n1 n2 hn' es fs zs (Nat.le_of_not_lt HLT.out) HV.out, HZ.out] at hs; obtain ⟨bs, As, ns, cs, rfl, Hs⟩ := hs.op; have Lr2 := Lr1.below k2; have cc := Lr2.cell; have cf := Lr2.frz))
        all_goals
          clear HC1 HC2 KS1 ca cb Lr1
          go_wp2_with fail
          refine bodyPost_ret (by simp [results, Try.results81, go_sem, cc, cf] <;> rfl) rfl ⟨_, rfl, IntV.stored (g := w.heap.size + 1 + 1) (Y := Old w) hs (by simp only [Old]; omega) _ _ (by intro b _ hb; simp only [Old] at hb ⊢; omega), below_set2 (hB1.trans (k2.mono (by omega))) (by omega) _ _⟩

set_option maxHeartbeats 1000000 in
theorem sub_any (w : World) (X : Nat → Prop) (v1 v2 : Value) (n1 n2 : Bool) (xs ys : List Nat) (h1 : IntR w X v1 n1 xs) (h2 : IntR w X v2 n2 ys) (hs1 : xs.length ≤ 1000000000000) (hs2 : ys.length ≤ 1000000000000) :
    Calls Try.prog 118 #[v1, v2] w fun e w' => ∃ v', e = .returned v' ∧ IntV w' (Old w) v' (sv n1 xs - sv n2 ys) ∧ Below w.heap.size w w' := by
  obtain ⟨A, c, rfl, _, _, H1⟩ := h1.open_
  obtain ⟨B, d, rfl, _, _, H2⟩ := h2.open_
  go_enter Try.func118, Try.ntmps118
  go_wp2_with fail
  refine (add_any _ X _ _ n1 (!n2) xs ys ⟨_, rfl, H1.below (below3 _ _ _ _)⟩ ⟨_, rfl, H2.below (below3 _ _ _ _)⟩ hs1 hs2).mono ?_
  rintro e w2 ⟨v2, rfl, h2, hb2⟩
  obtain ⟨b2, A2, n2, c2, rfl, h2⟩ := h2.op
  obtain ⟨La, Lb, Lr, hB, hsz⟩ := locs3 hb2
  have cc := Lr.cell
  have cf := Lr.frz
  go_wp2_with fail
  refine bodyPost_ret (by simp [results, Try.results118, go_sem, cc, cf] <;> rfl) rfl ⟨_, rfl, ?_, below_set2 hB (by omega) _ _⟩
  have h3 := IntV.stored (g := w.heap.size + 1 + 1) (Y := Old w) h2 (by simp only [Old, World.size_alloc]; omega) (.bool b2) (.slice A2 n2 c2) (by intro b _ hb; simp only [Old, World.size_alloc] at hb ⊢; omega)
  rw [sv_not, ← Int.sub_eq_add_neg] at h3
  exact h3
end Go.Proofs.Ytooheapikhdllaa

/- The reference's inner functions, second part: timesWord, subWords, compareWords. -/
namespace Go.Proofs.Ytooheapikhdllaa
open Go.RowKit

theorem timesWord_step (zs xs : List Nat) (k d cy : Nat) (hl : zs.length = k) (hk : k < xs.length) (hv : val zs + 4294967296 ^ k * cy = val (xs.take k) * d) :
    val (zs ++ [(xs[k] * d + cy) % 4294967296]) + 4294967296 ^ (k + 1) * ((xs[k] * d + cy) / 4294967296) = val (xs.take (k + 1)) * d := by
  refine carry_step zs k _ cy _ hl ?_
  rw [val_take_succ xs k hk, Nat.mul_add, Nat.add_mul, ← hv, Nat.mul_assoc]
  omega

set_option maxHeartbeats 1000000 in
theorem timesWord_any (w : World) (X : Nat → Prop) (va : Value) (xs : List Nat) (d : Nat) (ha : Words w X va xs) (hs : xs.length ≤ 1000000000000) (hd : d ≤ 4294967296) :
    Calls Try.prog 119 #[va, .int .u64 d] w fun e w' => ∃ v', e = .returned v' ∧ Words w' (Old w) v' (dig (val xs * d)) ∧ Below w.heap.size w w' := by
  obtain ⟨A, c, rfl, hc, _, HA⟩ := ha.open_
  go_enter Try.func119, Try.ntmps119
  go_wp2_with fail
  go_loopw [5, 6, 7] (fun o cr i wr => ∃ (k : Nat) (zs : List Nat) (cy : Nat), k ≤ xs.length ∧ i = .int .i64 k ∧ cr = .int .u64 cy ∧ cy < 4294967296 ∧ zs.length = k ∧ wr.ownsRow w.heap.size 82 1 o zs.length (nums .u32 zs) ∧ Ws zs ∧
      val zs + 4294967296 ^ k * cy = val (xs.take k) * d ∧ Below w.heap.size w wr) (fun _ _ i _ => xs.length - (intOf i).toNat)
  case atStart => exact ⟨0, [], 0, by omega, rfl, rfl, by omega, rfl, World.ownsRow_lit w #[] 0 (Nat.le_refl _) (by unfold maxLen; omega) rfl, Ws.nil, by simp, (Below.refl _ _).alloc (Nat.le_refl _) _⟩
  case round =>
    obtain ⟨k, zs, cy, hk, rfl, rfl, hcy, hzl, hown', hws, hval, hbr⟩ := hrel
    have Hval := Lib.hid hval
    have Hzl := Lib.hid hzl
    have hzb : zs.length ≤ k := by omega
    have hsz := hbr.size
    clear hval hzl
    have HPr := HA.below hbr
    by_cases hlt : k < xs.length
    · obtain ⟨a, rfl, _, _, hca⟩ := HPr.at_ hlt
      have bx := HA.lt hlt
      have m2 : xs[k] * d ≤ 4294967295 * 4294967296 := Nat.mul_le_mul (by omega) hd
      have m1 : ((xs[k] : Nat) : Int) * ((d : Nat) : Int) ≤ 18446744069414584320 := by rw [← Int.natCast_mul]; omega
      have m0 : 0 ≤ ((xs[k] : Nat) : Int) * ((d : Nat) : Int) := Int.mul_nonneg (by omega) (by omega)
      go_wp2_with (at_builtin; refine wpList_push _ rfl _ _ rfl Try.underlying22 info_u32 rfl w.heap.size _ _ _ rfl (hown'.alloc _) _ _ rfl (heap_alloc_new wr _) rfl (by omega) (by unfold maxLen; omega) (by simp; omega) ?_)
      intro v2 w2 hown2 hg2 _
      have hb2 := below_own (hbr.alloc hsz _) (hown'.alloc _) hg2 (Nat.le_refl _) (by simp; omega)
      go_wp2_with fail
      go_roundw
      case rel =>
        obtain ⟨s, hs'⟩ : ∃ s, s = xs[k] * d + cy := ⟨_, rfl⟩
        have es : ((xs[k] : Nat) : Int) * ((d : Nat) : Int) + ((cy : Nat) : Int) = (s : Int) := by rw [hs']; push_cast; omega
        have bs : s < 18446744073709551616 := by omega
        rw [es] at *
        have hv := timesWord_step zs xs k d cy Hzl.out hlt Hval.out
        rw [← hs'] at hv
        rw [nums_snoc' _ _ _ (s % 4294967296) (by omega)] at hown2
        exact ⟨k + 1, zs ++ [s % 4294967296], s / 4294967296, by omega, by go_num, by go_num, by omega, by simp [Hzl.out], by simpa using hown2, Ws.append.2 ⟨hws, by simp [Ws]; omega⟩, hv, hb2⟩
      case measure => simp [intOf]; omega
    · go_wp2_with (first | (at_builtin; refine wpList_push _ rfl _ _ rfl Try.underlying22 info_u32 rfl w.heap.size _ _ _ rfl (hown'.alloc _) _ _ rfl (heap_alloc_new wr _) rfl (by omega) (by unfold maxLen; omega) (by simp; omega) ?_) | (go_at_call 95; fail))
      intro v2 w2 hown2 hg2 _
      have hb2 := below_own (hbr.alloc hsz _) (hown'.alloc _) hg2 (Nat.le_refl _) (by simp; omega)
      rw [nums_snoc' _ _ _ (cy % 4294967296) (by omega)] at hown2
      have W2 : Words w2 (Old w) v2 (zs ++ [cy % 4294967296]) := Words.of_own (by simpa using hown2) (Ws.append.2 ⟨hws, by simp [Ws]; omega⟩) (fun b h1 _ _ => by unfold Old; omega)
      go_wp2_with fail
      refine (rtrim_any _ _ _ _ W2 (by simp; omega)).mono ?_
      rintro e w3 ⟨v3, rfl, h3, hb3⟩
      go_wp2_with fail
      go_ret
      have hv := Hval.out
      rw [List.take_of_length_le (by omega)] at hv
      rw [trimL_dig W2.2, val_snoc, Hzl.out, Nat.mod_eq_of_lt (by omega), hv] at h3
      exact ⟨_, rfl, h3.weak (by intro b _; unfold Old; have := hb2.size; omega), hb2.trans (hb3.mono hb2.size)⟩

theorem subWords_step (zs P : List Nat) (k s x y b b' QK : Nat) (hz : zs.length = k) (hp : k < P.length) (hx : x = P[k]) (hd : s % 4294967296 + y + b = x + 4294967296 * b')
    (hv : val zs + QK = val (P.take k) + 4294967296 ^ k * b) :
    val (zs ++ [s % 4294967296]) + (QK + 4294967296 ^ k * y) = val (P.take (k + 1)) + 4294967296 ^ (k + 1) * b' := by
  rw [val_snoc, hz, val_take_succ P k hp, ← hx, Nat.pow_succ]
  have e : 4294967296 ^ k * (s % 4294967296 + y + b) = 4294967296 ^ k * (x + 4294967296 * b') := by rw [hd]
  simp only [Nat.mul_add] at e
  rw [Nat.mul_assoc]
  omega

set_option maxHeartbeats 1000000 in
theorem subWords_any (w : World) (X : Nat → Prop) (va vb : Value) (xs ys : List Nat) (ha : Words w X va xs) (hb : Words w X vb ys) (hs : xs.length ≤ 1000000000000) (hle : val ys ≤ val xs) (hlen : ys.length ≤ xs.length) :
    Calls Try.prog 110 #[va, vb] w fun e w' => ∃ v', e = .returned v' ∧ Words w' (Old w) v' (dig (val xs - val ys)) ∧ Below w.heap.size w w' := by
  obtain ⟨A, c, rfl, hc, _, HA⟩ := ha.open_
  obtain ⟨B, d, rfl, hd, _, HB⟩ := hb.open_
  have Hle := Lib.hid hle
  clear hle
  go_enter Try.func110, Try.ntmps110
  go_wp2_with fail
  go_loopw [5, 6, 7] (fun o cr i wr => ∃ (k : Nat) (zs : List Nat) (b : Nat), k ≤ xs.length ∧ i = .int .i64 k ∧ cr = .int .u64 b ∧ b ≤ 1 ∧ zs.length = k ∧ wr.ownsRow w.heap.size 82 1 o zs.length (nums .u32 zs) ∧ Ws zs ∧
      val zs + val (ys.take k) = val (xs.take k) + 4294967296 ^ k * b ∧ Below w.heap.size w wr) (fun _ _ i _ => xs.length - (intOf i).toNat)
  case atStart => exact ⟨0, [], 0, by omega, rfl, rfl, by omega, rfl, World.ownsRow_lit w #[] 0 (Nat.le_refl _) (by unfold maxLen; omega) rfl, Ws.nil, by simp, (Below.refl _ _).alloc (Nat.le_refl _) _⟩
  case round =>
    obtain ⟨k, zs, b, hk, rfl, rfl, hbb, hzl, hown', hws, hval, hbr⟩ := hrel
    have Hval := Lib.hid hval
    have Hzl := Lib.hid hzl
    have hzb : zs.length ≤ k := by omega
    have hsz := hbr.size
    clear hval hzl
    have HPr := HA.below hbr
    have HQr := HB.below hbr
    have bx := wordAt_lt HA.2 k
    have by_ := wordAt_lt HB.2 k
    by_cases hlt : k < xs.length
    · go_wp2_with (first | (go_at_call 102; ((with_reducible refine (word_any _ X (.slice A xs.length c) xs k HPr).mono ?_); rintro e w' ⟨rfl, rfl⟩)) | (go_at_call 102; ((with_reducible refine (word_any _ X (.slice B ys.length d) ys k HQr).mono ?_); rintro e w' ⟨rfl, rfl⟩)) | (at_builtin; refine wpList_push _ rfl _ _ rfl Try.underlying22 info_u32 rfl w.heap.size _ _ _ rfl (hown'.alloc _) _ _ rfl (heap_alloc_new wr _) rfl (by omega) (by unfold maxLen; omega) (by simp; omega) ?_))
      intro v2 w2 hown2 hg2 _
      have hb2 := below_own (hbr.alloc hsz _) (hown'.alloc _) hg2 (Nat.le_refl _) (by simp; omega)
      go_wp2_with fail
      go_roundw
      case rel =>
        rw [nums_snoc' _ _ _ ((4294967296 + wordAt xs k - wordAt ys k - b) % 4294967296) (by omega)] at hown2
        have hv := subWords_step zs xs k (4294967296 + wordAt xs k - wordAt ys k - b) (wordAt xs k) (wordAt ys k) b (1 - (4294967296 + wordAt xs k - wordAt ys k - b) / 4294967296) (val (ys.take k)) Hzl.out hlt (wordAt_in hlt) (by omega) Hval.out
        rw [← val_take_wordAt] at hv
        exact ⟨k + 1, zs ++ [(4294967296 + wordAt xs k - wordAt ys k - b) % 4294967296], 1 - (4294967296 + wordAt xs k - wordAt ys k - b) / 4294967296, by omega, by go_num, by go_num, by omega, by simp [Hzl.out], by simpa using hown2, Ws.append.2 ⟨hws, by simp [Ws]; omega⟩, hv, hb2⟩
      case measure => simp [intOf]; omega
    · obtain rfl : k = xs.length := by omega
      go_wp2_with fail
      have W2 : Words wr (Old w) _ zs := Words.of_own hown' hws (fun b h1 _ _ => by unfold Old; omega)
      refine (rtrim_any _ _ _ _ W2 (by omega)).mono ?_
      rintro e w3 ⟨v3, rfl, h3, hb3⟩
      go_wp2_with fail
      go_ret
      have hv := Hval.out
      rw [List.take_of_length_le (by omega), List.take_of_length_le (by omega)] at hv
      have hend := sub_end zs xs ys b hws Hzl.out Hle.out hv
      rw [trimL_dig hws, hend.1] at h3
      exact ⟨_, rfl, h3.weak (by intro b _; unfold Old; have := hbr.size; omega), hbr.trans (hb3.mono hbr.size)⟩

set_option maxHeartbeats 1000000 in
theorem compareWords_any (w : World) (X : Nat → Prop) (va vb : Value) (xs ys : List Nat) (ha : Words w X va xs) (hb : Words w X vb ys) (hx : Can xs) (hy : Can ys) :
    Calls Try.prog 109 #[va, vb] w fun e w' => e = .returned (.int .i64 (cmpN (val xs) (val ys))) ∧ ∃ n, w' = w.drewN n := by
  have m1 := ha.lt_max
  have m2 := hb.lt_max
  obtain ⟨A, c, rfl, hc, _, HA⟩ := ha.open_
  obtain ⟨B, d, rfl, hd, _, HB⟩ := hb.open_
  by_cases hl : xs.length = ys.length
  · have hlb : ((xs.length : Int) != (ys.length : Int)) = false := by simp [hl]
    have HL := Lib.hid hl
    have hl1 : xs.length ≤ ys.length := by omega
    have hl2 : ys.length ≤ xs.length := by omega
    clear hl
    go_enter Try.func109, Try.ntmps109
    go_wp2_with fail
    go_loopw [5] (fun i wr => ∃ (k n : Nat), k ≤ xs.length ∧ i = .int .i64 ((k : Int) - 1) ∧ xs.drop k = ys.drop k ∧ wr = w.drewN n) (fun i _ => (intOf i + 1).toNat)
    case atStart => exact ⟨xs.length, 0, by omega, rfl, by rw [List.drop_length, List.drop_of_length_le hl2], rfl⟩
    case round =>
      obtain ⟨k, n, hk, rfl, hdr, rfl⟩ := hrel
      have Hdr := Lib.hid hdr
      clear hdr
      by_cases hlt : 0 < k
      · obtain ⟨p, rfl⟩ : ∃ p, k = p + 1 := ⟨k - 1, by omega⟩
        have hp : p < xs.length := by omega
        have hq : p < ys.length := by omega
        obtain ⟨a, rfl, _, _, hca⟩ := HA.at_ hp
        obtain ⟨b, rfl, _, _, hcb⟩ := HB.at_ hq
        have ip : (p : Int) < (xs.length : Int) := by omega
        have iq : (p : Int) < (ys.length : Int) := by omega
        rcases Nat.lt_trichotomy xs[p] ys[p] with h | h | h
        · have h1 : ((xs[p] : Nat) : Int) < ((ys[p] : Nat) : Int) := by omega
          have hd : decide (((xs[p] : Nat) : Int) < ((ys[p] : Nat) : Int)) = true := by simpa using h
          go_wp2_with fail
          go_quiet (fail)
          go_wp2_with fail
          go_ret
          exact ⟨ret_eq (int_eq (cmpN_lt (val_lt_at xs ys HL.out hx.1 p hp Hdr.out h)).symm), _, by rw [World.drewN_drewN]⟩
        · have h1 : ¬ ((xs[p] : Nat) : Int) < ((ys[p] : Nat) : Int) := by omega
          have h2 : ¬ ((ys[p] : Nat) : Int) < ((xs[p] : Nat) : Int) := by omega
          have hd : decide (((xs[p] : Nat) : Int) < ((ys[p] : Nat) : Int)) = false := by simp; omega
          have hd2 : decide (((ys[p] : Nat) : Int) < ((xs[p] : Nat) : Int)) = false := by simp; omega
          have HE := Lib.hid h
          clear h
          go_wp2_with fail
          go_quiet (fail)
          go_wp2_with fail
          go_quiet (fail)
          go_wp2_with fail
          go_roundw
          case rel => exact ⟨p, _, by omega, by go_num, by rw [List.drop_eq_getElem_cons hp, List.drop_eq_getElem_cons hq, HE.out, Hdr.out], rfl⟩
          case measure => simp [intOf] <;> omega
        · have h1 : ¬ ((xs[p] : Nat) : Int) < ((ys[p] : Nat) : Int) := by omega
          have h2 : ((ys[p] : Nat) : Int) < ((xs[p] : Nat) : Int) := by omega
          have hd : decide (((xs[p] : Nat) : Int) < ((ys[p] : Nat) : Int)) = false := by simp; omega
          have hd2 : decide (((ys[p] : Nat) : Int) < ((xs[p] : Nat) : Int)) = true := by simp; omega
          go_wp2_with fail
          go_quiet (fail)
          go_wp2_with fail
          go_quiet (fail)
          go_wp2_with fail
          go_ret
          exact ⟨ret_eq (int_eq (cmpN_gt (val_lt_at ys xs HL.out.symm hy.1 p hq Hdr.out.symm h)).symm), _, by rw [World.drewN_drewN, World.drewN_drewN]⟩
      · obtain rfl : k = 0 := by omega
        go_wp2_with fail
        go_ret
        have h := Hdr.out
        simp only [List.drop_zero] at h
        exact ⟨ret_eq (int_eq (cmpN_eq (by rw [h])).symm), n, rfl⟩
  · have hlb : ((xs.length : Int) != (ys.length : Int)) = true := by simp; omega
    by_cases hlt : xs.length < ys.length
    · go_enter Try.func109, Try.ntmps109
      go_wp2_with fail
      go_ret
      exact ⟨ret_eq (int_eq (cmpN_lt (val_lt_of_len hx.1 hy hlt)).symm), 0, rfl⟩
    · go_enter Try.func109, Try.ntmps109
      go_wp2_with fail
      go_ret
      exact ⟨ret_eq (int_eq (cmpN_gt (val_lt_of_len hy.1 hx (by omega))).symm), 0, rfl⟩
end Go.Proofs.Ytooheapikhdllaa

/- Valid, Sign, Of of package integer; Equal, made, Of of the reference; short, same of the law. -/
namespace Go.Proofs.Ytooheapikhdllaa
open Go.RowKit
attribute [local go_sem ↓] Go.wp_at_zero Go.wp_at_succ

/-- Is the struct canonical? -/
def validR (neg : Bool) (xs : List Nat) : Bool := if h : xs = [] then !neg else xs.getLast h != 0

set_option maxHeartbeats 400000 in
theorem valid_any (w : World) (X : Nat → Prop) (v : Value) (neg : Bool) (xs : List Nat) (h : IntR w X v neg xs) :
    Calls Try.prog 84 #[v] w fun e w' => e = .returned (.bool (validR neg xs)) ∧ Below w.heap.size w w' := by
  obtain ⟨A, c, rfl, h1, h2, H⟩ := h.open_
  have hm := H.lt_max
  by_cases h0 : xs = []
  · subst h0
    go_enter Try.func84, Try.ntmps84
    go_wp2_with fail
    go_ret
    exact ⟨ret_eq (bool_eq (by simp [validR])), below1 _ _⟩
  · have hl : 0 < xs.length := List.length_pos_iff.2 h0
    have hlb : ((xs.length : Int) == 0) = false := by simp; omega
    obtain ⟨a, rfl, _, _, hc⟩ := (H.below (below1 w (.cells #[.bool neg, .slice A xs.length c] 24))).at_ (k := xs.length - 1) (by omega)
    have hv : validR neg xs = (((xs[xs.length - 1] : Nat) : Int) != 0) := by
      unfold validR; rw [dif_neg h0, List.getLast_eq_getElem]
      simp [bne]
      rw [Bool.eq_iff_iff]; simp
    have HV := Lib.hid hv
    clear hv h0
    go_enter Try.func84, Try.ntmps84
    go_wp2_with fail
    go_ret
    exact ⟨ret_eq (bool_eq HV.out.symm), below1 _ _⟩

set_option maxHeartbeats 400000 in
theorem sign_any (w : World) (X : Nat → Prop) (v : Value) (neg : Bool) (xs : List Nat) (h : IntR w X v neg xs) :
    Calls Try.prog 55 #[v] w fun e w' => e = .returned (.int .i64 (sv neg xs).sign) ∧ Below w.heap.size w w' := by
  obtain ⟨A, c, rfl, h1, h2, H⟩ := h.open_
  have hlen := trimL_dig H.2
  have hpos := dig_len_pos (val xs)
  by_cases h0 : val xs = 0
  · have hn : trimL xs = [] := by rw [hlen, h0, dig_zero]
    have HN := Lib.hid hn
    have hs : (sv neg xs).sign = 0 := by unfold sv; rw [h0]; cases neg <;> simp
    have HS := Lib.hid hs
    clear hn hs hlen hpos h0
    go_enter Try.func55, Try.ntmps55
    go_wp2_with (go_at_call 90; refine (trim_any _ X _ xs (H.below (below1 _ _))).mono ?_; rintro e w' ⟨v1, rfl, hv1, rfl⟩; rw [HN.out] at hv1; obtain ⟨A1, c1, rfl, _, _, _⟩ := hv1.open_)
    go_ret
    exact ⟨ret_eq (int_eq HS.out.symm), below1 _ _⟩
  · have hl : 0 < (trimL xs).length := by rw [hlen]; omega
    have hlb : (((trimL xs).length : Int) == 0) = false := by rw [beq_eq_false_iff_ne]; omega
    have hs : (sv neg xs).sign = if neg then -1 else 1 := by
      unfold sv; cases neg
      · show ((val xs : Nat) : Int).sign = 1
        exact Int.sign_eq_one_of_pos (by omega)
      · show (-((val xs : Nat) : Int)).sign = -1
        exact Int.sign_eq_neg_one_of_neg (by omega)
    have HS := Lib.hid hs
    clear hs hlen hpos h0
    cases neg
    all_goals
      go_enter Try.func55, Try.ntmps55
      go_wp2_with (go_at_call 90; refine (trim_any _ X _ xs (H.below (below1 _ _))).mono ?_; rintro e w' ⟨v1, rfl, hv1, rfl⟩; obtain ⟨A1, c1, rfl, _, _, _⟩ := hv1.open_)
      go_ret
      exact ⟨ret_eq (int_eq HS.out.symm), below1 _ _⟩

set_option maxHeartbeats 400000 in
theorem made_any (w : World) (X : Nat → Prop) (neg : Bool) (v : Value) (xs : List Nat) (h : Words w X v xs) (hsz : xs.length ≤ 1099511627776) :
    Calls Try.prog 94 #[.bool neg, v] w fun e w' => ∃ v', e = .returned v' ∧ IntV w' (Old w) v' (sv neg xs) ∧ Below w.heap.size w w' := by
  go_enter Try.func94, Try.ntmps94
  go_wp2_with fail
  refine (rtrim_any _ X v xs (h.below (below1 _ _)) hsz).mono ?_
  rintro e w2 ⟨v1, rfl, h2, hb2⟩
  obtain ⟨A, c, rfl, hc, _, H2⟩ := h2.open_
  obtain ⟨L2, hB, hsz2⟩ := locs1 hb2
  have c2 := L2.cell
  have f2 := L2.frz
  cases neg
  all_goals
    go_wp2_with fail
    refine bodyPost_ret (by simp [results, Try.results94, go_sem, c2, f2] <;> rfl) rfl ⟨_, rfl, ?_, ?_⟩
    · refine ⟨_, by rw [sv_lt _ _ h.2]; simp; rfl, ?_⟩
      rw [sv_abs, ← trimL_dig h.2]
      exact (H2.keep (keep_set2 (by simp [Old]) _ _)).weak (by intro b _; simp [Old]; omega)
    · exact below_set2 hB (Nat.le_refl _) _ _

/-- Are two structs the same in sign and words? -/
def sameR (n1 : Bool) (xs : List Nat) (n2 : Bool) (ys : List Nat) : Bool := n1 == n2 && xs == ys
end Go.Proofs.Ytooheapikhdllaa

/- Neg, Abs, Bits of package integer; Clean, Neg, Abs, Valid, Sign, Bits of the reference. -/
namespace Go.Proofs.Ytooheapikhdllaa
open Go.RowKit
attribute [local go_sem ↓] Go.wp_at_zero Go.wp_at_succ

theorem sv_absI (neg : Bool) (xs : List Nat) : sv false xs = ((sv neg xs).natAbs : Int) := by rw [sv_abs, sv_false]

set_option maxHeartbeats 400000 in
theorem neg_any (w : World) (X : Nat → Prop) (v : Value) (neg : Bool) (xs : List Nat) (h : IntR w X v neg xs) (hsz : xs.length ≤ 1099511627776) :
    Calls Try.prog 57 #[v] w fun e w' => ∃ v', e = .returned v' ∧ IntV w' (Old w) v' (-(sv neg xs)) ∧ Below w.heap.size w w' := by
  obtain ⟨A, c, rfl, _, _, H⟩ := h.open_
  go_enter Try.func57, Try.ntmps57
  go_wp2_with fail
  refine (signed_any _ X _ _ xs (H.below (below2 _ _ _)) (by omega)).mono ?_
  rintro e w2 ⟨v2, rfl, h2, hb2⟩
  obtain ⟨b2, A2, n2, c2, rfl, h2⟩ := h2.op
  obtain ⟨La, Lr, hB, hsz2⟩ := locs2 hb2
  have cc := Lr.cell
  have cf := Lr.frz
  go_wp2_with fail
  refine bodyPost_ret (by simp [results, Try.results57, go_sem, cc, cf] <;> rfl) rfl ⟨_, rfl, ?_, below_set2 hB (by omega) _ _⟩
  have h3 := IntV.stored (g := w.heap.size + 1) (Y := Old w) h2 (by simp only [Old, World.size_alloc]; omega) (.bool b2) (.slice A2 n2 c2) (by intro b _ hb; simp only [Old, World.size_alloc] at hb ⊢; omega)
  rw [sv_not] at h3
  exact h3

set_option maxHeartbeats 400000 in
theorem rclean_any (w : World) (X : Nat → Prop) (v : Value) (neg : Bool) (xs : List Nat) (h : IntR w X v neg xs) (hsz : xs.length ≤ 1099511627776) :
    Calls Try.prog 60 #[v] w fun e w' => ∃ v', e = .returned v' ∧ IntV w' (Old w) v' (sv neg xs) ∧ Below w.heap.size w w' := by
  obtain ⟨A, c, rfl, _, _, H⟩ := h.open_
  go_enter Try.func60, Try.ntmps60
  go_wp2_with fail
  refine (made_any _ X _ _ xs (H.below (below2 _ _ _)) (by omega)).mono ?_
  rintro e w2 ⟨v2, rfl, h2, hb2⟩
  obtain ⟨b2, A2, n2, c2, rfl, h2⟩ := h2.op
  obtain ⟨La, Lr, hB, hsz2⟩ := locs2 hb2
  have cc := Lr.cell
  have cf := Lr.frz
  go_wp2_with fail
  refine bodyPost_ret (by simp [results, Try.results60, go_sem, cc, cf] <;> rfl) rfl ⟨_, rfl, ?_, below_set2 hB (by omega) _ _⟩
  have h3 := IntV.stored (g := w.heap.size + 1) (Y := Old w) h2 (by simp only [Old, World.size_alloc]; omega) (.bool b2) (.slice A2 n2 c2) (by intro b _ hb; simp only [Old, World.size_alloc] at hb ⊢; omega)
  exact h3

set_option maxHeartbeats 400000 in
theorem rneg_any (w : World) (X : Nat → Prop) (v : Value) (neg : Bool) (xs : List Nat) (h : IntR w X v neg xs) (hsz : xs.length ≤ 1099511627776) :
    Calls Try.prog 63 #[v] w fun e w' => ∃ v', e = .returned v' ∧ IntV w' (Old w) v' (-(sv neg xs)) ∧ Below w.heap.size w w' := by
  obtain ⟨A, c, rfl, _, _, H⟩ := h.open_
  go_enter Try.func63, Try.ntmps63
  go_wp2_with fail
  refine (made_any _ X _ _ xs (H.below (below2 _ _ _)) (by omega)).mono ?_
  rintro e w2 ⟨v2, rfl, h2, hb2⟩
  obtain ⟨b2, A2, n2, c2, rfl, h2⟩ := h2.op
  obtain ⟨La, Lr, hB, hsz2⟩ := locs2 hb2
  have cc := Lr.cell
  have cf := Lr.frz
  go_wp2_with fail
  refine bodyPost_ret (by simp [results, Try.results63, go_sem, cc, cf] <;> rfl) rfl ⟨_, rfl, ?_, below_set2 hB (by omega) _ _⟩
  have h3 := IntV.stored (g := w.heap.size + 1) (Y := Old w) h2 (by simp only [Old, World.size_alloc]; omega) (.bool b2) (.slice A2 n2 c2) (by intro b _ hb; simp only [Old, World.size_alloc] at hb ⊢; omega)
  rw [sv_not] at h3
  exact h3

/-- The bits of canonical words. -/
def bitsW (ws : List Nat) : Nat := 32 * (ws.length - 1) + Lib.bitLen (ws.getLastD 0)

theorem bitsW_nil : bitsW [] = 0 := rfl
theorem bitsW_last {ws : List Nat} (h : 0 < ws.length) : bitsW ws = 32 * (ws.length - 1) + Lib.bitLen (ws[ws.length - 1]'(by omega)) := by
  unfold bitsW
  congr 2
  have hne : ws ≠ [] := List.length_pos_iff.1 h
  rw [← List.getLast_eq_getElem hne]
  cases ws with
  | nil => exact absurd rfl hne
  | cons x xs => simp [List.getLastD_eq_getLast?, List.getLast?_eq_some_getLast]

set_option maxHeartbeats 1000000 in
theorem bits_any (w : World) (X : Nat → Prop) (v : Value) (neg : Bool) (xs : List Nat) (h : IntR w X v neg xs) (hsz : xs.length ≤ 1000000000000) :
    Calls Try.prog 77 #[v] w fun e w' => e = .returned (.int .i64 (bitsW (dig (val xs)) : Nat)) ∧ Below w.heap.size w w' := by
  obtain ⟨A, c, rfl, h1, h2, H⟩ := h.open_
  have hlen := trimL_len xs
  have hdig := trimL_dig H.2
  have HD := Lib.hid hdig
  clear hdig
  go_enter Try.func77, Try.ntmps77
  go_wp2_with fail
  refine (trim_any _ X _ xs (H.below (below1 _ _))).mono ?_
  rintro e w' ⟨v1, rfl, hv1, rfl⟩
  obtain ⟨A1, c1, rfl, _, _, H1⟩ := hv1.open_
  generalize hys : trimL xs = ys at *
  clear hys
  by_cases h0 : ys = []
  · subst h0
    go_wp2_with fail
    go_ret
    exact ⟨ret_eq (int_eq (by rw [← HD.out]; rfl)), below1 _ _⟩
  · have hl : 0 < ys.length := List.length_pos_iff.2 h0
    have hlb : ((ys.length : Int) == 0) = false := by rw [beq_eq_false_iff_ne]; omega
    obtain ⟨a, rfl, _, _, hc⟩ := H1.at_ (k := ys.length - 1) (by omega)
    have by_ := H1.lt (i := ys.length - 1) (by omega)
    have hb := Lib.bitLen_le ys[ys.length - 1] 32 (by omega) (by omega)
    clear h0 hv1 H1
    go_wp2_with (go_at_call 103; refine (len32_any _ _ (by omega) (by omega)).mono ?_; rintro e w' ⟨rfl, rfl⟩; rw [Int.toNat_natCast])
    go_ret
    refine ⟨ret_eq (int_eq ?_), below1 _ _⟩
    rw [← HD.out, bitsW_last hl]
    omega
end Go.Proofs.Ytooheapikhdllaa

/- Add and Sub of the reference. -/
namespace Go.Proofs.Ytooheapikhdllaa
open Go.RowKit
attribute [local go_sem ↓] Go.wp_at_zero Go.wp_at_succ
attribute [local go_sem] beq_self_eq_true

theorem val_add_lt {xs ys : List Nat} (hx : Ws xs) (hy : Ws ys) : val xs + val ys < 4294967296 ^ (xs.length + ys.length + 1) := by
  have h1 := val_lt hx
  have h2 := val_lt hy
  have h3 : 4294967296 ^ xs.length ≤ 4294967296 ^ (xs.length + ys.length) := Nat.pow_le_pow_right (by omega) (by omega)
  have h4 : 4294967296 ^ ys.length ≤ 4294967296 ^ (xs.length + ys.length) := Nat.pow_le_pow_right (by omega) (by omega)
  rw [Nat.pow_succ]
  omega

set_option maxHeartbeats 2000000 in
theorem radd_any (w : World) (X : Nat → Prop) (v1 v2 : Value) (n1 n2 : Bool) (xs ys : List Nat) (h1 : IntR w X v1 n1 xs) (h2 : IntR w X v2 n2 ys) (hs1 : xs.length ≤ 400000000000) (hs2 : ys.length ≤ 400000000000) :
    Calls Try.prog 82 #[v1, v2] w fun e w' => ∃ v', e = .returned v' ∧ IntV w' (Old w) v' (sv n1 xs + sv n2 ys) ∧ Below w.heap.size w w' := by
  obtain ⟨A, c, rfl, _, _, H1⟩ := h1.open_
  obtain ⟨B, d, rfl, _, _, H2⟩ := h2.open_
  have l1 := trimL_len xs
  have l2 := trimL_len ys
  have HL1 := Lib.hid (fun h : val (trimL ys) ≤ val (trimL xs) => trim_len_le H1.2 H2.2 (by rwa [val_trimL, val_trimL] at h))
  have HL2 := Lib.hid (fun h : val (trimL xs) ≤ val (trimL ys) => trim_len_le H2.2 H1.2 (by rwa [val_trimL, val_trimL] at h))
  have hv1 := val_trimL xs
  have hv2 := val_trimL ys
  have HV1 := Lib.hid hv1
  have HV2 := Lib.hid hv2
  have HC1 := Lib.hid (can_trimL H1.2)
  have HC2 := Lib.hid (can_trimL H2.2)
  clear hv1 hv2
  rw [← sv_trim n1 xs, ← sv_trim n2 ys]
  generalize hz : sv n1 (trimL xs) + sv n2 (trimL ys) = z
  have HZ := Lib.hid hz
  clear hz
  go_enter Try.func82, Try.ntmps82
  go_wp2_with fail
  have KS := boxes3 w #[.bool n1, .slice A xs.length c] #[.bool n2, .slice B ys.length d] #[.bool false, .slice none 0 0] 24 24 24
  have K1 := (H1.weak (Y := fun _ => False) (fun _ _ h => h.elim)).below (below3 w (.cells #[.bool n1, .slice A xs.length c] 24) (.cells #[.bool n2, .slice B ys.length d] 24) (.cells #[.bool false, .slice none 0 0] 24))
  have K2 := (H2.weak (Y := fun _ => False) (fun _ _ h => h.elim)).below (below3 w (.cells #[.bool n1, .slice A xs.length c] 24) (.cells #[.bool n2, .slice B ys.length d] 24) (.cells #[.bool false, .slice none 0 0] 24))
  obtain ⟨-, -, Lr, hB0, hsz0⟩ := locs3 (c1 := #[.bool n1, .slice A xs.length c]) (c2 := #[.bool n2, .slice B ys.length d]) (c3 := #[.bool false, .slice none 0 0]) (t1 := 24) (t2 := 24) (t3 := 24) (Below.refl _ (((w.alloc _).alloc _).alloc _))
  generalize (((w.alloc (.cells #[.bool n1, .slice A xs.length c] 24)).alloc (.cells #[.bool n2, .slice B ys.length d] 24)).alloc (.cells #[.bool false, .slice none 0 0] 24)) = w0 at *
  clear H1 H2 h1 h2
  go_region_held3 (fun w' => w'.cell? ⟨w.heap.size, 0, none⟩ = some (.bool n1) ∧ w'.cell? ⟨w.heap.size, 1, none⟩ = some (.slice A xs.length c) ∧ w'.cell? ⟨w.heap.size + 1, 0, none⟩ = some (.bool n2) ∧ w'.cell? ⟨w.heap.size + 1, 1, none⟩ = some (.slice B ys.length d))
    (first | exact (fun K => ⟨K.1.cell 0, K.1.cell 1, K.2.cell 0, K.2.cell 1⟩) (KS.out _ (k9.mono (by omega))) | exact (fun K => ⟨K.1.cell 0, K.1.cell 1, K.2.cell 0, K.2.cell 1⟩) (KS.out _ (ka.mono (by omega))) | exact (fun K => ⟨K.1.cell 0, K.1.cell 1, K.2.cell 0, K.2.cell 1⟩) (KS.out _ (kb.mono (by omega))) | exact (fun K => ⟨K.1.cell 0, K.1.cell 1, K.2.cell 0, K.2.cell 1⟩) (KS.out _ (Below.refl _ _).drew))
    (first
      | (go_at_call_of 95 (Value.slice A xs.length c); refine (rtrim_any _ (fun _ => False) (.slice A xs.length c) xs (K1.below (by first | exact kb | exact (Below.refl _ _).drew)) (by omega)).mono ?_; rintro e wa ⟨va, rfl, ha, hka⟩; have ka : Below w0.heap.size w0 wa := (by first | exact kb.trans (hka.mono kb.size) | exact undrew hka); have k9 := ka)
      | (go_at_call_of 95 (Value.slice B ys.length d); refine (rtrim_any _ (fun _ => False) (.slice B ys.length d) ys (K2.below (by first | exact ka | exact (Below.refl _ _).drew)) (by omega)).mono ?_; rintro e wb ⟨vb, rfl, hb, hkb⟩; have kb : Below w0.heap.size w0 wb := (by first | exact ka.trans (hkb.mono ka.size) | exact undrew hkb); have k9 := kb))
  all_goals
    first
      | (have ha1 := (ha.below hkb).weak (Y := fun _ => False) (fun _ _ h => h.elim)
         have hb1 := hb.weak (Y := fun _ => False) (fun _ _ h => h.elim)
         have k0 := kb
         clear ha hb ka kb hka hkb k9
         generalize wb = w1 at *)
      | (have ha1 := ha.weak (Y := fun _ => False) (fun _ _ h => h.elim)
         have hb1 := (hb.below hka).weak (Y := fun _ => False) (fun _ _ h => h.elim)
         have k0 := ka
         clear ha hb ka kb hka hkb k9
         generalize wa = w1 at *)
    have ha := ha1
    have hb := hb1
    clear ha1 hb1
    have KS1 : Hid (∀ W, Below (w.heap.size + 1 + 1) w1 W → Loc W w.heap.size 24 #[.bool n1, .slice A xs.length c] ∧ Loc W (w.heap.size + 1) 24 #[.bool n2, .slice B ys.length d]) := fun W hW => KS.out W ((k0.mono (by omega)).trans hW)
    have hB1 : Below w.heap.size w w1 := hB0.trans (k0.mono hB0.size)
    have Lr1 := Lr.below k0
    have hsz1 : w.heap.size + 3 ≤ w1.heap.size := by have := k0.size; omega
    clear KS K1 K2 hB0 Lr hsz0 k0
    have k2 := KS1.out w1 (Below.refl _ _)
    have ca := k2.1.cell
    have cb := k2.2.cell
    clear k2
    clear HV1 HV2
    generalize trimL xs = es at *
    generalize trimL ys = fs at *
    by_cases hn : n1 = n2
    · subst hn
      go_wp2_with fail
      go_region_held3 (fun w' => (w'.cell? ⟨w.heap.size, 0, none⟩ = some (.bool n1) ∧ w'.cell? ⟨w.heap.size, 1, none⟩ = some (.slice A xs.length c)) ∧ w'.cell? ⟨w.heap.size + 1, 0, none⟩ = some (.bool n1) ∧ w'.cell? ⟨w.heap.size + 1, 1, none⟩ = some (.slice B ys.length d))
        (first | exact cells_of (KS1.out _ (((k2.mono (by omega)).setCell (by simp) _).setCell (by simp) _)) | exact cells_of (KS1.out _ (k2.mono (by omega))) | exact cells_of (KS1.out _ (k1.mono (by omega))) | exact cells_of (KS1.out _ (Below.refl _ _).drew) | go_keep)
        (first
          | (go_at_call 108; refine (addWords_any _ (fun _ => False) va vb es fs (ha.below (Below.refl _ _).drew) (hb.below (Below.refl _ _).drew) (by omega)).mono ?_; rintro e w2 ⟨v', rfl, hp, hb2⟩; have k1 := below_undrew hb2)
          | (go_at_call 94; refine (made_any _ (fun _ => False) _ v' _ (hp.weak (fun _ _ h => h.elim)) (Nat.le_trans (dig_len_le (val_add_lt ha.2 hb.2)) (by omega))).mono ?_; rintro e w3 ⟨vs, rfl, hs, hb3⟩; have k2 := k1.trans (hb3.mono k1.size); have hk1 := k1.size; rw [sv_add_same _ es fs _ (val_dig _), HZ.out] at hs; obtain ⟨bs, As, ns, cs, rfl, Hs⟩ := hs.op; have Lr2 := Lr1.below k2; have cc := Lr2.cell; have cf := Lr2.frz))
      all_goals
        clear HL1 HL2 HC1 HC2 KS1 ca cb Lr1
        go_wp2_with fail
        refine bodyPost_ret (by simp [results, Try.results82, go_sem, cc, cf] <;> rfl) rfl ⟨_, rfl, IntV.stored (g := w.heap.size + 1 + 1) (Y := Old w) hs (by simp only [Old]; omega) _ _ (by intro b _ hb; simp only [Old] at hb ⊢; omega), below_set2 (hB1.trans (k2.mono (by omega))) (by omega) _ _⟩
    · have hn' : (n1 == n2) = false := by simpa using hn
      clear hn
      by_cases hlt : val es < val fs
      · have hcmp := cmpN_lt hlt
        have hlen := HL2.out (by omega)
        have HCM := Lib.hid hcmp
        have HLEN := Lib.hid hlen
        have HLT := Lib.hid hlt
        clear hcmp hlen HL1 HL2 hlt
        go_wp2_with fail
        refine (compareWords_any _ (fun _ => False) va vb es fs ha hb HC1.out HC2.out).mono ?_
        rintro e w' ⟨he, n, rfl⟩
        rw [HCM.out] at he
        subst he
        go_wp2_with fail
        go_region_held3 (fun w' => (w'.cell? ⟨w.heap.size, 0, none⟩ = some (.bool n1) ∧ w'.cell? ⟨w.heap.size, 1, none⟩ = some (.slice A xs.length c)) ∧ w'.cell? ⟨w.heap.size + 1, 0, none⟩ = some (.bool n2) ∧ w'.cell? ⟨w.heap.size + 1, 1, none⟩ = some (.slice B ys.length d))
          (first | exact cells_of (KS1.out _ (((k2.mono (by omega)).setCell (by simp) _).setCell (by simp) _)) | exact cells_of (KS1.out _ (k2.mono (by omega))) | exact cells_of (KS1.out _ (k1.mono (by omega))) | exact cells_of (KS1.out _ (below_drewN (Below.refl _ _) n).drew) | go_keep)
          (first
            | (go_at_call 110; refine (subWords_any _ (fun _ => False) vb va fs es (hb.below (below_drewN (Below.refl _ _) n).drew) (ha.below (below_drewN (Below.refl _ _) n).drew) (by omega) (by have := HLT.out; omega) HLEN.out).mono ?_; rintro e w2 ⟨v', rfl, hp, hb2⟩; have k1 : Below w1.heap.size w1 w2 := undrewN (undrew hb2))
            | (go_at_call 94; refine (made_any _ (fun _ => False) _ v' _ (hp.weak (fun _ _ h => h.elim)) (Nat.le_trans (dig_len_le (Nat.lt_of_le_of_lt (Nat.sub_le _ _) (val_lt hb.2))) (by omega))).mono ?_; rintro e w3 ⟨vs, rfl, hs, hb3⟩; have k2 := k1.trans (hb3.mono k1.size); have hk1 := k1.size; rw [sv_sub2 n1 n2 hn' es fs _ (Nat.le_of_lt HLT.out) (val_dig _), HZ.out] at hs; obtain ⟨bs, As, ns, cs, rfl, Hs⟩ := hs.op; have Lr2 := Lr1.below k2; have cc := Lr2.cell; have cf := Lr2.frz))
        all_goals
          clear HC1 HC2 KS1 ca cb Lr1
          go_wp2_with fail
          refine bodyPost_ret (by simp [results, Try.results82, go_sem, cc, cf] <;> rfl) rfl ⟨_, rfl, IntV.stored (g := w.heap.size + 1 + 1) (Y := Old w) hs (by simp only [Old]; omega) _ _ (by intro b _ hb; simp only [Old] at hb ⊢; omega), below_set2 (hB1.trans (k2.mono (by omega))) (by omega) _ _⟩
      · obtain ⟨cm, hcc, hcm0⟩ : ∃ cm, cmpN (val es) (val fs) = cm ∧ 0 ≤ cm := ⟨_, rfl, cmpN_ge hlt⟩
        have hlen := HL1.out (by omega)
        have HCM := Lib.hid hcc
        have HLEN := Lib.hid hlen
        have HLT := Lib.hid hlt
        clear hcc hlen HL1 HL2 hlt
        go_wp2_with fail
        refine (compareWords_any _ (fun _ => False) va vb es fs ha hb HC1.out HC2.out).mono ?_
        rintro e w' ⟨he, n, rfl⟩
        rw [HCM.out] at he
        subst he
        go_wp2_with fail
        go_region_held3 (fun w' => (w'.cell? ⟨w.heap.size, 0, none⟩ = some (.bool n1) ∧ w'.cell? ⟨w.heap.size, 1, none⟩ = some (.slice A xs.length c)) ∧ w'.cell? ⟨w.heap.size + 1, 0, none⟩ = some (.bool n2) ∧ w'.cell? ⟨w.heap.size + 1, 1, none⟩ = some (.slice B ys.length d))
          (first | exact cells_of (KS1.out _ (((k2.mono (by omega)).setCell (by simp) _).setCell (by simp) _)) | exact cells_of (KS1.out _ (k2.mono (by omega))) | exact cells_of (KS1.out _ (k1.mono (by omega))) | exact cells_of (KS1.out _ (below_drewN (Below.refl _ _) n).drew) | go_keep)
          (first
            | (go_at_call 110; refine (subWords_any _ (fun _ => False) va vb es fs (ha.below (below_drewN (Below.refl _ _) n).drew) (hb.below (below_drewN (Below.refl _ _) n).drew) (by omega) (by have := HLT.out; omega) HLEN.out).mono ?_; rintro e w2 ⟨v', rfl, hp, hb2⟩; have k1 : Below w1.heap.size w1 w2 := undrewN (undrew hb2))
            | (go_at_call 94; refine (made_any _ (fun _ => False) _ v' _ (hp.weak (fun _ _ h => h.elim)) (Nat.le_trans (dig_len_le (Nat.lt_of_le_of_lt (Nat.sub_le _ _) (val_lt ha.2))) (by omega))).mono ?_; rintro e w3 ⟨vs, rfl, hs, hb3⟩; have k2 := k1.trans (hb3.mono k1.size); have hk1 := k1.size; rw [sv_sub1 n1 n2 hn' es fs _ (Nat.le_of_not_lt HLT.out) (val_dig _), HZ.out] at hs; obtain ⟨bs, As, ns, cs, rfl, Hs⟩ := hs.op; have Lr2 := Lr1.below k2; have cc := Lr2.cell; have cf := Lr2.frz))
        all_goals
          clear HC1 HC2 KS1 ca cb Lr1
          go_wp2_with fail
          refine bodyPost_ret (by simp [results, Try.results82, go_sem, cc, cf] <;> rfl) rfl ⟨_, rfl, IntV.stored (g := w.heap.size + 1 + 1) (Y := Old w) hs (by simp only [Old]; omega) _ _ (by intro b _ hb; simp only [Old] at hb ⊢; omega), below_set2 (hB1.trans (k2.mono (by omega))) (by omega) _ _⟩

set_option maxHeartbeats 1000000 in
theorem rsub_any (w : World) (X : Nat → Prop) (v1 v2 : Value) (n1 n2 : Bool) (xs ys : List Nat) (h1 : IntR w X v1 n1 xs) (h2 : IntR w X v2 n2 ys) (hs1 : xs.length ≤ 100000000000) (hs2 : ys.length ≤ 100000000000) :
    Calls Try.prog 97 #[v1, v2] w fun e w' => ∃ v', e = .returned v' ∧ IntV w' (Old w) v' (sv n1 xs - sv n2 ys) ∧ Below w.heap.size w w' := by
  obtain ⟨A, c, rfl, _, _, H1⟩ := h1.open_
  obtain ⟨B, d, rfl, _, _, H2⟩ := h2.open_
  have hlb : (dig (-(sv n2 ys)).natAbs).length ≤ ys.length := by rw [Int.natAbs_neg, sv_abs]; exact dig_len_le (val_lt H2.2)
  go_enter Try.func97, Try.ntmps97
  go_wp2_with fail
  have KS := boxes3 w #[.bool n1, .slice A xs.length c] #[.bool n2, .slice B ys.length d] #[.bool false, .slice none 0 0] 24 24 24
  have K1 := (H1.weak (Y := fun _ => False) (fun _ _ h => h.elim)).below (below3 w (.cells #[.bool n1, .slice A xs.length c] 24) (.cells #[.bool n2, .slice B ys.length d] 24) (.cells #[.bool false, .slice none 0 0] 24))
  have K2 := (H2.weak (Y := fun _ => False) (fun _ _ h => h.elim)).below (below3 w (.cells #[.bool n1, .slice A xs.length c] 24) (.cells #[.bool n2, .slice B ys.length d] 24) (.cells #[.bool false, .slice none 0 0] 24))
  obtain ⟨-, -, Lr, hB0, hsz0⟩ := locs3 (c1 := #[.bool n1, .slice A xs.length c]) (c2 := #[.bool n2, .slice B ys.length d]) (c3 := #[.bool false, .slice none 0 0]) (t1 := 24) (t2 := 24) (t3 := 24) (Below.refl _ (((w.alloc _).alloc _).alloc _))
  generalize (((w.alloc (.cells #[.bool n1, .slice A xs.length c] 24)).alloc (.cells #[.bool n2, .slice B ys.length d] 24)).alloc (.cells #[.bool false, .slice none 0 0] 24)) = w1 at *
  clear H1 H2 h1 h2
  go_region_held3 (fun w' => (w'.cell? ⟨w.heap.size, 0, none⟩ = some (.bool n1) ∧ w'.cell? ⟨w.heap.size, 1, none⟩ = some (.slice A xs.length c)) ∧ w'.cell? ⟨w.heap.size + 1, 0, none⟩ = some (.bool n2) ∧ w'.cell? ⟨w.heap.size + 1, 1, none⟩ = some (.slice B ys.length d))
    (first | exact cells_of (KS.out _ (((k2.mono (by omega)).setCell (by simp) _).setCell (by simp) _)) | exact cells_of (KS.out _ (k2.mono (by omega))) | exact cells_of (KS.out _ (k1.mono (by omega))) | exact cells_of (KS.out _ (Below.refl _ _).drew) | go_keep)
    (first
      | (go_at_call 63; refine (rneg_any _ (fun _ => False) _ n2 ys ⟨_, rfl, K2.below (Below.refl _ _).drew⟩ (by omega)).mono ?_; rintro e w2 ⟨vn, rfl, hn, hb2⟩; have k1 := below_undrew hb2; obtain ⟨bn, An, nn, cn, rfl, hn⟩ := hn.op)
      | (go_at_call 82; refine (radd_any _ (fun _ => False) _ _ _ _ _ _ ⟨_, rfl, K1.below k1⟩ (hn.weak (fun _ _ h => h.elim)) (by omega) (by omega)).mono ?_; rintro e w3 ⟨vs, rfl, hs, hb3⟩; have k2 := k1.trans (hb3.mono k1.size); have hk1 := k1.size; rw [sv_dig, ← Int.sub_eq_add_neg] at hs; obtain ⟨bs, As, ns, cs, rfl, hs⟩ := hs.op; have Lr2 := Lr.below k2; have cc := Lr2.cell; have cf := Lr2.frz))
  all_goals
    clear KS Lr
    go_wp2_with fail
    refine bodyPost_ret (by simp [results, Try.results97, go_sem, cc, cf] <;> rfl) rfl ⟨_, rfl, IntV.stored (g := w.heap.size + 1 + 1) (Y := Old w) hs (by simp only [Old]; omega) _ _ (by intro b _ hb; simp only [Old] at hb ⊢; omega), below_set2 (hB0.trans (k2.mono (by omega))) (by omega) _ _⟩
end Go.Proofs.Ytooheapikhdllaa

/- Compare of package integer and of the reference. -/
namespace Go.Proofs.Ytooheapikhdllaa
open Go.RowKit
attribute [local go_sem ↓] Go.wp_at_zero Go.wp_at_succ
attribute [local go_sem] beq_self_eq_true

theorem sign_cases (a : Int) : (a < 0 ∧ a.sign = -1) ∨ (a = 0 ∧ a.sign = 0) ∨ (0 < a ∧ a.sign = 1) := by
  rcases Int.lt_trichotomy a 0 with h | h | h
  · exact Or.inl ⟨h, Int.sign_eq_neg_one_of_neg h⟩
  · exact Or.inr (Or.inl ⟨h, by rw [h]; rfl⟩)
  · exact Or.inr (Or.inr ⟨h, Int.sign_eq_one_of_pos h⟩)
theorem sv_cases (n : Bool) (xs : List Nat) : (sv n xs = (val xs : Nat)) ∨ (sv n xs = -((val xs : Nat) : Int)) := by
  cases n
  · exact Or.inl (sv_false xs)
  · exact Or.inr (sv_true xs)
theorem cmp_lt {a b : Int} (h : a.sign < b.sign) : (a - b).sign = -1 := by
  rcases sign_cases a with ⟨h1, e1⟩ | ⟨h1, e1⟩ | ⟨h1, e1⟩ <;> rcases sign_cases b with ⟨h2, e2⟩ | ⟨h2, e2⟩ | ⟨h2, e2⟩ <;> rw [e1, e2] at h <;>
    rcases sign_cases (a - b) with ⟨h3, e3⟩ | ⟨h3, e3⟩ | ⟨h3, e3⟩ <;> omega
theorem cmp_gt {a b : Int} (h : b.sign < a.sign) : (a - b).sign = 1 := by
  rcases sign_cases a with ⟨h1, e1⟩ | ⟨h1, e1⟩ | ⟨h1, e1⟩ <;> rcases sign_cases b with ⟨h2, e2⟩ | ⟨h2, e2⟩ | ⟨h2, e2⟩ <;> rw [e1, e2] at h <;>
    rcases sign_cases (a - b) with ⟨h3, e3⟩ | ⟨h3, e3⟩ | ⟨h3, e3⟩ <;> omega
theorem cmp_eq {n1 n2 : Bool} {xs ys : List Nat} (h : (sv n1 xs).sign = (sv n2 ys).sign) : (sv n1 xs).sign * cmpN (val xs) (val ys) = (sv n1 xs - sv n2 ys).sign := by
  have hc : (val xs < val ys ∧ cmpN (val xs) (val ys) = -1) ∨ (val xs = val ys ∧ cmpN (val xs) (val ys) = 0) ∨ (val ys < val xs ∧ cmpN (val xs) (val ys) = 1) := by
    rcases Nat.lt_trichotomy (val xs) (val ys) with h | h | h
    · exact Or.inl ⟨h, cmpN_lt h⟩
    · exact Or.inr (Or.inl ⟨h, cmpN_eq h⟩)
    · exact Or.inr (Or.inr ⟨h, cmpN_gt h⟩)
  have a1 := sv_cases n1 xs
  have a2 := sv_cases n2 ys
  generalize sv n1 xs = a at *
  generalize sv n2 ys = b at *
  rcases sign_cases a with ⟨h1, e1⟩ | ⟨h1, e1⟩ | ⟨h1, e1⟩ <;> rcases sign_cases b with ⟨h2, e2⟩ | ⟨h2, e2⟩ | ⟨h2, e2⟩ <;> rw [e1] at h ⊢ <;> rw [e2] at h <;>
    rcases sign_cases (a - b) with ⟨h3, e3⟩ | ⟨h3, e3⟩ | ⟨h3, e3⟩ <;> rw [e3] <;> rcases hc with ⟨h4, e4⟩ | ⟨h4, e4⟩ | ⟨h4, e4⟩ <;> rw [e4] <;> omega

theorem add_len (a b : Int) (k : Nat) (ha : (dig a.natAbs).length ≤ k) (hb : (dig b.natAbs).length ≤ k) : (dig (a + b).natAbs).length ≤ k + 1 := by
  have h1 := val_lt (can_dig a.natAbs).1
  have h2 := val_lt (can_dig b.natAbs).1
  rw [val_dig] at h1 h2
  have h3 : 4294967296 ^ (dig a.natAbs).length ≤ 4294967296 ^ k := Nat.pow_le_pow_right (by omega) ha
  have h4 : 4294967296 ^ (dig b.natAbs).length ≤ 4294967296 ^ k := Nat.pow_le_pow_right (by omega) hb
  refine dig_len_le ?_
  rw [Nat.pow_succ]
  omega
theorem sub_len (a b : Int) (k : Nat) (ha : (dig a.natAbs).length ≤ k) (hb : (dig b.natAbs).length ≤ k) : (dig (a - b).natAbs).length ≤ k + 1 := by
  rw [Int.sub_eq_add_neg]
  exact add_len a (-b) k ha (by rw [Int.natAbs_neg]; exact hb)
theorem sv_len (n : Bool) (xs : List Nat) (h : Ws xs) : (dig (sv n xs).natAbs).length ≤ xs.length := by rw [sv_abs]; exact dig_len_le (val_lt h)

set_option maxHeartbeats 2000000 in
theorem icompare_any (w : World) (X : Nat → Prop) (v1 v2 : Value) (n1 n2 : Bool) (xs ys : List Nat) (h1 : IntR w X v1 n1 xs) (h2 : IntR w X v2 n2 ys) :
    Calls Try.prog 70 #[v1, v2] w fun e w' => e = .returned (.int .i64 (sv n1 xs - sv n2 ys).sign) ∧ Below w.heap.size w w' := by
  obtain ⟨A, c, rfl, _, _, H1⟩ := h1.open_
  obtain ⟨B, d, rfl, _, _, H2⟩ := h2.open_
  have HC1 := Lib.hid (can_trimL H1.2)
  have HC2 := Lib.hid (can_trimL H2.2)
  have c1 := cmp_lt (a := sv n1 xs) (b := sv n2 ys)
  have c2 := cmp_gt (a := sv n1 xs) (b := sv n2 ys)
  have c3 := cmp_eq (n1 := n1) (n2 := n2) (xs := xs) (ys := ys)
  have hsa := sign_cases (sv n1 xs)
  have hsb := sign_cases (sv n2 ys)
  have hv : cmpN (val (trimL xs)) (val (trimL ys)) = cmpN (val xs) (val ys) := by rw [val_trimL, val_trimL]
  have HV := Lib.hid hv
  have hbr : -1 ≤ (sv n1 xs - sv n2 ys).sign ∧ (sv n1 xs - sv n2 ys).sign ≤ 1 := by
    rcases sign_cases (sv n1 xs - sv n2 ys) with ⟨_, e⟩ | ⟨_, e⟩ | ⟨_, e⟩ <;> rw [e] <;> omega
  generalize hr : (sv n1 xs - sv n2 ys).sign = r at *
  generalize hs1 : (sv n1 xs).sign = s1 at *
  generalize hs2 : (sv n2 ys).sign = s2 at *
  generalize cmpN (val xs) (val ys) = cm at *
  have hb1 : -1 ≤ s1 ∧ s1 ≤ 1 := by omega
  have hb2 : -1 ≤ s2 ∧ s2 ≤ 1 := by omega
  have G1 := Lib.hid hs1
  have G2 := Lib.hid hs2
  have C1 := Lib.hid c1
  have C2 := Lib.hid c2
  have C3 := Lib.hid c3
  clear hr hs1 hs2 hsa hsb c1 c2 c3 hv
  go_enter Try.func70, Try.ntmps70
  go_wp2_with fail
  have K1 := (H1.weak (Y := fun _ => False) (fun _ _ h => h.elim)).below (below2 w (.cells #[.bool n1, .slice A xs.length c] 24) (.cells #[.bool n2, .slice B ys.length d] 24))
  have K2 := (H2.weak (Y := fun _ => False) (fun _ _ h => h.elim)).below (below2 w (.cells #[.bool n1, .slice A xs.length c] 24) (.cells #[.bool n2, .slice B ys.length d] 24))
  obtain ⟨La, Lb, hB0, hsz0⟩ := locs2 (c1 := #[.bool n1, .slice A xs.length c]) (c2 := #[.bool n2, .slice B ys.length d]) (t1 := 24) (t2 := 24) (Below.refl _ ((w.alloc _).alloc _))
  generalize ((w.alloc (.cells #[.bool n1, .slice A xs.length c] 24)).alloc (.cells #[.bool n2, .slice B ys.length d] 24)) = w0 at *
  clear H1 H2 h1 h2
  have KS : Hid (∀ W, Below w0.heap.size w0 W → ((W.cell? ⟨w.heap.size, 0, none⟩ = some (.bool n1) ∧ W.cell? ⟨w.heap.size, 1, none⟩ = some (.slice A xs.length c)) ∧ W.cell? ⟨w.heap.size + 1, 0, none⟩ = some (.bool n2) ∧ W.cell? ⟨w.heap.size + 1, 1, none⟩ = some (.slice B ys.length d))) := fun W hW => cells_of ⟨La.below hW, Lb.below hW⟩
  go_region_held3 (fun W => ((W.cell? ⟨w.heap.size, 0, none⟩ = some (.bool n1) ∧ W.cell? ⟨w.heap.size, 1, none⟩ = some (.slice A xs.length c)) ∧ W.cell? ⟨w.heap.size + 1, 0, none⟩ = some (.bool n2) ∧ W.cell? ⟨w.heap.size + 1, 1, none⟩ = some (.slice B ys.length d)))
    (first | exact KS.out _ k2 | exact KS.out _ k1 | exact KS.out _ (Below.refl _ _).drew)
    (first
      | (go_at_call_of 55 (Value.agg #[Value.bool n1, Value.slice A xs.length c]); refine (sign_any _ (fun _ => False) _ n1 xs ⟨_, rfl, K1.below (Below.refl _ _).drew⟩).mono ?_; rintro e wa ⟨he, hka⟩; rw [G1.out] at he; subst he; have k1 := below_undrew hka)
      | (go_at_call_of 55 (Value.agg #[Value.bool n2, Value.slice B ys.length d]); refine (sign_any _ (fun _ => False) _ n2 ys ⟨_, rfl, K2.below k1⟩).mono ?_; rintro e wb ⟨he, hkb⟩; rw [G2.out] at he; subst he; have k2 := k1.trans (hkb.mono k1.size)))
  all_goals
    have hBn := hB0.trans (k2.mono (by omega))
    have Ka := K1.below k2
    have Kb := K2.below k2
    have La2 := La.below k2
    have Lb2 := Lb.below k2
    clear K1 K2 La Lb KS k1 hka hkb
    by_cases hlt : s1 < s2
    · have HR := Lib.hid (C1.out hlt)
      go_wp2_with fail
      go_ret
      exact ⟨ret_eq (int_eq HR.out.symm), hBn⟩
    · by_cases hgt : s2 < s1
      · have HR := Lib.hid (C2.out hgt)
        go_wp2_with fail
        go_ret
        exact ⟨ret_eq (int_eq HR.out.symm), hBn⟩
      · obtain rfl : s1 = s2 := by omega
        have HR := Lib.hid (C3.out rfl)
        have KS : Hid (∀ W, Below wb.heap.size wb W → ((W.cell? ⟨w.heap.size, 0, none⟩ = some (.bool n1) ∧ W.cell? ⟨w.heap.size, 1, none⟩ = some (.slice A xs.length c)) ∧ W.cell? ⟨w.heap.size + 1, 0, none⟩ = some (.bool n2) ∧ W.cell? ⟨w.heap.size + 1, 1, none⟩ = some (.slice B ys.length d))) := fun W hW => cells_of ⟨La2.below hW, Lb2.below hW⟩
        go_wp2_with fail
        go_region_held3 (fun W => ((W.cell? ⟨w.heap.size, 0, none⟩ = some (.bool n1) ∧ W.cell? ⟨w.heap.size, 1, none⟩ = some (.slice A xs.length c)) ∧ W.cell? ⟨w.heap.size + 1, 0, none⟩ = some (.bool n2) ∧ W.cell? ⟨w.heap.size + 1, 1, none⟩ = some (.slice B ys.length d)))
          (first | exact KS.out _ (Below.refl _ _).drew | exact KS.out _ (below_drewN (Below.refl _ _) _))
          (first
            | (go_at_call_of 90 (Value.slice A xs.length c); refine (trim_any _ (fun _ => False) (.slice A xs.length c) xs (Ka.below (Below.refl _ _).drew)).mono ?_; rintro e w' ⟨va, rfl, ha, rfl⟩)
            | (go_at_call_of 90 (Value.slice B ys.length d); refine (trim_any _ (fun _ => False) (.slice B ys.length d) ys (Kb.below (Below.refl _ _).drew)).mono ?_; rintro e w' ⟨vb, rfl, hb, rfl⟩)
            | (go_at_call 101; refine (compare_any _ (fun _ => False) va vb _ _ ha hb HC1.out HC2.out).mono ?_; rintro e w' ⟨he, n, rfl⟩; rw [HV.out] at he; subst he))
        all_goals
          try go_wp2_with fail
          go_ret
          refine ⟨ret_eq (int_eq ?_), hBn.trans ((below_drewN (Below.refl _ _) _).mono hBn.size)⟩
          rw [HR.out, IntKind.wrap_i64]
          omega
end Go.Proofs.Ytooheapikhdllaa

/- append(own row, words...): one law for a source that is nil or not; in a list of operations, and as one step of a region that draws. -/
namespace Go.Proofs.Ytooheapikhdllaa
open Go.RowKit

theorem run_append_none {P : Program} {w : World} (base : Nat) (t ty e : TypeId) (i : TypeInfo) (size c : Nat) (ht : P.underlying t = some (.slice e)) (hi : P.info? e = some i)
    (v : Value) (n : Nat) (xs : List Value) (hown : w.ownsRow base e size v n xs) :
    (Builtin.append_ #[t, t] ty #[v, .slice none 0 c]).run P w = .ok v w := by
  rcases hown.2 with ⟨rfl, rfl⟩ | ⟨g, cap, cur, rfl, _, _, hnc, _⟩
  · simp [Builtin.append_, run_underlying ht, sizeOf, typeInfo, hi, Builtin.lenOf, Builtin.firstCells]
  · simp [Builtin.append_, run_underlying ht, sizeOf, typeInfo, hi, Builtin.lenOf, Builtin.firstCells, hnc, storeCells]

section
variable {P : Program} {ops : Array Oper} {rest : List Oper} {o : Oper} {a : Act} {K : Act → World → Prop} {Q : Exit → Act → World → Prop} {E : Prop} {t e : TypeId} {X : Nat → Prop}

theorem wp_words (w : World) (s x : Operand) (ho : o.op = .call { callee := .builtin .append, args := #[s, x], argTypes := #[t, t] })
    (ht : P.underlying t = some (.slice e)) (hE : (P.info? e).map (fun i => (i.zero, i.size, i.bytes)) = some (some (.int .u32 0), 1, 4))
    (base : Nat) (v : Value) (n : Nat) (xs : List Value) (hs : a.eval s = v) (hown : w.ownsRow base e 1 v n xs)
    (ys : List Nat) (vx : Value) (hx : a.eval x = vx) (W : Words w X vx ys)
    (hn : n + ys.length ≤ 35184372088832) (hm : n + ys.length ≤ maxLen) (hbase : base ≤ w.heap.size)
    (h : ∀ v' w', w'.ownsRow base e 1 v' (n + ys.length) (xs ++ nums .u32 ys) → w.grownBy w' v.ownBlock → (v'.ownBlock = v.ownBlock ∨ ∀ b, v'.ownBlock = some b → base ≤ b) → K (a.put o.dst v') w') : o.wp P a w K Q := by
  obtain ⟨i, hi, hz0, hz1, hz2⟩ := info_parts hE
  obtain ⟨A, c, rfl, _, _, H⟩ := W.open_
  rcases A with _ | ad
  · have h0 : ys = [] := by
      rcases ys with _ | ⟨y, ys⟩
      · rfl
      · obtain ⟨_, e1, _⟩ := H.at_ (k := 0) (by simp)
        cases e1
    subst h0
    have hr := run_append_none (P := P) (w := w) base t o.type e i 1 c ht hi v n xs hown
    unfold Oper.wp execOp
    simp only [List.length_nil] at hx h
    simp only [ho, resolve, invoke, builtin, Sem.run_bind, Sem.run_pure, Result.andThen_ok, List.map_toArray, List.map_cons, List.map_nil, hs, hx, hr]
    exact h v w (by simpa [nums] using hown) ⟨rfl, rfl, rfl, Nat.le_refl _, fun _ _ _ => rfl⟩ (Or.inl rfl)
  · refine wp_append_own w s x t ho base e i (.int .u32 0) 1 4 ht hi hz0 hz1 hz2 rfl (by omega) v n xs hs hown ad ys.length c (nums .u32 ys) hx (by simp) (fun j u hu => H.news j u hu) (nums_one _ _) hm (by omega) hbase ?_
    intro v' w' h1 h2 _
    refine h v' w' h1 h2 ?_
    right
    intro b hb
    exact (h1.lt b hb).1

/-- The same, as a step of a region that draws. -/
theorem step_words (w : World) (hgd : o.guard = none) (s x : Operand) (ho : o.op = .call { callee := .builtin .append, args := #[s, x], argTypes := #[t, t] })
    (ht : P.underlying t = some (.slice e)) (hE : (P.info? e).map (fun i => (i.zero, i.size, i.bytes)) = some (some (.int .u32 0), 1, 4))
    (base : Nat) (v : Value) (n : Nat) (xs : List Value) (hs : a.eval s = v) (hown : w.ownsRow base e 1 v n xs)
    (ys : List Nat) (vx : Value) (hx : a.eval x = vx) (W : Words w X vx ys)
    (hn : n + ys.length ≤ 35184372088832) (hm : n + ys.length ≤ maxLen) (hbase : base ≤ w.heap.size)
    (h : ∀ v' w', w'.ownsRow base e 1 v' (n + ys.length) (xs ++ nums .u32 ys) → w.grownBy w' v.ownBlock → (v'.ownBlock = v.ownBlock ∨ ∀ b, v'.ownBlock = some b → base ≤ b) → K (a.put o.dst v') w') :
    if Region.wanted o (yielded ops a.tmps) = true then Oper.wp P o a w K Q else E := by
  have hw : Region.wanted o (yielded ops a.tmps) = true := by simp [Region.wanted, hgd]
  rw [if_pos hw]
  exact wp_words w s x ho ht hE base v n xs hs hown ys vx hx W hn hm hbase h

/-- The same, in a list of operations. -/
theorem wpList_words (w : World) (hgd : o.guard = none) (s x : Operand) (ho : o.op = .call { callee := .builtin .append, args := #[s, x], argTypes := #[t, t] })
    (ht : P.underlying t = some (.slice e)) (hE : (P.info? e).map (fun i => (i.zero, i.size, i.bytes)) = some (some (.int .u32 0), 1, 4))
    (base : Nat) (v : Value) (n : Nat) (xs : List Value) (hs : a.eval s = v) (hown : w.ownsRow base e 1 v n xs)
    (ys : List Nat) (vx : Value) (hx : a.eval x = vx) (W : Words w X vx ys)
    (hn : n + ys.length ≤ 35184372088832) (hm : n + ys.length ≤ maxLen) (hbase : base ≤ w.heap.size)
    (h : ∀ v' w', w'.ownsRow base e 1 v' (n + ys.length) (xs ++ nums .u32 ys) → w.grownBy w' v.ownBlock → (v'.ownBlock = v.ownBlock ∨ ∀ b, v'.ownBlock = some b → base ≤ b) → wpList P ops Q rest (a.put o.dst v') w') :
    wpList P ops Q (o :: rest) a w :=
  wpList_plain hgd fun _ hK => wp_words w s x ho ht hE base v n xs hs hown ys vx hx W hn hm hbase fun v' w' h1 h2 h3 => hK _ _ (h v' w' h1 h2 h3)
end
end Go.Proofs.Ytooheapikhdllaa

/- mulWords of the reference. -/
namespace Go.Proofs.Ytooheapikhdllaa
open Go.RowKit
attribute [local go_sem ↓] Go.wp_at_zero Go.wp_at_succ

theorem below_via {a W w' : World} (hb : Below W.heap.size W w') (h : Below a.heap.size a W) : Below a.heap.size a w' := h.trans (hb.mono h.size)
theorem len_mul {xs ys : List Nat} (hx : Ws xs) (hy : Ws ys) : (dig (val xs * val ys)).length ≤ xs.length + ys.length := by
  refine dig_len_le ?_
  rw [Nat.pow_add]
  have h1 := val_lt hx
  have h2 := val_lt hy
  exact Nat.mul_lt_mul'' h1 h2
theorem len_mul1 {xs : List Nat} (hx : Ws xs) {d : Nat} (hd : d < 4294967296) : (dig (val xs * d)).length ≤ xs.length + 1 := by
  refine dig_len_le ?_
  rw [Nat.pow_succ]
  exact Nat.mul_lt_mul'' (val_lt hx) hd
theorem ws_dig (n : Nat) : Ws (dig n) := (can_dig n).1

set_option maxRecDepth 20000 in
set_option maxHeartbeats 1000000 in
theorem mulWords_any (w : World) (X : Nat → Prop) (va vb : Value) (xs ys : List Nat) (ha : Words w X va xs) (hb : Words w X vb ys) (hs : xs.length + ys.length ≤ 100000000000) :
    Calls Try.prog 111 #[va, vb] w fun e w' => ∃ v', e = .returned v' ∧ Words w' (Old w) v' (dig (val xs * val ys)) ∧ Below w.heap.size w w' := by
  obtain ⟨A, c, rfl, hc, _, HA⟩ := ha.open_
  obtain ⟨B, d, rfl, hd, _, HB⟩ := hb.open_
  have hm := HB.lt_max
  go_enter Try.func111, Try.ntmps111
  go_wp2_with fail
  go_loopw [5, 6] (fun o i wr => ∃ (k : Nat), k ≤ ys.length ∧ i = .int .i64 ((k : Int) - 1) ∧ Words wr (Old w) o (dig (val xs * val (ys.drop k))) ∧ Below w.heap.size w wr) (fun _ i _ => (intOf i + 1).toNat)
  case atStart => exact ⟨ys.length, by omega, rfl, by rw [List.drop_length]; show Words _ _ _ (dig (val xs * 0)); rw [Nat.mul_zero, dig_zero]; exact Words.lit [] (Loc.new _ _ _) (by simp) (by simp [Old]) (by unfold maxLen; simp), below1 _ _⟩
  case round =>
    obtain ⟨k, hk, hi, hw, hbr⟩ := hrel
    by_cases hk0 : k = 0
    · subst hk0
      obtain rfl := hi
      rw [List.drop_zero] at hw
      go_wp2_with fail
      go_ret
      exact ⟨_, rfl, hw, hbr⟩
    · obtain ⟨j, rfl⟩ : ∃ j, k = j + 1 := ⟨k - 1, by omega⟩
      obtain rfl := hi.trans (show Value.int .i64 (((j + 1 : Nat) : Int) - 1) = .int .i64 (j : Int) by congr 1; omega)
      clear hi
      have HBr := HB.below hbr
      have HAr := HA.below hbr
      obtain ⟨a, rfl, _, _, hcb⟩ := HBr.at_ (k := j) (by omega)
      have hlt := HB.lt (i := j) (by omega)
      have KS : Hid (∀ W, Below wr.heap.size wr W → W.cell? (a.add j) = some (.int .u32 (ys[j] : Nat))) := fun W hW => by
        obtain ⟨a', e, _, _, hc⟩ := (HBr.below hW).at_ (k := j) (by omega)
        injection e with e
        subst e
        exact hc
      have hsum : val xs * val (ys.drop j) = val (0 :: dig (val xs * val (ys.drop (j + 1)))) + val (dig (val xs * ys[j])) := by
        rw [List.drop_eq_getElem_cons (by omega : j < ys.length), val_dig]
        show val xs * (ys[j] + 4294967296 * val (ys.drop (j + 1))) = 0 + 4294967296 * val (dig _) + _
        rw [val_dig, Nat.mul_add, ← Nat.mul_assoc, Nat.mul_comm (val xs) 4294967296, Nat.mul_assoc]
        omega
      have hl1 := len_mul HA.2 (ys := ys.drop (j + 1)) (fun x hx => HB.2 x (List.mem_of_mem_drop hx))
      have hl2 := len_mul1 HA.2 hlt
      rw [List.length_drop] at hl1
      have HSUM := Lib.hid hsum
      have HL1 := Lib.hid hl1
      have HL2 := Lib.hid hl2
      have b1 : (0 : Int) ≤ (j : Int) := by omega
      have b2 : (j : Int) < (ys.length : Int) := by omega
      have HWD := Lib.hid (ws_dig (val xs * val (ys.drop (j + 1))))
      clear hsum hl1 hl2
      generalize dig (val xs * val (ys.drop (j + 1))) = qs at *
      generalize hx : ys[j] = x at *
      generalize hps : dig (val xs * x) = ps at *
      have HPS := Lib.hid hps
      clear hps hx
      have hql := HL1.out
      have hpl := HL2.out
      go_wp2_with fail
      have hwx := hw.weak (Y := fun _ => False) (fun _ _ h => h.elim)
      have hw64 : IntKind.u64.wrap ((x : Nat) : Int) = ((x : Nat) : Int) := by rw [IntKind.wrap_u64]; omega
      have ho0 : Hid ((wr.alloc (.cells #[.int .u32 0] 82)).drew.ownsRow wr.heap.size 82 1 (.slice (some ⟨wr.heap.size, 0, none⟩) 1 1) 1 [.int .u32 0]) := World.ownsRow_lit (e := 82) (size := 1) wr #[.int .u32 0] 1 (Nat.le_refl _) (by unfold maxLen; omega) rfl
      have hz0 : Hid (∀ {v1 : Value} {w1 w2 : World}, w1.ownsRow wr.heap.size 82 1 v1 (1 + qs.length) ([.int .u32 0] ++ nums .u32 qs) → Below w1.heap.size w1 w2 → Words w2 (fun _ => False) v1 (0 :: qs)) := fun ho hb => (Words.of_own (xs := 0 :: qs) (by rw [List.length_cons, Nat.add_comm]; exact ho) (by intro x hx; rcases List.mem_cons.1 hx with e | e; (subst e; omega); exact HWD.out x e) (fun _ _ _ _ h => h)).below hb
      go_region_held3 (fun W => W.cell? (a.add j) = some (.int .u32 (x : Nat)))
        (first | exact KS.out _ (by repeat' (first | exact a1 | exact t2 | exact t3 | exact Below.refl _ _ | refine Below.drew ?_ | refine Below.alloc ?_ (by first | exact Nat.le_refl _ | exact t2.size) _)))
        (first
          | (go_at_call 119; refine (timesWord_any _ (fun _ => False) _ xs x ((HAr.weak (Y := fun _ => False) (fun _ _ h => h.elim)).below (by repeat' (first | exact a1 | exact t2 | exact t3 | exact Below.refl _ _ | refine Below.drew ?_ | refine Below.alloc ?_ (by first | exact Nat.le_refl _ | exact t2.size) _))) (by omega) (by omega)).mono ?_; rintro e w2 ⟨v2, rfl, h2, hb2⟩; rw [HPS.out] at h2; have hw1 := hz0.out hown1 hb2; have t2 : Below wr.heap.size wr w2 := below_via hb2 (by repeat' (first | exact a1 | exact t2 | exact t3 | exact Below.refl _ _ | refine Below.drew ?_ | refine Below.alloc ?_ (by first | exact Nat.le_refl _ | exact t2.size) _)))
          | (go_at_call 108; refine (addWords_any _ (fun _ => False) _ _ (0 :: qs) ps hw1 (h2.weak (fun _ _ h => h.elim)) (by simp only [List.length_cons]; omega)).mono ?_; rintro e w3 ⟨v3, rfl, h3, hb3⟩; rw [← HSUM.out] at h3; have t3 := t2.trans (hb3.mono t2.size))
          | (refine step_words _ rfl _ _ rfl Try.underlying22 info_u32 wr.heap.size _ 1 [.int .u32 0] rfl ho0.out qs _ rfl (hwx.below (below1 wr _).drew) (by omega) (by unfold maxLen; omega) (by simp) ?_; intro v1 w1 hown1 hg1 hob1; have a1 : Below wr.heap.size wr w1 := below_own (below1 wr (.cells #[.int .u32 0] 82)).drew ho0.out hg1 (Nat.le_refl _) (by simp)))
      all_goals
        clear KS ho0 hz0
        go_wp2_with fail
        go_roundw
        case rel => exact ⟨j, by omega, by go_num, h3.weak (fun b _ hb => by simp only [Old] at hb ⊢; have := hbr.size; have := t2.size; omega), hbr.trans (t3.mono hbr.size)⟩
        case measure => simp only [intOf]; omega
end Go.Proofs.Ytooheapikhdllaa

/- Mul of the reference. -/
namespace Go.Proofs.Ytooheapikhdllaa
open Go.RowKit
attribute [local go_sem ↓] Go.wp_at_zero Go.wp_at_succ

set_option maxHeartbeats 1000000 in
theorem rmul_any (w : World) (X : Nat → Prop) (v1 v2 : Value) (n1 n2 : Bool) (xs ys : List Nat) (h1 : IntR w X v1 n1 xs) (h2 : IntR w X v2 n2 ys) (hs1 : xs.length ≤ 40000000000) (hs2 : ys.length ≤ 40000000000) :
    Calls Try.prog 83 #[v1, v2] w fun e w' => ∃ v', e = .returned v' ∧ IntV w' (Old w) v' (sv n1 xs * sv n2 ys) ∧ Below w.heap.size w w' := by
  obtain ⟨A, c, rfl, _, _, H1⟩ := h1.open_
  obtain ⟨B, d, rfl, _, _, H2⟩ := h2.open_
  have l1 := trimL_len xs
  have l2 := trimL_len ys
  have hlm := len_mul (can_trimL H1.2).1 (can_trimL H2.2).1
  have HLM := Lib.hid hlm
  clear hlm
  go_enter Try.func83, Try.ntmps83
  go_wp2_with fail
  have KS := boxes3 w #[.bool n1, .slice A xs.length c] #[.bool n2, .slice B ys.length d] #[.bool false, .slice none 0 0] 24 24 24
  have K1 := (H1.weak (Y := fun _ => False) (fun _ _ h => h.elim)).below (below3 w (.cells #[.bool n1, .slice A xs.length c] 24) (.cells #[.bool n2, .slice B ys.length d] 24) (.cells #[.bool false, .slice none 0 0] 24))
  have K2 := (H2.weak (Y := fun _ => False) (fun _ _ h => h.elim)).below (below3 w (.cells #[.bool n1, .slice A xs.length c] 24) (.cells #[.bool n2, .slice B ys.length d] 24) (.cells #[.bool false, .slice none 0 0] 24))
  obtain ⟨-, -, Lr, hB0, hsz0⟩ := locs3 (c1 := #[.bool n1, .slice A xs.length c]) (c2 := #[.bool n2, .slice B ys.length d]) (c3 := #[.bool false, .slice none 0 0]) (t1 := 24) (t2 := 24) (t3 := 24) (Below.refl _ (((w.alloc _).alloc _).alloc _))
  generalize (((w.alloc (.cells #[.bool n1, .slice A xs.length c] 24)).alloc (.cells #[.bool n2, .slice B ys.length d] 24)).alloc (.cells #[.bool false, .slice none 0 0] 24)) = w1 at *
  clear H1 H2 h1 h2
  go_region_held3 (fun w' => (w'.cell? ⟨w.heap.size, 0, none⟩ = some (.bool n1) ∧ w'.cell? ⟨w.heap.size, 1, none⟩ = some (.slice A xs.length c)) ∧ w'.cell? ⟨w.heap.size + 1, 0, none⟩ = some (.bool n2) ∧ w'.cell? ⟨w.heap.size + 1, 1, none⟩ = some (.slice B ys.length d))
    (first | exact cells_of (KS.out _ (((k4.mono (by omega)).setCell (by simp) _).setCell (by simp) _)) | exact cells_of (KS.out _ (k4.mono (by omega))) | exact cells_of (KS.out _ (k3.mono (by omega))) | exact cells_of (KS.out _ (k2.mono (by omega))) | exact cells_of (KS.out _ (k1.mono (by omega))) | exact cells_of (KS.out _ (Below.refl _ _).drew) | go_keep)
    (first
      | (go_at_call_of 95 (Value.slice A xs.length c); refine (rtrim_any _ (fun _ => False) (.slice A xs.length c) xs (K1.below (Below.refl _ _).drew) (by omega)).mono ?_; rintro e wa ⟨va, rfl, ha, hka⟩; have k1 := below_undrew hka)
      | (go_at_call_of 95 (Value.slice B ys.length d); refine (rtrim_any _ (fun _ => False) (.slice B ys.length d) ys (K2.below k1) (by omega)).mono ?_; rintro e wb ⟨vb, rfl, hb, hkb⟩; have k2 := k1.trans (hkb.mono k1.size); have ha2 := ha.below hkb)
      | (go_at_call 111; refine (mulWords_any _ (fun _ => False) va vb _ _ (ha2.weak (fun _ _ h => h.elim)) (hb.weak (fun _ _ h => h.elim)) (by omega)).mono ?_; rintro e wc ⟨vm, rfl, hm, hkc⟩; have k3 := k2.trans (hkc.mono k2.size))
      | (go_at_call 94; refine (made_any _ (fun _ => False) _ vm _ (hm.weak (fun _ _ h => h.elim)) (by have := HLM.out; omega)).mono ?_; rintro e w3 ⟨vs, rfl, hs, hb3⟩; have k4 := k3.trans (hb3.mono k3.size); have hk3 := k3.size; rw [sv_mul n1 n2 (trimL xs) (trimL ys) _ (val_dig _), sv_trim, sv_trim] at hs; obtain ⟨bs, As, ns, cs, rfl, hs⟩ := hs.op; have Lr2 := Lr.below k4; have cc := Lr2.cell; have cf := Lr2.frz))
  all_goals
    clear KS Lr
    go_wp2_with fail
    refine bodyPost_ret (by simp [results, Try.results83, go_sem, cc, cf] <;> rfl) rfl ⟨_, rfl, IntV.stored (g := w.heap.size + 1 + 1) (Y := Old w) hs (by simp only [Old]; omega) _ _ (by intro b _ hb; simp only [Old] at hb ⊢; omega), below_set2 (hB0.trans (k4.mono (by omega))) (by omega) _ _⟩
end Go.Proofs.Ytooheapikhdllaa

/- Parse: the sign cut off. -/
namespace Go.Proofs.Ytooheapikhdllaa
open Go.RowKit

/-- A string of bytes. -/
abbrev str (bs : List UInt8) : Value := .string ⟨bs.toArray⟩
def isNeg (bs : List UInt8) : Bool := Lib.hasPrefix bs [45]
def strip (bs : List UInt8) : List UInt8 := if isNeg bs then bs.drop 1 else bs

theorem isNeg_nil : isNeg [] = false := rfl
theorem isNeg_cons (b : UInt8) (bs : List UInt8) : isNeg (b :: bs) = (b == 45) := by
  rw [isNeg, ← Lib.hasPrefix_of_take]; simp
theorem strip_neg {bs : List UInt8} (h : isNeg bs = true) : strip bs = bs.drop 1 := by simp [strip, h]
theorem strip_pos {bs : List UInt8} (h : isNeg bs = false) : strip bs = bs := by simp [strip, h]
theorem strip_len (bs : List UInt8) : (strip bs).length ≤ bs.length := by unfold strip; split <;> simp
theorem isNeg_len {bs : List UInt8} (h : isNeg bs = true) : 1 ≤ bs.length := by
  cases bs with
  | nil => cases h
  | cons b bs => simp
end Go.Proofs.Ytooheapikhdllaa

/- Decimal texts. Plain arithmetic. -/
namespace Go.Proofs.Ytooheapikhdllaa

/-- The number of little-endian decimal digits. -/
def dval : List Nat → Nat
  | [] => 0
  | d :: ds => d + 10 * dval ds
/-- The decimal digits of a number, the least first. -/
def decR (n : Nat) : List Nat := if n = 0 then [] else (n % 10) :: decR (n / 10)
termination_by n
decreasing_by omega

def Ds (ds : List Nat) : Prop := ∀ d ∈ ds, d < 10

@[simp] theorem dval_nil : dval [] = 0 := rfl
@[simp] theorem dval_cons (d : Nat) (ds : List Nat) : dval (d :: ds) = d + 10 * dval ds := rfl
theorem Ds.cons {x : Nat} {xs : List Nat} : Ds (x :: xs) ↔ x < 10 ∧ Ds xs := by simp [Ds]
theorem Ds.append {xs ys : List Nat} : Ds (xs ++ ys) ↔ Ds xs ∧ Ds ys := by
  simp only [Ds, List.mem_append]
  exact ⟨fun h => ⟨fun x hx => h x (.inl hx), fun x hx => h x (.inr hx)⟩, fun h x hx => hx.elim (h.1 x) (h.2 x)⟩
theorem Ds.take {xs : List Nat} (h : Ds xs) (n : Nat) : Ds (xs.take n) := fun x hx => h x (List.mem_of_mem_take hx)
theorem dval_append (xs ys : List Nat) : dval (xs ++ ys) = dval xs + 10 ^ xs.length * dval ys := by
  induction xs with
  | nil => simp
  | cons x xs ih =>
    simp only [List.cons_append, dval_cons, ih, List.length_cons, Nat.pow_succ]
    rw [Nat.mul_add, Nat.add_assoc, ← Nat.mul_assoc, Nat.mul_comm 10 (10 ^ xs.length)]
theorem dval_snoc (xs : List Nat) (y : Nat) : dval (xs ++ [y]) = dval xs + 10 ^ xs.length * y := by rw [dval_append]; simp
theorem decR_zero : decR 0 = [] := by rw [decR]; simp
theorem decR_pos {n : Nat} (h : n ≠ 0) : decR n = (n % 10) :: decR (n / 10) := by rw [decR, if_neg h]
theorem dval_decR (n : Nat) : dval (decR n) = n := by
  induction n using Nat.strongRecOn with
  | _ n ih =>
    by_cases h : n = 0
    · subst h; rw [decR_zero]; rfl
    · rw [decR_pos h, dval_cons, ih _ (by omega)]; omega
theorem ds_decR (n : Nat) : Ds (decR n) := by
  induction n using Nat.strongRecOn with
  | _ n ih =>
    by_cases h : n = 0
    · subst h; rw [decR_zero]; simp [Ds]
    · rw [decR_pos h]; exact Ds.cons.2 ⟨by omega, ih _ (by omega)⟩
theorem decR_last {n : Nat} (h : decR n ≠ []) : (decR n).getLast h ≠ 0 := by
  induction n using Nat.strongRecOn with
  | _ n ih =>
    have h0 : n ≠ 0 := by rintro rfl; exact h decR_zero
    have e := decR_pos h0
    by_cases h1 : n / 10 = 0
    · have : decR n = [n % 10] := by rw [e, h1, decR_zero]
      simp only [this, List.getLast_singleton]; omega
    · have hne : decR (n / 10) ≠ [] := by rw [decR_pos h1]; simp
      have := ih (n / 10) (by omega) hne
      simp only [e, List.getLast_cons hne]
      exact this
/-- Digits without a zero at the end are those of their number. -/
theorem decR_of {ds : List Nat} (h : Ds ds) (hl : ∀ h : ds ≠ [], ds.getLast h ≠ 0) : ds = decR (dval ds) := by
  induction ds with
  | nil => exact decR_zero.symm
  | cons d ds ih =>
    have hd := Ds.cons.1 h
    by_cases h0 : ds = []
    · subst h0
      have := hl (by simp)
      simp at this
      rw [dval_cons, dval_nil, decR_pos (by omega)]
      have : (d + 10 * 0) / 10 = 0 := by omega
      rw [this, decR_zero]
      congr 1; omega
    · have hl' : ∀ h : ds ≠ [], ds.getLast h ≠ 0 := fun hn => by have := hl (by simp); rwa [List.getLast_cons hn] at this
      have e := ih hd.2 hl'
      have hp : dval ds ≠ 0 := by intro hz; rw [hz, decR_zero] at e; exact h0 e
      rw [dval_cons, decR_pos (by omega)]
      have e1 : (d + 10 * dval ds) / 10 = dval ds := by omega
      rw [e1, ← e]
      congr 1; omega
theorem dval_zeros (ds : List Nat) (h : ∀ j, (h : j < ds.length) → ds[j] = 0) : dval ds = 0 := by
  induction ds with
  | nil => rfl
  | cons x xs ih =>
    have h0 := h 0 (by simp)
    have := ih (fun j hj => by have := h (j + 1) (by simpa using hj); simpa using this)
    simp at h0
    simp [h0, this]
theorem dval_take (ds : List Nat) (k : Nat) (h : ∀ j, k ≤ j → (h : j < ds.length) → ds[j] = 0) : dval (ds.take k) = dval ds := by
  have e : dval ds = dval (ds.take k ++ ds.drop k) := by rw [List.take_append_drop]
  rw [e, dval_append, dval_zeros (ds.drop k)]
  · simp
  · intro j hj
    rw [List.getElem_drop]
    exact h _ (by omega) (by simp at hj; omega)
/-- Stripped of zeros behind its first digit a positive number's digits are its own. -/
theorem decR_strip (ds : List Nat) (k : Nat) (h : Ds ds) (hk : k ≤ ds.length) (h1 : 1 ≤ k) (hz : ∀ j, k ≤ j → (h : j < ds.length) → ds[j] = 0) (hl : 1 < k → (h : k - 1 < ds.length) → ds[k - 1] ≠ 0) (hp : 0 < dval ds) :
    ds.take k = decR (dval ds) := by
  rw [← dval_take ds k hz]
  refine decR_of (h.take k) fun hne => ?_
  rw [List.getLast_eq_getElem, List.getElem_take]
  have hlen : (ds.take k).length = k := by rw [List.length_take]; omega
  simp only [hlen]
  by_cases h2 : 1 < k
  · exact hl h2 (by omega)
  · obtain rfl : k = 1 := by omega
    intro h0
    have : dval (ds.take 1) = 0 := dval_zeros _ (fun j hj => by
      rw [List.length_take] at hj
      rw [List.getElem_take]
      obtain rfl : j = 0 := by omega
      exact h0)
    rw [dval_take ds 1 hz] at this
    omega
theorem pow10_bound (m n : Nat) (h : 10 ^ m < 4294967296 ^ n) : m ≤ 11 * n := by
  have h1 : (2 ^ 3) ^ m ≤ 10 ^ m := Nat.pow_le_pow_left (by omega) m
  have h2 : (4294967296 : Nat) ^ n = (2 ^ 32) ^ n := by rw [show (2 : Nat) ^ 32 = 4294967296 from by omega]
  rw [← Nat.pow_mul] at h1 h2
  rw [h2] at h
  have : 2 ^ (3 * m) < 2 ^ (32 * n) := by omega
  have := (Nat.pow_lt_pow_iff_right (show 1 < 2 by omega)).1 this
  omega

/-- The characters of digits. -/
def chars (ds : List Nat) : List Nat := ds.map (48 + ·)
theorem chars_lt {ds : List Nat} (h : Ds ds) : ∀ x ∈ chars ds, x < 256 := by
  intro x hx
  obtain ⟨d, hd, rfl⟩ := List.mem_map.1 hx
  have := h d hd
  omega
@[simp] theorem chars_length (ds : List Nat) : (chars ds).length = ds.length := by simp [chars]
theorem chars_get (ds : List Nat) (i : Nat) (h : i < ds.length) : (chars ds)[i]'(by simpa using h) = 48 + ds[i] := by simp [chars]
theorem chars_take (ds : List Nat) (k : Nat) : (chars ds).take k = chars (ds.take k) := by simp [chars, List.map_take]
theorem chars_snoc (ds : List Nat) (d : Nat) : chars ds ++ [48 + d] = chars (ds ++ [d]) := by simp [chars]

/-- Bytes out of numbers. -/
def bytesOf (xs : List Nat) : List UInt8 := xs.map UInt8.ofNat
/-- The decimal text of an integer. -/
def textB (z : Int) : List UInt8 := if z = 0 then [48] else bytesOf ((if z < 0 then [45] else []) ++ (chars (decR z.natAbs)).reverse)

@[simp] theorem bytesOf_length (xs : List Nat) : (bytesOf xs).length = xs.length := by simp [bytesOf]
theorem bytesOf_get (xs : List Nat) (i : Nat) (h : i < xs.length) (hx : ∀ x ∈ xs, x < 256) : ((bytesOf xs)[i]'(by simpa using h)).toNat = xs[i] := by
  have := hx _ (List.getElem_mem h)
  simp [bytesOf]
  omega
theorem textB_pos (n : Nat) (h : 0 < n) : textB (n : Int) = bytesOf (chars (decR n)).reverse := by
  unfold textB
  rw [if_neg (by omega), if_neg (by omega)]
  simp
theorem textB_neg (n : Nat) (h : 0 < n) : textB (-(n : Int)) = bytesOf (chars (decR n) ++ [45]).reverse := by
  unfold textB
  rw [if_neg (by omega), if_pos (by omega)]
  simp

/-- One round of digits. -/
theorem digit_step (ds0 : List Nat) (ds : List Nat) (r : Nat) (S : Nat) (h : dval ds + 10 ^ ds.length * r = S) : dval (ds ++ [r % 10]) + 10 ^ (ds ++ [r % 10]).length * (r / 10) = S := by
  rw [dval_snoc, List.length_append, List.length_singleton, Nat.pow_succ, ← h, Nat.mul_assoc, Nat.add_assoc, ← Nat.mul_add]
  congr 2; omega
theorem chunk_step (ds es : List Nat) (r q N : Nat) (he : dval es = dval ds + 10 ^ ds.length * r) (hl : es.length = ds.length + 9) (hN : N = q * 1000000000 + r) :
    dval es + 10 ^ es.length * q = dval ds + 10 ^ ds.length * N := by
  rw [he, hl, hN, Nat.pow_add, Nat.add_assoc, Nat.mul_assoc, ← Nat.mul_add]
  congr 2; omega
end Go.Proofs.Ytooheapikhdllaa

/- Parse: what it answers; the plain law. -/
namespace Go.Proofs.Ytooheapikhdllaa
open Go.RowKit

/-- The number of decimal characters. -/
def pval (bs : List UInt8) : Nat := bs.foldl (fun a c => 10 * a + (c.toNat - 48)) 0
def good (c : UInt8) : Prop := 48 ≤ c.toNat ∧ c.toNat ≤ 57
instance (c : UInt8) : Decidable (good c) := inferInstanceAs (Decidable (_ ∧ _))
/-- No number's canonical digits. -/
def synt (neg : Bool) (ds : List UInt8) : Prop := ds = [] ∨ (ds.head? = some 48 ∧ (1 < ds.length ∨ neg = true))
instance (neg : Bool) (ds : List UInt8) : Decidable (synt neg ds) := inferInstanceAs (Decidable (_ ∨ _))
/-- The code that Parse returns. -/
def parseC (bs : List UInt8) : Nat :=
  if 601 < bs.length then 5 else if synt (isNeg bs) (strip bs) then 6 else if ¬ ∀ c ∈ strip bs, good c then 6 else if 600 < (strip bs).length then 5 else 0
/-- The integer that Parse returns. -/
def parseZ (bs : List UInt8) : Int := if parseC bs = 0 then (if isNeg bs then -((pval (strip bs) : Nat) : Int) else ((pval (strip bs) : Nat) : Int)) else 0

theorem pval_nil : pval [] = 0 := rfl
theorem pval_snoc (bs : List UInt8) (c : UInt8) : pval (bs ++ [c]) = 10 * pval bs + (c.toNat - 48) := by simp [pval, List.foldl_append]
theorem pval_take (bs : List UInt8) (i : Nat) (h : i < bs.length) : pval (bs.take (i + 1)) = 10 * pval (bs.take i) + (bs[i].toNat - 48) := by
  rw [List.take_succ_eq_append_getElem h, pval_snoc]
theorem pval_lt (bs : List UInt8) (h : ∀ c ∈ bs, good c) : pval bs < 10 ^ bs.length := by
  suffices H : ∀ n, n ≤ bs.length → pval (bs.take n) < 10 ^ n by
    have := H bs.length (Nat.le_refl _); rwa [List.take_length] at this
  intro n
  induction n with
  | zero => intro _; simp [pval_nil]
  | succ n ih =>
    intro hn
    have h1 := ih (by omega)
    have h2 := h bs[n] (List.getElem_mem _)
    rw [pval_take bs n (by omega), Nat.pow_succ]
    have h3 := h2.2
    omega

theorem parse_long {bs : List UInt8} (h : 601 < bs.length) : parseC bs = 5 ∧ parseZ bs = 0 := by
  have e : parseC bs = 5 := by unfold parseC; rw [if_pos h]
  exact ⟨e, by unfold parseZ; rw [e]; rfl⟩
theorem parse_synt {bs : List UInt8} (h : ¬ 601 < bs.length) (hs : synt (isNeg bs) (strip bs)) : parseC bs = 6 ∧ parseZ bs = 0 := by
  have e : parseC bs = 6 := by unfold parseC; rw [if_neg h, if_pos hs]
  exact ⟨e, by unfold parseZ; rw [e]; rfl⟩
theorem parse_bad {bs : List UInt8} (h : ¬ 601 < bs.length) (i : Nat) (hi : i < (strip bs).length) (hg : ¬ good (strip bs)[i]) : parseC bs = 6 ∧ parseZ bs = 0 := by
  have e : parseC bs = 6 := by
    unfold parseC; rw [if_neg h]
    split
    · rfl
    · rw [if_pos (fun hall => hg (hall _ (List.getElem_mem hi)))]
  exact ⟨e, by unfold parseZ; rw [e]; rfl⟩
theorem parse_long2 {bs : List UInt8} (h : ¬ 601 < bs.length) (hs : ¬ synt (isNeg bs) (strip bs)) (hg : ∀ j, (hj : j < (strip bs).length) → good (strip bs)[j]) (hl : 600 < (strip bs).length) : parseC bs = 5 ∧ parseZ bs = 0 := by
  have hall : ∀ c ∈ strip bs, good c := fun c hc => by obtain ⟨j, hj, rfl⟩ := List.getElem_of_mem hc; exact hg j hj
  have e : parseC bs = 5 := by unfold parseC; rw [if_neg h, if_neg hs, if_neg (fun hn => hn hall), if_pos hl]
  exact ⟨e, by unfold parseZ; rw [e]; rfl⟩
theorem parse_ok {bs : List UInt8} (h : ¬ 601 < bs.length) (hs : ¬ synt (isNeg bs) (strip bs)) (hg : ∀ j, (hj : j < (strip bs).length) → good (strip bs)[j]) (hl : ¬ 600 < (strip bs).length) :
    parseC bs = 0 ∧ parseZ bs = (if isNeg bs then -((pval (strip bs) : Nat) : Int) else ((pval (strip bs) : Nat) : Int)) := by
  have hall : ∀ c ∈ strip bs, good c := fun c hc => by obtain ⟨j, hj, rfl⟩ := List.getElem_of_mem hc; exact hg j hj
  have e : parseC bs = 0 := by unfold parseC; rw [if_neg h, if_neg hs, if_neg (fun hn => hn hall), if_neg hl]
  exact ⟨e, by unfold parseZ; rw [if_pos e]⟩

/-! The text of what was parsed. -/
theorem dval_digits (bs : List UInt8) : pval bs = dval ((bs.map fun c => c.toNat - 48).reverse) := by
  suffices H : ∀ n, n ≤ bs.length → pval (bs.take n) = dval (((bs.take n).map fun c => c.toNat - 48).reverse) by
    have := H bs.length (Nat.le_refl _); rwa [List.take_length] at this
  intro n
  induction n with
  | zero => intro _; simp [pval_nil]
  | succ n ih =>
    intro hn
    rw [pval_take bs n (by omega), List.take_succ_eq_append_getElem (by omega), List.map_append, List.reverse_append, ih (by omega)]
    simp
    omega
theorem back_digits (bs : List UInt8) (h : ∀ c ∈ bs, good c) : bytesOf (chars (bs.map fun c => c.toNat - 48)) = bs := by
  induction bs with
  | nil => rfl
  | cons b bs ih =>
    have hb := h b (by simp)
    have := ih (fun c hc => h c (by simp [hc]))
    simp only [List.map_cons, chars, bytesOf] at this ⊢
    rw [this]
    congr 1
    have hb1 := hb.1
    have e : 48 + (b.toNat - 48) = b.toNat := by omega
    rw [e]
    simp
theorem text_parsed {bs : List UInt8} (h : parseC bs = 0) : textB (parseZ bs) = bs := by
  have hz : parseZ bs = (if isNeg bs then -((pval (strip bs) : Nat) : Int) else ((pval (strip bs) : Nat) : Int)) := by unfold parseZ; rw [if_pos h]
  unfold parseC at h
  split at h; · cases h
  rename_i h1
  split at h; · cases h
  rename_i h2
  split at h; · cases h
  rename_i h3
  have hall : ∀ c ∈ strip bs, good c := Classical.not_not.1 h3
  generalize hds : strip bs = ds at *
  have hback := back_digits ds hall
  have hdv := dval_digits ds
  have hne : ds ≠ [] := fun e => h2 (Or.inl e)
  have hD : Ds ((ds.map fun c => c.toNat - 48).reverse) := by
    intro d hd
    rw [List.mem_reverse] at hd
    obtain ⟨c, hc, rfl⟩ := List.mem_map.1 hd
    have := (hall c hc).2
    omega
  by_cases h48 : ds.head? = some 48
  · have hh : ¬ (1 < ds.length ∨ isNeg bs = true) := fun hh => h2 (Or.inr ⟨h48, hh⟩)
    have hn : isNeg bs = false := by cases hb : isNeg bs with
      | false => rfl
      | true => exact absurd (Or.inr hb) hh
    have hl : ds = [48] := by
      cases ds with
      | nil => exact absurd rfl hne
      | cons a tl =>
        cases tl with
        | nil => simp at h48; rw [h48]
        | cons _ _ => exact absurd (Or.inl (by simp)) hh
    rw [strip_pos hn] at hds
    rw [hz, hn, hl, hds, hl]
    decide
  · have hlast : ∀ h : (ds.map fun c => c.toNat - 48).reverse ≠ [], ((ds.map fun c => c.toNat - 48).reverse).getLast h ≠ 0 := by
      intro h
      cases ds with
      | nil => exact absurd rfl hne
      | cons a tl =>
        simp only [List.map_cons, List.reverse_cons, List.getLast_append, List.getLast_singleton, List.isEmpty_cons, List.isEmpty_nil]
        have ha := (hall a (by simp)).1
        intro h0
        apply h48
        have : a.toNat = 48 := by simp at h0; omega
        simp
        exact UInt8.toNat_inj.1 this
    have hdec := decR_of hD hlast
    rw [← hdv] at hdec
    have hpos : 0 < pval ds := by
      rcases Nat.eq_zero_or_pos (pval ds) with e | e
      · rw [e, decR_zero] at hdec
        simp at hdec
        exact absurd hdec hne
      · exact e
    have hch : bytesOf (chars (decR (pval ds))).reverse = ds := by
      rw [← hdec]
      have : (chars (ds.map fun c => c.toNat - 48).reverse).reverse = chars (ds.map fun c => c.toNat - 48) := by simp [chars, List.map_reverse]
      rw [this, hback]
    cases hn : isNeg bs with
    | false =>
      rw [hz, hn]
      rw [strip_pos hn] at hds
      show textB ((pval ds : Nat) : Int) = bs
      rw [textB_pos _ hpos, hch, hds]
    | true =>
      rw [hz, hn]
      have hb : bs = 45 :: ds := by
        rw [strip_neg hn] at hds
        cases bs with
        | nil => cases hn
        | cons b bs =>
          rw [isNeg_cons] at hn
          simp at hn hds
          rw [hn, hds]
      show textB (-((pval ds : Nat) : Int)) = bs
      rw [textB_neg _ hpos, hb, List.reverse_append]
      have : bytesOf ([45].reverse ++ (chars (decR (pval ds))).reverse) = 45 :: bytesOf ((chars (decR (pval ds))).reverse) := by simp [bytesOf]
      rw [this, hch]
end Go.Proofs.Ytooheapikhdllaa

/- Parse of package integer. -/
namespace Go.Proofs.Ytooheapikhdllaa
open Go.RowKit

theorem IntV.zero (w : World) (X : Nat → Prop) : IntV w X (.agg #[.bool false, .slice none 0 0]) 0 := by
  refine ⟨_, rfl, ?_⟩
  have : dig (0 : Int).natAbs = [] := dig_zero
  rw [this]
  exact Words.nil _ _

theorem Words.one {w : World} {t : TypeId} {X : Nat → Prop} (d : Nat) (h : d < 4294967296) (z : Int) (e : z = (d : Nat)) (hX : ∀ b, X b → b < w.heap.size) :
    Words (w.alloc (.cells #[.int .u32 z] t)) X (.slice (some ⟨w.heap.size, 0, none⟩) 1 1) [d] := by
  subst e
  exact Words.lit (t := t) [d] (Loc.new _ _ _) (by simpa using h) (fun h => by have := hX _ h; omega) (by unfold maxLen; simp)
theorem good_step {ds : List UInt8} {i : Nat} (hlt : i < ds.length) (hg : ∀ j, j < i → (hj : j < ds.length) → good ds[j]) (h : good ds[i]) : ∀ j, j < i + 1 → (hj : j < ds.length) → good ds[j] := by
  intro j h1 h2
  by_cases hj : j < i
  · exact hg j hj h2
  · obtain rfl : j = i := by omega
    exact h
theorem byte_at (ds : List UInt8) (i : Nat) (h : i < ds.length) (x : Nat) (hx : ds[i].toNat = x) : ∀ h', ((((({ data := ds.toArray } : ByteArray)[i]'h').toNat : Nat)) : Int) = (x : Nat) := by
  subst hx; intro _; rfl
end Go.Proofs.Ytooheapikhdllaa

/- Of and Small of package integer and of the reference; same of the law. -/
namespace Go.Proofs.Ytooheapikhdllaa
open Go.RowKit
attribute [local go_sem ↓] Go.wp_at_zero Go.wp_at_succ

/-- Two structs of canonical integers are the same just if the integers are. -/
theorem sameR_V (z y : Int) : sameR (decide (z < 0)) (dig z.natAbs) (decide (y < 0)) (dig y.natAbs) = decide (z = y) := by
  unfold sameR
  rw [Bool.eq_iff_iff]
  simp only [Bool.and_eq_true, beq_iff_eq, decide_eq_true_eq]
  constructor
  · rintro ⟨h1, h2⟩
    have h3 := congrArg val h2
    rw [val_dig, val_dig] at h3
    rw [decide_eq_decide] at h1
    omega
  · rintro rfl; exact ⟨rfl, rfl⟩

/-- The two words of an int. -/
theorem words2_val (m : Nat) (h : m < 18446744073709551616) : val [m % 4294967296, m / 4294967296] = m := by
  simp; omega

theorem Words.two {w : World} {o : Obj} {t : TypeId} {X : Nat → Prop} (m : Nat) (h : m < 18446744073709551616) (z1 z2 : Int) (e1 : z1 = ((m % 4294967296 : Nat) : Int)) (e2 : z2 = ((m / 4294967296 : Nat) : Int)) (hX : ∀ b, X b → b < w.heap.size) :
    Words ((w.alloc o).alloc (.cells #[.int .u32 z1, .int .u32 z2] t)) X (.slice (some ⟨w.heap.size + 1, 0, none⟩) 2 2) [m % 4294967296, m / 4294967296] := by
  subst e1 e2
  refine Words.lit (t := t) [m % 4294967296, m / 4294967296] ?_ (by simp; omega) (fun h => by have := hX _ h; omega) (by unfold maxLen; simp)
  have := Loc.new (w.alloc o) #[.int .u32 ((m % 4294967296 : Nat) : Int), .int .u32 ((m / 4294967296 : Nat) : Int)] t
  simpa [nums] using this

set_option maxHeartbeats 400000 in
theorem of_any (w : World) (n : Int) (h0 : -9223372036854775808 ≤ n) (h1 : n ≤ 9223372036854775807) :
    Calls Try.prog 67 #[.int .i64 n] w fun e w' => ∃ v', e = .returned v' ∧ IntV w' (Old w) v' n ∧ Below w.heap.size w w' := by
  obtain ⟨m, hm⟩ : ∃ m, m = n.natAbs := ⟨_, rfl⟩
  have hs : sv (decide (n < 0)) [m % 4294967296, m / 4294967296] = n := by unfold sv; rw [words2_val m (by omega)]; split <;> simp_all <;> omega
  have HT : Hid (n < 0 → sv true [m % 4294967296, m / 4294967296] = n) := fun h => by rw [← hs]; simp [h]
  have HF : Hid (¬ n < 0 → sv false [m % 4294967296, m / 4294967296] = n) := fun h => by rw [← hs]; simp [h]
  have HM := Lib.hid hm
  clear hs hm
  by_cases hn : n < 0
  all_goals
    go_enter Try.func67, Try.ntmps67
    go_wp2_with fail
    refine (signed_any _ (Old w) _ _ [m % 4294967296, m / 4294967296] (Words.two m (by have := HM.out; omega) _ _ (by have := HM.out; (try simp only [IntKind.wrap_u64]); omega) (by have := HM.out; (try simp only [IntKind.wrap_u64]); omega) (by simp [Old])) (by simp)).mono ?_
    rintro e w2 ⟨v2, rfl, h2, hb2⟩
    first | rw [HT.out (by omega)] at h2 | rw [HF.out (by omega)] at h2
    obtain ⟨b2, A2, n2, c2, rfl, h2⟩ := h2.op
    obtain ⟨Lr, _, hB, hsz2⟩ := locs2 hb2
    have cc := Lr.cell
    have cf := Lr.frz
    go_wp2_with fail
    refine bodyPost_ret (by simp [results, Try.results67, go_sem, cc, cf] <;> rfl) rfl ⟨_, rfl, ?_, below_set2 hB (by omega) _ _⟩
    exact IntV.stored (g := w.heap.size) h2 (by simp only [Old, World.size_alloc]; omega) _ _ (by intro b _ hb; simp only [Old, World.size_alloc] at hb ⊢; omega)
end Go.Proofs.Ytooheapikhdllaa

/- Of of the reference; Small of both. -/
namespace Go.Proofs.Ytooheapikhdllaa
open Go.RowKit
attribute [local go_sem ↓] Go.wp_at_zero Go.wp_at_succ

set_option maxHeartbeats 400000 in
theorem rof_any (w : World) (n : Int) (h0 : -9223372036854775808 ≤ n) (h1 : n ≤ 9223372036854775807) :
    Calls Try.prog 98 #[.int .i64 n] w fun e w' => ∃ v', e = .returned v' ∧ IntV w' (Old w) v' n ∧ Below w.heap.size w w' := by
  obtain ⟨m, hm⟩ : ∃ m, m = n.natAbs := ⟨_, rfl⟩
  have hs : sv (decide (n < 0)) [m % 4294967296, m / 4294967296] = n := by unfold sv; rw [words2_val m (by omega)]; split <;> simp_all <;> omega
  have HT : Hid (n < 0 → sv true [m % 4294967296, m / 4294967296] = n) := fun h => by rw [← hs]; simp [h]
  have HF : Hid (¬ n < 0 → sv false [m % 4294967296, m / 4294967296] = n) := fun h => by rw [← hs]; simp [h]
  have HM := Lib.hid hm
  clear hs hm
  by_cases hn : n < 0
  all_goals
    go_enter Try.func98, Try.ntmps98
    go_wp2_with fail
    refine (made_any _ (Old w) _ _ [m % 4294967296, m / 4294967296] (Words.two m (by have := HM.out; omega) _ _ (by have := HM.out; (try simp only [IntKind.wrap_u64, IntKind.wrap_i64]); omega) (by have := HM.out; (try simp only [IntKind.wrap_u64, IntKind.wrap_i64]); omega) (by simp [Old])) (by simp)).mono ?_
    rintro e w2 ⟨v2, rfl, h2, hb2⟩
    first | rw [HT.out (by omega)] at h2 | rw [HF.out (by omega)] at h2
    obtain ⟨b2, A2, n2, c2, rfl, h2⟩ := h2.op
    obtain ⟨Lr, _, hB, hsz2⟩ := locs2 hb2
    have cc := Lr.cell
    have cf := Lr.frz
    go_wp2_with fail
    refine bodyPost_ret (by simp [results, Try.results98, go_sem, cc, cf] <;> rfl) rfl ⟨_, rfl, ?_, below_set2 hB (by omega) _ _⟩
    exact IntV.stored (g := w.heap.size) h2 (by simp only [Old, World.size_alloc]; omega) _ _ (by intro b _ hb; simp only [Old, World.size_alloc] at hb ⊢; omega)

/-- Does an integer fit an int? -/
def fits (z : Int) : Bool := decide (-9223372036854775808 ≤ z ∧ z ≤ 9223372036854775807)
def smallI (z : Int) : Int := if fits z then z else 0

theorem fits_no (neg : Bool) (xs : List Nat) (h : 18446744073709551616 ≤ val xs) : fits (sv neg xs) = false ∧ smallI (sv neg xs) = 0 := by
  have : fits (sv neg xs) = false := by unfold fits sv; cases neg <;> simp <;> omega
  exact ⟨this, by simp [smallI, this]⟩

theorem len3_val {xs : List Nat} (h : Can xs) (hl : 2 < xs.length) : 18446744073709551616 ≤ val xs := by
  have h1 := can_lower h (by intro e; subst e; simp at hl)
  have : 4294967296 ^ 2 ≤ 4294967296 ^ (xs.length - 1) := Nat.pow_le_pow_right (by omega) (by omega)
  omega

theorem join_u64' (lo hi : Nat) (hx : hi < 4294967296) (hl : lo < 4294967296) : bits BinOp.or IntKind.u64 (lo : Int) ((hi : Int) * 4294967296) = ((lo + hi * 4294967296 : Nat) : Int) := by
  have h := join_u64 hi lo hx hl
  have e : (hi : Int) * 4294967296 = ((hi * 4294967296 : Nat) : Int) := by omega
  rw [e] at h ⊢
  have hk : ∀ n : Int, 0 ≤ n → n < 2 ^ 64 → IntKind.u64.wrap n = n := fun n h0 h1 => by rw [IntKind.wrap_u64]; omega
  rw [(bits_nat .u64 64 (by decide) hk _ _ (by omega) (by omega)).2] at h ⊢
  rw [Nat.or_comm, h]
  omega
theorem or_zero_u64 (x : Nat) (hx : x < 4294967296) : bits BinOp.or IntKind.u64 0 (x : Int) = (x : Int) := by
  have hk : ∀ n : Int, 0 ≤ n → n < 2 ^ 64 → IntKind.u64.wrap n = n := fun n h0 h1 => by rw [IntKind.wrap_u64]; omega
  have := (bits_nat .u64 64 (by decide) hk 0 x (by omega) (by omega)).2
  simpa using this

theorem wrap_back (m : Nat) (h : (m : Int) ≤ 9223372036854775808) : wrap64 (IntKind.u64.wrap (-(m : Int))) = -(m : Int) := by
  unfold wrap64
  rw [IntKind.wrap_u64]
  omega
theorem smallI_neg (m : Nat) (h : (m : Int) ≤ 9223372036854775808) : smallI (-(m : Int)) = -(m : Int) ∧ fits (-(m : Int)) = true := by
  have : fits (-(m : Int)) = true := by unfold fits; simp; omega
  exact ⟨by simp [smallI, this], this⟩
theorem smallI_pos (m : Nat) (h : (m : Int) < 9223372036854775808) : smallI (m : Int) = (m : Int) ∧ fits (m : Int) = true := by
  have : fits (m : Int) = true := by unfold fits; simp; omega
  exact ⟨by simp [smallI, this], this⟩
theorem smallI_neg' (m : Nat) (h : ¬ (m : Int) ≤ 9223372036854775808) : smallI (-(m : Int)) = 0 ∧ fits (-(m : Int)) = false := by
  have : fits (-(m : Int)) = false := by unfold fits; simp; omega
  exact ⟨by simp [smallI, this], this⟩
theorem smallI_pos' (m : Nat) (h : ¬ (m : Int) < 9223372036854775808) : smallI (m : Int) = 0 ∧ fits (m : Int) = false := by
  have : fits (m : Int) = false := by unfold fits; simp; omega
  exact ⟨by simp [smallI, this], this⟩
theorem len2_val {xs : List Nat} (h : Ws xs) (hl : xs.length ≤ 2) : val xs < 18446744073709551616 := by
  have h1 := val_lt h
  have : 4294967296 ^ xs.length ≤ 4294967296 ^ 2 := Nat.pow_le_pow_right (by omega) hl
  omega
end Go.Proofs.Ytooheapikhdllaa

