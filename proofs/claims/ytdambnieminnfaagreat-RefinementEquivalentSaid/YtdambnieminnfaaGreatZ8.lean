/- Contracts of the functions that the statements reach, part 8. -/
import Derived.Test.YtdambnieminnfaaGreatRows
import Derived.Deep.DeepCutAuto
import Derived.Deep.RegionHeld3
import Derived.Deep.DrawnRows
import Derived.Test.YtdambnieminnfaaGreatZ3
import Derived.Test.YtdambnieminnfaaGreatZ4
import Derived.Test.YtdambnieminnfaaGreatZ7
set_option linter.unusedSimpArgs false
set_option linter.unusedVariables false

/- plus: the sum of two magnitudes. -/
namespace Go.Proofs.YtdambnieminnfaaGreat
open Go.RowKit

set_option maxRecDepth 20000 in
set_option maxHeartbeats 1000000 in
theorem plus_any (w : World) (X : Nat → Prop) (va vb : Value) (xs ys : List Nat) (ha : Words w X va xs) (hb : Words w X vb ys) (hs : xs.length ≤ 1099511627776) (ht : ys.length ≤ 1099511627776) :
 Calls Tryz.prog 131 #[va, vb] w fun e w' => ∃ v' zs, e = .returned v' ∧ Words w' (Old w) v' zs ∧ val zs = val xs + val ys ∧ zs.length ≤ xs.length + ys.length + 1 ∧ Below w.heap.size w w' := by
 obtain ⟨i0, hi, hz0, hz1, hz2⟩ := info_parts info_u32
 obtain ⟨A, c, rfl, hc, _, HA⟩ := ha.open_
 obtain ⟨B, d, rfl, hd, _, HB⟩ := hb.open_
 go_enter Tryz.func131, Tryz.ntmps131
 go_upto_if 13 with fail
 go_cut [0, 1] (fun p q wx => w = wx ∧ ∃ P Q A' c' B' d', p = .slice A' (List.length P) c' ∧ q = .slice B' (List.length Q) d' ∧ Words w X p P ∧ Words w X q Q ∧ Q.length ≤ P.length ∧ P.length ≤ xs.length + ys.length ∧ P.length ≤ 1099511627776 ∧ val P + val Q = val xs + val ys)
 case first =>
  by_cases hl : xs.length < ys.length
  all_goals
   go_wp2_with fail
   go_meet
   case rel => first | exact ⟨rfl, ys, xs, B, d, A, c, rfl, rfl, HB, HA, by omega, by omega, by omega, by omega⟩ | exact ⟨rfl, xs, ys, A, c, B, d, rfl, rfl, HA, HB, by omega, by omega, by omega, by omega⟩
 case rest =>
  obtain ⟨rfl, P, Q, A', c', B', d', rfl, rfl, HP, HQ, hQP, hPl, hPm, hsum⟩ := hcut
  have Hsum := Lib.hid hsum
  clear hsum
  go_wp2_with (at_make; refine wpList_make0 _ rfl _ _ rfl Tryz.underlying56 info_u32 w.heap.size (P.length + 1) rfl rfl (by omega) (by omega) (by unfold maxLen; omega) (by omega) ?_)
  intro w1 hown hgrow
  have hb1 : Below w.heap.size w w1 := below_none (Below.refl _ _) hgrow (Nat.le_refl _)
  clear hgrow
  go_wp2_with fail
  go_loopw [5, 6, 22] (fun o cr i wr => ∃ (k : Nat) (zs : List Nat) (cy : Nat), k ≤ P.length ∧ i = .int .i64 k ∧ cr = .int .u64 cy ∧ cy ≤ 1 ∧ zs.length = k ∧ wr.ownsRow w.heap.size 129 1 o zs.length (nums .u32 zs) ∧ Ws zs ∧
   val zs + 4294967296 ^ k * cy = val (P.take k) + val (Q.take k) ∧ Below w.heap.size w wr) (fun _ _ i _ => P.length - (intOf i).toNat)
  case atStart => exact ⟨0, [], 0, by omega, rfl, rfl, by omega, rfl, by simpa [nums] using hown, Ws.nil, by simp, hb1⟩
  case round =>
   obtain ⟨k, zs, cy, hk, rfl, rfl, hcy, hzl, hown', hws, hval, hbr⟩ := hrel
   have Hval := Lib.hid hval
   have Hzl := Lib.hid hzl
   have hzb : zs.length ≤ 1099511627776 := by omega
   have hsz := hbr.size
   clear hval hzl hown
   have HPr := HP.below hbr
   have HQr := HQ.below hbr
   by_cases hlt : k < P.length
   ·obtain ⟨a, rfl, _, _, hca⟩ := HPr.at_ hlt
    have bx := HP.lt hlt
    by_cases hq : k < Q.length
    ·obtain ⟨b, rfl, _, _, hcb⟩ := HQr.at_ hq
     have bq := HQ.lt hq
     go_wp2_with (at_builtin; refine wpList_push _ rfl _ _ rfl Tryz.underlying56 info_u32 rfl w.heap.size _ _ _ rfl (hown'.alloc _) _ _ rfl (heap_alloc_new wr _) rfl (by omega) (by unfold maxLen; omega) (by simp; omega) ?_)
     intro v2 w2 hown2 hg2 _
     have hb2 := below_own (hbr.alloc hsz _) (hown'.alloc _) hg2 (Nat.le_refl _) (by simp; omega)
     go_wp2_with fail
     go_roundw
     case rel =>
      rw [nums_snoc' _ _ _ ((cy + P[k] + Q[k]) % 4294967296) (by omega)] at hown2
      exact ⟨k + 1, zs ++ [(cy + P[k] + Q[k]) % 4294967296], (cy + P[k] + Q[k]) / 4294967296, by omega, by go_num, by go_num, by omega, by simp [Hzl.out], by simpa using hown2, Ws.append.2 ⟨hws, by simp [Ws]; omega⟩, add_step zs P Q k cy Hzl.out Hval.out hlt hq, hb2⟩
     case measure => simp [intOf]; omega
    ·go_wp2_with (at_builtin; refine wpList_push _ rfl _ _ rfl Tryz.underlying56 info_u32 rfl w.heap.size _ _ _ rfl (hown'.alloc _) _ _ rfl (heap_alloc_new wr _) rfl (by omega) (by unfold maxLen; omega) (by simp; omega) ?_)
     intro v2 w2 hown2 hg2 _
     have hb2 := below_own (hbr.alloc hsz _) (hown'.alloc _) hg2 (Nat.le_refl _) (by simp; omega)
     go_wp2_with fail
     go_roundw
     case rel =>
      rw [nums_snoc' _ _ _ ((cy + P[k]) % 4294967296) (by omega)] at hown2
      exact ⟨k + 1, zs ++ [(cy + P[k]) % 4294967296], (cy + P[k]) / 4294967296, by omega, by go_num, by go_num, by omega, by simp [Hzl.out], by simpa using hown2, Ws.append.2 ⟨hws, by simp [Ws]; omega⟩, add_step1 zs P Q k cy Hzl.out Hval.out hlt (by omega), hb2⟩
     case measure => simp [intOf]; omega
   ·go_wp2_with (at_builtin; refine wpList_push _ rfl _ _ rfl Tryz.underlying56 info_u32 rfl w.heap.size _ _ _ rfl (hown'.alloc _) _ _ rfl (heap_alloc_new wr _) rfl (by omega) (by unfold maxLen; omega) (by simp; omega) ?_)
    intro v2 w2 hown2 hg2 _
    have hb2 := below_own (hbr.alloc hsz _) (hown'.alloc _) hg2 (Nat.le_refl _) (by simp; omega)
    go_wp2_with fail
    go_ret
    rw [nums_snoc' _ _ _ (cy % 4294967296) (by omega)] at hown2
    refine ⟨_, zs ++ [cy % 4294967296], rfl, Words.of_own (by simpa using hown2) (Ws.append.2 ⟨hws, by simp [Ws]; omega⟩) (fun b h1 _ _ => by unfold Old; omega), ?_, by have := Hzl.out; simp; omega, hb2⟩
    have h1 := Hval.out
    rw [List.take_of_length_le (by omega), List.take_of_length_le (by omega)] at h1
    rw [val_snoc, Hzl.out, Nat.mod_eq_of_lt (by omega), h1, Hsum.out]

/- minus: the difference of two magnitudes. -/

set_option maxHeartbeats 1000000 in
theorem minus_any (w : World) (X : Nat → Prop) (va vb : Value) (xs ys : List Nat) (ha : Words w X va xs) (hb : Words w X vb ys) (hs : xs.length ≤ 1099511627776) (hle : val ys ≤ val xs) (hlen : ys.length ≤ xs.length) :
 Calls Tryz.prog 133 #[va, vb] w fun e w' => ∃ v' zs, e = .returned v' ∧ Words w' (Old w) v' zs ∧ val zs = val xs - val ys ∧ zs.length = xs.length ∧ Below w.heap.size w w' := by
 obtain ⟨A, c, rfl, hc, _, HA⟩ := ha.open_
 obtain ⟨B, d, rfl, hd, _, HB⟩ := hb.open_
 have Hle := Lib.hid hle
 clear hle
 go_enter Tryz.func133, Tryz.ntmps133
 go_wp2_with (at_make; refine wpList_makeN _ rfl _ _ rfl Tryz.underlying56 info_u32 rfl w.heap.size xs.length rfl rfl rfl rfl (by omega) (by unfold maxLen; omega) (Nat.le_refl _) ?_)
 intro w1 hown hgrow
 have hb1 : Below w.heap.size w w1 := below_none (Below.refl _ _) hgrow (Nat.le_refl _)
 rw [nums_zeros] at hown
 clear hgrow
 go_wp2_with fail
 go_loopw [6, 15] (fun br i wr => ∃ (k : Nat) (zs : List Nat) (b : Nat), k ≤ xs.length ∧ i = .int .i64 k ∧ br = .int .u32 b ∧ b ≤ 1 ∧ zs.length = xs.length ∧ wr.ownsRow w.heap.size 129 1 (.slice (some ⟨w.heap.size, 0, none⟩) xs.length xs.length) xs.length (nums .u32 zs) ∧ Ws zs ∧
  val (zs.take k) + val (ys.take k) = val (xs.take k) + 4294967296 ^ k * b ∧ Below w.heap.size w wr) (fun _ i _ => xs.length - (intOf i).toNat)
 case atStart => exact ⟨0, List.replicate xs.length 0, 0, by omega, rfl, rfl, by omega, by simp, hown, Ws.replicate _, by simp, hb1⟩
 case round =>
  obtain ⟨k, zs, b, hk, rfl, rfl, hbb, hzl, hown', hws, hval, hbr⟩ := hrel
  have Hval := Lib.hid hval
  have Hzl := Lib.hid hzl
  have hsz := hbr.size
  clear hval hzl hown
  have HPr := HA.below hbr
  have HQr := HB.below hbr
  by_cases hlt : k < xs.length
  ·obtain ⟨a, rfl, _, _, hca⟩ := HPr.at_ hlt
   have bx := HA.lt hlt
   have hcO : wr.cell? ⟨w.heap.size, k, none⟩ = some (.int .u32 ((zs[k]'(by have := Hzl.out; omega) : Nat) : Int)) := (hown'.cellAt k (by omega)).trans (nums_get _)
   have hfO := hown'.frozenAt k
   by_cases hq : k < ys.length
   ·obtain ⟨q, rfl, _, _, hcb⟩ := HQr.at_ hq
    have bq := HB.lt hq
    go_wp2_with (go_at_call 164; refine (sub32_any _ _ _ _ bx bq hbb).mono ?_; rintro e w' ⟨rfl, rfl⟩)
    go_roundw
    case rel =>
     have hst := (hown'.stored k (.int .u32 (dif xs[k] ys[k] b : Nat))).1
     rw [nums_set] at hst
     have hv := sub_step zs xs k (dif xs[k] ys[k] b) xs[k] ys[k] b (bor xs[k] ys[k] b) (val (ys.take k)) (by have := Hzl.out; omega) hlt rfl (dif_bor _ _ _ bx bq hbb) Hval.out
     rw [← val_take_succ ys k hq] at hv
     exact ⟨k + 1, zs.set k (dif xs[k] ys[k] b), bor xs[k] ys[k] b, by omega, by go_num, rfl, bor_le _ _ _, by simpa using Hzl.out, hst, hws.set _ _ (dif_lt _ _ _), hv, hbr.setCell (Nat.le_refl _) _⟩
    case measure => simp [intOf]; omega
   ·go_wp2_with (go_at_call 164; refine (sub32_any _ _ 0 _ bx (by omega) hbb).mono ?_; rintro e w' ⟨rfl, rfl⟩)
    go_roundw
    case rel =>
     have hst := (hown'.stored k (.int .u32 (dif xs[k] 0 b : Nat))).1
     rw [nums_set] at hst
     have hv := sub_step zs xs k (dif xs[k] 0 b) xs[k] 0 b (bor xs[k] 0 b) (val (ys.take k)) (by have := Hzl.out; omega) hlt rfl (dif_bor _ _ _ bx (by omega) hbb) Hval.out
     rw [Nat.mul_zero, Nat.add_zero, ← val_take_more ys k (by omega)] at hv
     exact ⟨k + 1, zs.set k (dif xs[k] 0 b), bor xs[k] 0 b, by omega, by go_num, rfl, bor_le _ _ _, by simpa using Hzl.out, hst, hws.set _ _ (dif_lt _ _ _), hv, hbr.setCell (Nat.le_refl _) _⟩
    case measure => simp [intOf]; omega
  ·go_wp2_with fail
   go_ret
   obtain rfl : k = xs.length := by omega
   have hv := Hval.out
   rw [List.take_of_length_le (by have := Hzl.out; omega), List.take_of_length_le (by omega), List.take_of_length_le (by omega)] at hv
   have hend := sub_end zs xs ys b hws Hzl.out Hle.out hv
   rw [← Hzl.out] at hown'
   exact ⟨_, zs, by rw [← Hzl.out]; rfl, Words.of_own hown' hws (fun b h1 _ _ => by unfold Old; omega), hend.1, Hzl.out, hbr⟩
end Go.Proofs.YtdambnieminnfaaGreat

/- Add and Sub of package integer. -/
namespace Go.Proofs.YtdambnieminnfaaGreat
open Go.RowKit
attribute [local go_sem ↓] Go.wp_at_zero Go.wp_at_succ
attribute [local go_sem] beq_self_eq_true

theorem undrew {B : Nat} {w w2 : World} (h : Below B w.drew w2) : Below B w w2 := ⟨h.os, h.tape, h.output, h.size, h.block⟩
theorem undrewN {B n : Nat} {w w2 : World} (h : Below B (w.drewN n) w2) : Below B w w2 := ⟨h.os, h.tape, h.output, h.size, h.block⟩

theorem sv_add_same (n : Bool) (xs ys zs : List Nat) (h : val zs = val xs + val ys) : sv n zs = sv n xs + sv n ys := by
 unfold sv; split <;> omega
theorem sv_sub1 (n m : Bool) (hn : (n == m) = false) (xs ys zs : List Nat) (hl : val ys ≤ val xs) (h : val zs = val xs - val ys) : sv n zs = sv n xs + sv m ys := by
 cases n <;> cases m <;> simp at hn <;> simp only [sv_false, sv_true] <;> omega
theorem sv_sub2 (n m : Bool) (hn : (n == m) = false) (xs ys zs : List Nat) (hl : val xs ≤ val ys) (h : val zs = val ys - val xs) : sv m zs = sv n xs + sv m ys := by
 cases n <;> cases m <;> simp at hn <;> simp only [sv_false, sv_true] <;> omega
theorem trim_len_le {xs ys : List Nat} (hx : Ws xs) (hy : Ws ys) (h : val ys ≤ val xs) : (trimL ys).length ≤ (trimL xs).length := by
 rw [trimL_dig hx, trimL_dig hy]; exact dig_len_mono h

theorem cmpN_ge {a b : Nat} (h : ¬ a < b) : 0 ≤ cmpN a b := by
 unfold cmpN; rw [if_neg h]; split <;> omega
theorem cells_of {W : World} {g h : Nat} {t t' : TypeId} {a b c d : Value} (K : Loc W g t #[a, b] ∧ Loc W h t' #[c, d]) :
 (W.cell? ⟨g, 0, none⟩ = some a ∧ W.cell? ⟨g, 1, none⟩ = some b) ∧ W.cell? ⟨h, 0, none⟩ = some c ∧ W.cell? ⟨h, 1, none⟩ = some d :=
 ⟨⟨K.1.cell 0, K.1.cell 1⟩, K.2.cell 0, K.2.cell 1⟩

set_option maxHeartbeats 2000000 in
theorem add_any (w : World) (X : Nat → Prop) (v1 v2 : Value) (n1 n2 : Bool) (xs ys : List Nat) (h1 : IntR w X v1 n1 xs) (h2 : IntR w X v2 n2 ys) (hs1 : xs.length ≤ 1000000000000) (hs2 : ys.length ≤ 1000000000000) :
 Calls Tryz.prog 91 #[v1, v2] w fun e w' => ∃ v', e = .returned v' ∧ IntV w' (Old w) v' (sv n1 xs + sv n2 ys) ∧ Below w.heap.size w w' := by
 obtain ⟨A, c, rfl, _, _, H1⟩ := h1.open_
 obtain ⟨B, d, rfl, _, _, H2⟩ := h2.open_
 have l1 := trimL_len xs
 have l2 := trimL_len ys
 have HL1 := Lib.hid (fun h : val (trimL ys) ≤ val (trimL xs) => trim_len_le H1.2 H2.2 (by rwa [val_trimL, val_trimL] at h))
 have HL2 := Lib.hid (fun h : val (trimL xs) ≤ val (trimL ys) => trim_len_le H2.2 H1.2 (by rwa [val_trimL, val_trimL] at h))
 have hv1 := val_trimL xs
 have hv2 := val_trimL ys
 have HV1 := Lib.hid hv1
 have HV2 := Lib.hid hv2
 have HC1 := Lib.hid (can_trimL H1.2)
 have HC2 := Lib.hid (can_trimL H2.2)
 clear hv1 hv2
 rw [← sv_trim n1 xs, ← sv_trim n2 ys]
 generalize hz : sv n1 (trimL xs) + sv n2 (trimL ys) = z
 have HZ := Lib.hid hz
 clear hz
 go_enter Tryz.func91, Tryz.ntmps91
 go_wp2_with fail
 have KS := boxes3 w #[.bool n1, .slice A xs.length c] #[.bool n2, .slice B ys.length d] #[.bool false, .slice none 0 0] 58 58 58
 have K1 := (H1.weak (Y := fun _ => False) (fun _ _ h => h.elim)).below (below3 w (.cells #[.bool n1, .slice A xs.length c] 58) (.cells #[.bool n2, .slice B ys.length d] 58) (.cells #[.bool false, .slice none 0 0] 58))
 have K2 := (H2.weak (Y := fun _ => False) (fun _ _ h => h.elim)).below (below3 w (.cells #[.bool n1, .slice A xs.length c] 58) (.cells #[.bool n2, .slice B ys.length d] 58) (.cells #[.bool false, .slice none 0 0] 58))
 obtain ⟨-, -, Lr, hB0, hsz0⟩ := locs3 (c1 := #[.bool n1, .slice A xs.length c]) (c2 := #[.bool n2, .slice B ys.length d]) (c3 := #[.bool false, .slice none 0 0]) (t1 := 58) (t2 := 58) (t3 := 58) (Below.refl _ (((w.alloc _).alloc _).alloc _))
 generalize (((w.alloc (.cells #[.bool n1, .slice A xs.length c] 58)).alloc (.cells #[.bool n2, .slice B ys.length d] 58)).alloc (.cells #[.bool false, .slice none 0 0] 58)) = w0 at *
 clear H1 H2 h1 h2
 go_region_held3 (fun w' => w'.cell? ⟨w.heap.size, 0, none⟩ = some (.bool n1) ∧ w'.cell? ⟨w.heap.size, 1, none⟩ = some (.slice A xs.length c) ∧ w'.cell? ⟨w.heap.size + 1, 0, none⟩ = some (.bool n2) ∧ w'.cell? ⟨w.heap.size + 1, 1, none⟩ = some (.slice B ys.length d))
  (first | exact (fun K => ⟨K.1.cell 0, K.1.cell 1, K.2.cell 0, K.2.cell 1⟩) (KS.out _ (Below.refl _ _).drew))
  (first
   | (go_at_call_of 129 (Value.slice A xs.length c); refine (trim_any _ (fun _ => False) (.slice A xs.length c) xs (K1.below (Below.refl _ _).drew)).mono ?_; rintro e w' ⟨va, rfl, ha, rfl⟩)
   | (go_at_call_of 129 (Value.slice B ys.length d); refine (trim_any _ (fun _ => False) (.slice B ys.length d) ys (K2.below (Below.refl _ _).drew)).mono ?_; rintro e w' ⟨vb, rfl, hb, rfl⟩))
 all_goals
  have KS1 : Hid (∀ W, Below (w.heap.size + 1 + 1) w0.drew W → Loc W w.heap.size 58 #[.bool n1, .slice A xs.length c] ∧ Loc W (w.heap.size + 1) 58 #[.bool n2, .slice B ys.length d]) := fun W hW => KS.out W (undrew hW)
  have hB1 : Below w.heap.size w w0.drew := hB0.drew
  have Lr1 : Loc w0.drew (w.heap.size + 1 + 1) 58 #[.bool false, .slice none 0 0] := Lr
  have hsz1 : w.heap.size + 3 ≤ w0.drew.heap.size := hsz0
  clear KS K1 K2 hB0 Lr hsz0
  generalize w0.drew = w1 at *
  clear w0
  have k2 := KS1.out w1 (Below.refl _ _)
  have ca := k2.1.cell
  have cb := k2.2.cell
  clear k2
  clear HV1 HV2
  generalize trimL xs = es at *
  generalize trimL ys = fs at *
  by_cases hn : n1 = n2
  ·subst hn
   go_wp2_with fail
   go_region_held3 (fun w' => (w'.cell? ⟨w.heap.size, 0, none⟩ = some (.bool n1) ∧ w'.cell? ⟨w.heap.size, 1, none⟩ = some (.slice A xs.length c)) ∧ w'.cell? ⟨w.heap.size + 1, 0, none⟩ = some (.bool n1) ∧ w'.cell? ⟨w.heap.size + 1, 1, none⟩ = some (.slice B ys.length d))
    (first | exact cells_of (KS1.out _ (((k2.mono (by omega)).setCell (by simp) _).setCell (by simp) _)) | exact cells_of (KS1.out _ (k2.mono (by omega))) | exact cells_of (KS1.out _ (k1.mono (by omega))) | exact cells_of (KS1.out _ (Below.refl _ _).drew) | go_keep)
    (first
     | (go_at_call 131; refine (plus_any _ (fun _ => False) va vb es fs (ha.below (Below.refl _ _).drew) (hb.below (Below.refl _ _).drew) (by omega) (by omega)).mono ?_; rintro e w2 ⟨v', zs, rfl, hp, hv, hl, hb2⟩; have HV := Lib.hid hv; have HL := Lib.hid hl; clear hv hl; have k1 := below_undrew hb2)
     | (go_at_call 130; refine (signed_any _ (fun _ => False) _ v' zs (hp.weak (fun _ _ h => h.elim)) (by have := HL.out; omega)).mono ?_; rintro e w3 ⟨vs, rfl, hs, hb3⟩; have k2 := k1.trans (hb3.mono k1.size); have hk1 := k1.size; rw [sv_add_same _ es fs zs HV.out, HZ.out] at hs; obtain ⟨bs, As, ns, cs, rfl, Hs⟩ := hs.op; have Lr2 := Lr1.below k2; have cc := Lr2.cell; have cf := Lr2.frz))
   all_goals
    clear HL1 HL2 HC1 HC2 KS1 ca cb Lr1
    go_wp2_with fail
    refine bodyPost_ret (by simp [results, Tryz.results91, go_sem, cc, cf] <;> rfl) rfl ⟨_, rfl, IntV.stored (g := w.heap.size + 1 + 1) (Y := Old w) hs (by simp only [Old]; omega) _ _ (by intro b _ hb; simp only [Old] at hb ⊢; omega), below_set2 (hB1.trans (k2.mono (by omega))) (by omega) _ _⟩
  ·have hn' : (n1 == n2) = false := by simpa using hn
   clear hn
   by_cases hlt : val es < val fs
   ·have hcmp := cmpN_lt hlt
    have hlen := HL2.out (by omega)
    have HCM := Lib.hid hcmp
    have HLEN := Lib.hid hlen
    have HLT := Lib.hid hlt
    clear hcmp hlen HL1 HL2 hlt
    go_wp2_with fail
    refine (compare_any _ (fun _ => False) va vb es fs ha hb HC1.out HC2.out).mono ?_
    rintro e w' ⟨he, n, rfl⟩
    rw [HCM.out] at he
    subst he
    go_wp2_with fail
    go_region_held3 (fun w' => (w'.cell? ⟨w.heap.size, 0, none⟩ = some (.bool n1) ∧ w'.cell? ⟨w.heap.size, 1, none⟩ = some (.slice A xs.length c)) ∧ w'.cell? ⟨w.heap.size + 1, 0, none⟩ = some (.bool n2) ∧ w'.cell? ⟨w.heap.size + 1, 1, none⟩ = some (.slice B ys.length d))
     (first | exact cells_of (KS1.out _ (((k2.mono (by omega)).setCell (by simp) _).setCell (by simp) _)) | exact cells_of (KS1.out _ (k2.mono (by omega))) | exact cells_of (KS1.out _ (k1.mono (by omega))) | exact cells_of (KS1.out _ (below_drewN (Below.refl _ _) n).drew) | go_keep)
     (first
      | (go_at_call 133; refine (minus_any _ (fun _ => False) vb va fs es (hb.below (below_drewN (Below.refl _ _) n).drew) (ha.below (below_drewN (Below.refl _ _) n).drew) (by omega) (by have := HLT.out; omega) HLEN.out).mono ?_; rintro e w2 ⟨v', zs, rfl, hp, hv, hl, hb2⟩; have HV := Lib.hid hv; have HL := Lib.hid hl; clear hv hl; have k1 : Below w1.heap.size w1 w2 := undrewN (undrew hb2))
      | (go_at_call 130; refine (signed_any _ (fun _ => False) _ v' zs (hp.weak (fun _ _ h => h.elim)) (by have := HL.out; omega)).mono ?_; rintro e w3 ⟨vs, rfl, hs, hb3⟩; have k2 := k1.trans (hb3.mono k1.size); have hk1 := k1.size; rw [sv_sub2 n1 n2 hn' es fs zs (Nat.le_of_lt HLT.out) HV.out, HZ.out] at hs; obtain ⟨bs, As, ns, cs, rfl, Hs⟩ := hs.op; have Lr2 := Lr1.below k2; have cc := Lr2.cell; have cf := Lr2.frz))
    all_goals
     clear HC1 HC2 KS1 ca cb Lr1
     go_wp2_with fail
     refine bodyPost_ret (by simp [results, Tryz.results91, go_sem, cc, cf] <;> rfl) rfl ⟨_, rfl, IntV.stored (g := w.heap.size + 1 + 1) (Y := Old w) hs (by simp only [Old]; omega) _ _ (by intro b _ hb; simp only [Old] at hb ⊢; omega), below_set2 (hB1.trans (k2.mono (by omega))) (by omega) _ _⟩
   ·obtain ⟨cm, hcc, hcm0⟩ : ∃ cm, cmpN (val es) (val fs) = cm ∧ 0 ≤ cm := ⟨_, rfl, cmpN_ge hlt⟩
    have hlen := HL1.out (by omega)
    have HCM := Lib.hid hcc
    have HLEN := Lib.hid hlen
    have HLT := Lib.hid hlt
    clear hcc hlen HL1 HL2 hlt
    go_wp2_with fail
    refine (compare_any _ (fun _ => False) va vb es fs ha hb HC1.out HC2.out).mono ?_
    rintro e w' ⟨he, n, rfl⟩
    rw [HCM.out] at he
    subst he
    go_wp2_with fail
    go_region_held3 (fun w' => (w'.cell? ⟨w.heap.size, 0, none⟩ = some (.bool n1) ∧ w'.cell? ⟨w.heap.size, 1, none⟩ = some (.slice A xs.length c)) ∧ w'.cell? ⟨w.heap.size + 1, 0, none⟩ = some (.bool n2) ∧ w'.cell? ⟨w.heap.size + 1, 1, none⟩ = some (.slice B ys.length d))
     (first | exact cells_of (KS1.out _ (((k2.mono (by omega)).setCell (by simp) _).setCell (by simp) _)) | exact cells_of (KS1.out _ (k2.mono (by omega))) | exact cells_of (KS1.out _ (k1.mono (by omega))) | exact cells_of (KS1.out _ (below_drewN (Below.refl _ _) n).drew) | go_keep)
     (first
      | (go_at_call 133; refine (minus_any _ (fun _ => False) va vb es fs (ha.below (below_drewN (Below.refl _ _) n).drew) (hb.below (below_drewN (Below.refl _ _) n).drew) (by omega) (by have := HLT.out; omega) HLEN.out).mono ?_; rintro e w2 ⟨v', zs, rfl, hp, hv, hl, hb2⟩; have HV := Lib.hid hv; have HL := Lib.hid hl; clear hv hl; have k1 : Below w1.heap.size w1 w2 := undrewN (undrew hb2))
      | (go_at_call 130; refine (signed_any _ (fun _ => False) _ v' zs (hp.weak (fun _ _ h => h.elim)) (by have := HL.out; omega)).mono ?_; rintro e w3 ⟨vs, rfl, hs, hb3⟩; have k2 := k1.trans (hb3.mono k1.size); have hk1 := k1.size; rw [sv_sub1 n1 n2 hn' es fs zs (Nat.le_of_not_lt HLT.out) HV.out, HZ.out] at hs; obtain ⟨bs, As, ns, cs, rfl, Hs⟩ := hs.op; have Lr2 := Lr1.below k2; have cc := Lr2.cell; have cf := Lr2.frz))
    all_goals
     clear HC1 HC2 KS1 ca cb Lr1
     go_wp2_with fail
     refine bodyPost_ret (by simp [results, Tryz.results91, go_sem, cc, cf] <;> rfl) rfl ⟨_, rfl, IntV.stored (g := w.heap.size + 1 + 1) (Y := Old w) hs (by simp only [Old]; omega) _ _ (by intro b _ hb; simp only [Old] at hb ⊢; omega), below_set2 (hB1.trans (k2.mono (by omega))) (by omega) _ _⟩

set_option maxHeartbeats 1000000 in
theorem sub_any (w : World) (X : Nat → Prop) (v1 v2 : Value) (n1 n2 : Bool) (xs ys : List Nat) (h1 : IntR w X v1 n1 xs) (h2 : IntR w X v2 n2 ys) (hs1 : xs.length ≤ 1000000000000) (hs2 : ys.length ≤ 1000000000000) :
 Calls Tryz.prog 183 #[v1, v2] w fun e w' => ∃ v', e = .returned v' ∧ IntV w' (Old w) v' (sv n1 xs - sv n2 ys) ∧ Below w.heap.size w w' := by
 obtain ⟨A, c, rfl, _, _, H1⟩ := h1.open_
 obtain ⟨B, d, rfl, _, _, H2⟩ := h2.open_
 go_enter Tryz.func183, Tryz.ntmps183
 go_wp2_with fail
 refine (add_any _ X _ _ n1 (!n2) xs ys ⟨_, rfl, H1.below (below3 _ _ _ _)⟩ ⟨_, rfl, H2.below (below3 _ _ _ _)⟩ hs1 hs2).mono ?_
 rintro e w2 ⟨v2, rfl, h2, hb2⟩
 obtain ⟨b2, A2, n2, c2, rfl, h2⟩ := h2.op
 obtain ⟨La, Lb, Lr, hB, hsz⟩ := locs3 hb2
 have cc := Lr.cell
 have cf := Lr.frz
 go_wp2_with fail
 refine bodyPost_ret (by simp [results, Tryz.results183, go_sem, cc, cf] <;> rfl) rfl ⟨_, rfl, ?_, below_set2 hB (by omega) _ _⟩
 have h3 := IntV.stored (g := w.heap.size + 1 + 1) (Y := Old w) h2 (by simp only [Old, World.size_alloc]; omega) (.bool b2) (.slice A2 n2 c2) (by intro b _ hb; simp only [Old, World.size_alloc] at hb ⊢; omega)
 rw [sv_not, ← Int.sub_eq_add_neg] at h3
 exact h3
end Go.Proofs.YtdambnieminnfaaGreat

