/- Contracts of the functions that the statements reach, part 24. -/
import Derived.Test.YtbdcjhoedhhabaaGreatRows
import Derived.Deep.DeepCutAuto
import Derived.Deep.RegionHeld3
import Derived.Deep.DrawnRows
import Derived.Test.YtbdcjhoedhhabaaGreatA20
import Derived.Test.YtbdcjhoedhhabaaGreatA21
import Derived.Test.YtbdcjhoedhhabaaGreatA23
set_option linter.unusedSimpArgs false
set_option linter.unusedVariables false

/- over: quotient and remainder of two magnitudes. -/
namespace Go.Proofs.YtbdcjhoedhhabaaGreat
open Go.RowKit

set_option maxHeartbeats 1000000 in
theorem over_any (w : World) (X : Nat → Prop) (hX : ∀ b, X b → b < w.heap.size) (va vb : Value) (xs ys : List Nat) (ha0 : Words w X va xs) (hb : Words w (fun _ => False) vb ys) (hx : Can xs) (hy : Can ys) (hne : 0 < ys.length) (hs : xs.length ≤ 1000000000000) (ht : ys.length ≤ 1000000000000) :
 Calls Tryz.prog 526 #[va, vb] w fun e w' => ∃ v1 v2 qs rs, e = .returned (.tuple #[v1, v2]) ∧ Words w' X v1 qs ∧ Words w' X v2 rs ∧ val qs = val xs / val ys ∧ val rs = val xs % val ys ∧ qs.length ≤ xs.length ∧ rs.length ≤ xs.length ∧ Below w.heap.size w w' := by
 have ha := ha0.weak (Y := fun _ => False) (fun _ _ h => h.elim)
 obtain ⟨A, c, rfl, hc, _, HA⟩ := ha.open_
 obtain ⟨B, d, rfl, hd, _, HB⟩ := hb.open_
 have hpos : 0 < val ys := hy.pos (by intro e; subst e; simp at hne)
 have hlow := can_lower hy (by intro e; subst e; simp at hne)
 have hcmp := compare_any w (fun _ => False) _ _ xs ys HA HB hx hy
 go_enter Tryz.func526, Tryz.ntmps526
 go_wp2_with fail
 refine hcmp.mono ?_
 rintro e w1 ⟨rfl, n, rfl⟩
 by_cases hlt : val xs < val ys
 ·rw [cmpN_lt hlt]
  go_wp2_with fail
  go_ret2
  exact ⟨_, _, [], xs, rfl, Words.nil _ _, ha0.drewN n, by rw [Nat.div_eq_of_lt hlt]; rfl, by rw [Nat.mod_eq_of_lt hlt], by simp, by simp, below_drewN (Below.refl _ _) n⟩
 ·obtain ⟨cc, hcc, hc0⟩ : ∃ cc, cmpN (val xs) (val ys) = cc ∧ 0 ≤ cc := ⟨_, rfl, by unfold cmpN; rw [if_neg hlt]; split <;> omega⟩
  rw [hcc]
  have hc0' : decide (cc < 0) = false := by rw [decide_eq_false_iff_not]; omega
  have hlen : ys.length ≤ xs.length := by
   rcases Nat.lt_or_ge xs.length ys.length with h | h
   ·exact absurd (val_lt_of_len hx.1 hy h) hlt
   ·exact h
  clear hcc hcmp
  by_cases h1 : ys.length = 1
  ·obtain ⟨y, rfl⟩ : ∃ y, ys = [y] := by
    rcases ys with _ | ⟨y, _ | ⟨z, zs⟩⟩
    ·simp at hne
    ·exact ⟨y, rfl⟩
    ·simp at h1
   have hy0 : val [y] = y := by show y + 4294967296 * 0 = y; omega
   rw [hy0] at hpos
   have hy32 := HB.lt (i := 0) (by simp)
   obtain ⟨a, rfl, _, _, d0⟩ := HB.at_ (k := 0) (by simp)
   simp only [List.getElem_cons_zero] at hy32 d0
   rw [addr_zero] at d0
   go_wp2_with fail
   refine (short_any _ _ _ xs y (HA.drewN n) (by omega) hpos hy32).mono ?_
   rintro e w2 ⟨v2, zs, r, rfl, h2, hz, hr, hzl, hb2⟩
   have hr32 : r < 4294967296 := by have := Nat.mod_lt (val xs) hpos; omega
   have HZ := Lib.hid hz
   have HR := Lib.hid hr
   clear hz hr
   go_wp2_with fail
   go_ret2
   refine ⟨_, _, zs, [r], rfl, (h2.weak (fun b _ h => hX b h)).below (below1 _ _), Words.lit [r] (Loc.new _ _ _) (by simp; omega) (fun h => by have h3 := hX _ h; have h4 : w.heap.size ≤ w2.heap.size := hb2.size; omega) (by unfold maxLen; simp), by rw [hy0]; exact HZ.out, by rw [hy0, ← HR.out]; show r + 4294967296 * 0 = r; omega, by omega, by simpa using hlen, ?_⟩
   exact ((below_undrewN hb2).trans ((below1 _ _).mono (below_undrewN hb2).size))
  ·obtain ⟨p, hp⟩ : ∃ p, ys.length = p + 2 := ⟨ys.length - 2, by omega⟩
   have h0 : 0 < ys[p + 1] := by
    have h := hy.2 (by intro e; subst e; simp at hne)
    rw [List.getLast_eq_getElem] at h
    have e : ys[ys.length - 1] = ys[p + 1] := by congr 1; omega
    omega
   have hy32 := HB.lt (i := p + 1) (by omega)
   obtain ⟨a, rfl, _, _, d1⟩ := HB.at_ (k := p + 1) (by omega)
   have d1 : w.cell? ⟨a.block, a.off + (p + 1), none⟩ = some (.int .u32 ((ys[p + 1] : Nat) : Int)) := by rw [← addr_succ]; exact d1
   obtain ⟨s, hs'⟩ : ∃ s, s = 32 - Lib.bitLen ys[p + 1] := ⟨_, rfl⟩
   obtain ⟨hs32, _, _⟩ := norm_word ys[p + 1] h0 hy32
   rw [← hs'] at hs32
   have hlead := lead32_any (w.drewN n) ((ys[p + 1] : Nat) : Int) (by omega) (by omega)
   rw [Int.toNat_natCast, ← hs'] at hlead
   have hno := fun vs h1 h2 h3 => norm_div ys vs p s hy.1 h1 hp h2 h0 hs' h3
   have HNO := Lib.hid hno
   have HS := Lib.hid hs'
   have i0 : (0 : Int) ≤ (p : Int) := by omega
   have i1 : (p : Int) ≤ 1000000000000 := by omega
   have i4 : (0 : Int) ≤ (p : Int) + 1 := by omega
   have i5 : (p : Int) + 1 < (p : Int) + 2 := by omega
   have w1 : IntKind.i64.wrap ((p : Int) + 2 - 1) = (p : Int) + 1 := by rw [IntKind.wrap_i64]; omega
   have w3 : IntKind.i64.wrap ((p : Int) + 1) = (p : Int) + 1 := by rw [IntKind.wrap_i64]; omega
   have w5 : (p : Int) + 2 - 1 = (p : Int) + 1 := by omega
   clear hno hs' h0 h1
   generalize hyt : ys[p + 1] = yt at *
   clear hyt
   have hb1 : ((((p : Nat) : Int) + 2) == 1) = false := by rw [beq_eq_false_iff_ne]; omega
   have HP := Lib.hid hp
   have HPS := Lib.hid hpos
   have HLW := Lib.hid hlow
   have HLN := Lib.hid hlen
   have HLT := Lib.hid hlt
   clear hlt hlow hlen hpos hne
   rw [hp] at HB
   go_wp2_with fail
   refine hlead.mono ?_
   rintro e w2 ⟨rfl, rfl⟩
   go_wp2_with fail
   refine (left_any _ (fun _ => False) _ ys s (HB.drewN n) (by omega) hs32).mono ?_
   rintro e w2 ⟨gv, vs, rfl, hgv, hrv, hvl, hvs, hvv, hb2⟩
   obtain ⟨hv1, hv2, hv3, hv4, hv5⟩ := HNO.out vs hvs (by omega) hvv
   obtain ⟨q0, hq0⟩ : ∃ q0, q0 = xs.length - (p + 2) := ⟨_, rfl⟩
   have hxl : q0 + (p + 2) = xs.length := by have := HLN.out; omega
   have f1 : (xs.length : Int) - ((p : Int) + 2) = (q0 : Int) := by omega
   have f2 : IntKind.i64.wrap ((xs.length : Int) - ((p : Int) + 2)) = (q0 : Int) := by rw [IntKind.wrap_i64]; omega
   have f3 : IntKind.i64.wrap ((q0 : Int) + 1) = (q0 : Int) + 1 := by rw [IntKind.wrap_i64]; omega
   have k2 := below_undrewN hb2
   have HA2 := HA.below k2
   have hvl2 : vs.length = p + 2 + 1 := by omega
   have HV1 := Lib.hid hv1
   have HV2 := Lib.hid hv2
   have HV3 := Lib.hid hv3
   have HV4 := Lib.hid hv4
   have HV5 := Lib.hid hv5
   have HVL := Lib.hid hvl2
   have HXL := Lib.hid hxl
   have HVV := Lib.hid hvv
   clear hv1 hv2 hv3 hv4 hv5 hvl hvl2 hxl hvv hlead d1 hq0
   go_wp2_with fail
   refine (left_any _ (fun _ => False) _ xs s HA2 (by omega) hs32).mono ?_
   rintro e w3 ⟨gu, us, rfl, hgu, hru, hul, hus, huv, hb3⟩
   have hrv3 := hrv.below hb3
   have k3 := k2.trans (hb3.mono k2.size)
   have hgv2 : w.heap.size ≤ gv := hgv
   have hguv : gv < gu := Nat.lt_of_lt_of_le hrv.lt hgu
   have HUV := Lib.hid huv
   have HUL := Lib.hid hul
   clear huv hul hrv k2 HA2 hb2 hgv
   go_wp2_with (at_make; refine wpList_makeN _ rfl _ _ rfl Tryz.underlying209 info_u32 rfl w3.heap.size (q0 + 1) rfl rfl (by go_num) (by go_num) (by omega) (by unfold maxLen; omega) (Nat.le_refl _) ?_)
   intro w4 hown hgrow
   have k4' : Below w3.heap.size w3 w4 := below_none (Below.refl _ _) hgrow (Nat.le_refl _)
   rw [nums_zeros] at hown
   have hrq := (Row.of_own hown).1
   have hru4 := hru.below k4'
   have hrv4 := hrv3.below k4'
   have hu3 := hru.lt
   have k4 := k3.trans (k4'.mono k3.size)
   have hq3 : w.heap.size ≤ w3.heap.size := k3.size
   generalize hgq : w3.heap.size = gq at *
   clear hgrow hown hru hrv3 k3 hb3 k4' hgq
   go_wp2_with fail
   go_loopw [12] (fun i wr => ∃ (k : Nat) (uu qs : List Nat), k ≤ q0 + 1 ∧ i = .int .i64 ((k : Int) - 1) ∧ uu.length = xs.length + 1 ∧ Ws uu ∧ Row wr gu uu ∧ qs.length = q0 + 1 ∧ Ws qs ∧ Row wr gq qs ∧ Row wr gv vs ∧ Below w.heap.size w wr ∧ val (uu.drop k) < val ys * 2 ^ s ∧
    val xs * 2 ^ s = val (uu.take k) + 4294967296 ^ k * (val (uu.drop k) + val ys * 2 ^ s * val (qs.drop k))) (fun i _ => (intOf i + 1).toNat)
   case atStart =>
    have h1 := over_start (V := val ys * 2 ^ s) hx.1 (by omega : 0 < p + 2) hs32 HUL.out (by have := HXL.out; omega) hus HUV.out HV3.out
    have e : xs.length - (p + 2) = q0 := by have := HXL.out; omega
    rw [e] at h1
    refine ⟨q0 + 1, us, List.replicate (q0 + 1) 0, Nat.le_refl _, by go_num, HUL.out, hus, hru4, by simp, Ws.replicate _, hrq, hrv4, k4, h1, ?_⟩
    rw [List.drop_of_length_le (by simp : (List.replicate (q0 + 1) 0).length ≤ q0 + 1)]
    show _ = _ + _ * (_ + _ * 0)
    rw [← HUV.out, val_take_drop us (q0 + 1), List.length_take, Nat.min_eq_left (by have := HUL.out; have := HXL.out; omega)]
    rfl
   case round =>
    obtain ⟨k, uu, qs, hk, hi, hul, huu, hru, hql, hqs, hrq5, hrv5, hbr, hdl, hinv⟩ := hrel
    have HUL2 := Lib.hid hul
    have HQL := Lib.hid hql
    have HDL := Lib.hid hdl
    have HINV := Lib.hid hinv
    clear hul hql hdl hinv hrq hru4 hrv4
    by_cases hk0 : k = 0
    ·subst hk0
     obtain rfl := hi
     have hdl := HDL.out
     have hinv := HINV.out
     rw [List.drop_zero] at hdl
     rw [List.drop_zero, List.drop_zero, List.take_zero, Nat.pow_zero, Nat.one_mul] at hinv
     have hinv : val xs * 2 ^ s = val uu + val ys * 2 ^ s * val qs := by rw [hinv]; show 0 + _ = _; omega
     obtain ⟨e1, e2⟩ := over_end (n := p + 2) (Nat.le_of_lt HV2.out) HPS.out hdl hinv
     have hwu := (hru.words (X := fun _ => False) huu (fun h => h) (by rw [HUL2.out]; unfold maxLen; omega)).take (k := p + 2) (by rw [HUL2.out]; have := HXL.out; omega)
     rw [HUL2.out] at hwu
     have hl3 : (uu.take (p + 2)).length = p + 2 := by rw [List.length_take, HUL2.out]; have := HXL.out; omega
     have HL3 := Lib.hid hl3
     have E1 := Lib.hid e1
     have E2 := Lib.hid e2
     clear hdl hinv e1 e2 hl3
     go_wp2_with fail
     refine (right_any _ (fun _ => False) _ (uu.take (p + 2)) s hwu (by rw [HL3.out]; omega) hs32).mono ?_
     rintro e w6 ⟨v6, zs, rfl, h6, hzl, hzv, hb6⟩
     have hrq6 := hrq5.below hb6
     have hwq := hrq6.words (X := X) hqs (fun h => by have := hX _ h; omega) (by rw [HQL.out]; unfold maxLen; omega)
     rw [HQL.out] at hwq
     have HZL := Lib.hid hzl
     have HZV := Lib.hid hzv
     clear hzl hzv hrq6
     go_wp2_with fail
     go_ret2
     exact ⟨_, _, qs, zs, rfl, hwq, h6.weak (fun b _ h => by have := hX _ h; have := hbr.size; show b < _; omega), E1.out, by rw [HZV.out]; exact E2.out, by rw [HQL.out]; have := HXL.out; omega, by rw [HZL.out, HL3.out]; have := HXL.out; omega, hbr.trans (hb6.mono hbr.size)⟩
    ·obtain ⟨j, rfl⟩ : ∃ j, k = j + 1 := ⟨k - 1, by omega⟩
     obtain rfl := hi.trans (show Value.int .i64 (((j + 1 : Nat) : Int) - 1) = .int .i64 (j : Int) by congr 1; omega)
     clear hi
     have j1 : (0 : Int) ≤ (j : Int) := by omega
     have j2 : (j : Int) < (q0 : Int) + 1 := by omega
     have j3 : (j : Int) + ((p : Int) + 2) + 1 ≤ (xs.length : Int) + 1 := by have := HXL.out; omega
     have j4 : ¬ xs.length + 1 = j := by have := HXL.out; omega
     have hjn : j + (p + 2) < uu.length := by rw [HUL2.out]; have := HXL.out; omega
     obtain ⟨w1', w2', w3', w4'⟩ := over_window (n := p + 2) huu hjn (Nat.le_of_lt HV2.out) HDL.out
     have hwv := (hrv5.words (X := fun b => b = gu) hvs (by show ¬ gv = gu; omega) (by rw [HVL.out]; unfold maxLen; omega)).take (k := p + 2) (by rw [HVL.out]; omega)
     rw [HVL.out] at hwv
     have hdig := digit_any wr gu j p (xs.length + 1 - j) uu (vs.take (p + 2)) _ hru huu hwv HV4.out hjn (by rw [HUL2.out]; omega) (HV5.out (by rw [HV4.out]; omega)) (by rw [w1', HV1.out]; exact w2')
     rw [HV1.out] at hdig
     have HJN := Lib.hid hjn
     clear w1' w2' w3' w4' hwv
     clear hjn
     go_wp2_with fail
     rw [(by omega : j + (p + 2) + 1 - j = p + 2 + 1)]
     refine hdig.mono ?_
     rintro e w5 ⟨uu2, rfl, hru2, huu2, hl2, hsame, hseg, hgr⟩
     have hkp := keep_grown (X := fun b => b = gu) hgr rfl
     have hrq6 : Row w5 gq qs := Loc.keep hrq5 hkp (by show ¬ gq = gu; omega)
     have hrv6 : Row w5 gv vs := Loc.keep hrv5 hkp (by show ¬ gv = gu; omega)
     have hstep := over_step huu HJN.out (Nat.le_of_lt HV2.out) (Nat.mul_pos HPS.out (Nat.pow_pos (by omega))) HDL.out hl2 hsame hseg (by rw [HQL.out]; omega) HINV.out
     obtain ⟨hs1, hs2⟩ := hstep
     obtain ⟨q, hq⟩ : ∃ q, seg uu j (p + 2 + 1) / (val ys * 2 ^ s) = q := ⟨_, rfl⟩
     rw [hq] at hs2
     rw [hq]
     have hq32 : q < 4294967296 := by
      rw [← hq, Nat.div_lt_iff_lt_mul (Nat.mul_pos HPS.out (Nat.pow_pos (by omega)))]
      obtain ⟨w1', w2', _, _⟩ := over_window (n := p + 2) huu HJN.out (Nat.le_of_lt HV2.out) HDL.out
      rw [w1']; exact w2'
     have cq := hrq6.cell (k := j) (by rw [HQL.out]; omega)
     have fq := hrq6.frz j
     have hb5 := below_grown hbr hgr hbr.size (by omega)
     have HS1 := Lib.hid hs1
     have HS2 := Lib.hid hs2
     have HL2 := Lib.hid hl2
     clear hs1 hs2 hl2 hsame hseg hq hdig
     go_wp2_with fail
     go_roundw
     case rel =>
      exact ⟨j, uu2, qs.set j q, by omega, by go_num, by rw [HL2.out, HUL2.out], huu2, Loc.far hru2 (show gu ≠ gq by omega) _, by simpa using HQL.out, hqs.set _ _ hq32, hrq6.set j q, Loc.far hrv6 (show gv ≠ gq by omega) _, hb5.setCell (by show w.heap.size ≤ gq; omega) _, HS1.out, HS2.out⟩
     case measure => simp only [intOf]; omega

/- times: the product of two magnitudes. -/

set_option maxHeartbeats 1000000 in
theorem times_any (w : World) (X : Nat → Prop) (va vb : Value) (xs ys : List Nat) (ha : Words w X va xs) (hb : Words w X vb ys) (hs : xs.length ≤ 1099511627776) (ht : ys.length ≤ 1099511627776) :
 Calls Tryz.prog 428 #[va, vb] w fun e w' => ∃ v' zs, e = .returned v' ∧ Words w' (Old w) v' zs ∧ val zs = val xs * val ys ∧ zs.length = xs.length + ys.length ∧ Below w.heap.size w w' := by
 obtain ⟨A, c, rfl, hc, _, HA⟩ := ha.open_
 obtain ⟨B, d, rfl, hd, _, HB⟩ := hb.open_
 obtain ⟨N, hN⟩ : ∃ N, N = xs.length + ys.length := ⟨_, rfl⟩
 have HN := Lib.hid hN
 have hN1 : N ≤ xs.length + ys.length := by omega
 have hN2 : xs.length + ys.length ≤ N := by omega
 clear hN
 go_enter Tryz.func428, Tryz.ntmps428
 go_wp2_with (at_make; refine wpList_makeN _ rfl _ _ rfl Tryz.underlying209 info_u32 rfl w.heap.size N rfl rfl (by omega) (by omega) (by omega) (by unfold maxLen; omega) (Nat.le_refl _) ?_)
 intro w1 hown hgrow
 have hb1 : Below w.heap.size w w1 := below_none (Below.refl _ _) hgrow (Nat.le_refl _)
 rw [nums_zeros] at hown
 clear hgrow
 go_wp2_with fail
 go_loopw [19] (fun i wr => ∃ (k : Nat) (zs : List Nat), k ≤ xs.length ∧ i = .int .i64 k ∧ zs.length = N ∧ wr.ownsRow w.heap.size 305 1 (.slice (some ⟨w.heap.size, 0, none⟩) N N) N (nums .u32 zs) ∧ Ws zs ∧
  val zs = val (xs.take k) * val ys ∧ (∀ t, k + ys.length ≤ t → (h : t < zs.length) → zs[t] = 0) ∧ Below w.heap.size w wr) (fun i _ => xs.length - (intOf i).toNat)
 case atStart => exact ⟨0, List.replicate N 0, by omega, rfl, by simp, hown, Ws.replicate _, by simp [val_replicate], by simp, hb1⟩
 case round =>
  obtain ⟨k, zs, hk, rfl, hzl, hown', hws, hval, hzero, hbr⟩ := hrel
  have Hval := Lib.hid hval
  have Hzl := Lib.hid hzl
  have Hzero := Lib.hid hzero
  have hsz := hbr.size
  clear hval hzl hown hzero
  have HPr := HA.below hbr
  have HQr := HB.below hbr
  by_cases hlt : k < xs.length
  ·obtain ⟨a, rfl, _, _, hca⟩ := HPr.at_ hlt
   have bx := HA.lt hlt
   go_wp2_with fail
   obtain ⟨wo, rfl⟩ : ∃ wo : World, wo = wr := ⟨_, rfl⟩
   go_loopw [8, 26] (fun cr j wr => ∃ (m : Nat) (zs : List Nat) (cy : Nat), m ≤ ys.length ∧ j = .int .i64 m ∧ cr = .int .u64 cy ∧ cy < 4294967296 ∧ zs.length = N ∧ wr.ownsRow w.heap.size 305 1 (.slice (some ⟨w.heap.size, 0, none⟩) N N) N (nums .u32 zs) ∧ Ws zs ∧
    val zs + 4294967296 ^ (k + m) * cy = val (xs.take k) * val ys + 4294967296 ^ k * (xs[k] * val (ys.take m)) ∧ (∀ t, k + ys.length ≤ t → (h : t < zs.length) → zs[t] = 0) ∧ Below w.heap.size w wr) (fun _ j _ => ys.length - (intOf j).toNat)
   case atStart => exact ⟨0, zs, 0, by omega, rfl, rfl, by omega, Hzl.out, hown', hws, by simpa using Hval.out, Hzero.out, hbr⟩
   case round =>
    obtain ⟨m, zs1, cy, hm, rfl, rfl, hcy, hzl1, hown1, hws1, hval1, hzero1, hbr1⟩ := hrel
    have Hval1 := Lib.hid hval1
    have Hzl1 := Lib.hid hzl1
    have Hzero1 := Lib.hid hzero1
    have hsz1 := hbr1.size
    clear hval1 hzl1 hzero1 hown'
    have HQ1 := HB.below hbr1
    by_cases hlm : m < ys.length
    ·obtain ⟨q, rfl, _, _, hcq⟩ := HQ1.at_ hlm
     have bq := HB.lt hlm
     have hp : k + m < zs1.length := by have := Hzl1.out; omega
     have bz := hws1.get hp
     have hcO : wr.cell? ⟨w.heap.size, k + m, none⟩ = some (.int .u32 ((zs1[k + m] : Nat) : Int)) := (hown1.cellAt (k + m) (by omega)).trans (nums_get _)
     have hfO := hown1.frozenAt (k + m)
     have m1 : ((xs[k] : Nat) : Int) * ((ys[m] : Nat) : Int) ≤ 18446744065119617025 := mul_lt_sq' _ _ bx bq
     have m0 : 0 ≤ ((xs[k] : Nat) : Int) * ((ys[m] : Nat) : Int) := Int.mul_nonneg (by omega) (by omega)
     go_wp2_with fail
     go_roundw
     case rel =>
      obtain ⟨s, hs⟩ : ∃ s, s = cy + xs[k] * ys[m] + zs1[k + m] := ⟨_, rfl⟩
      have es : ((cy : Nat) : Int) + (((xs[k] : Nat) : Int) * ((ys[m] : Nat) : Int) + ((zs1[k + m] : Nat) : Int)) = (s : Int) := by rw [hs]; push_cast; omega
      have bs : s ≤ 18446744073709551615 := by omega
      rw [es] at *
      have hst := (hown1.stored (k + m) (.int .u32 ((s % 4294967296 : Nat) : Int))).1
      rw [nums_set] at hst
      have hv := mul_step zs1 (k + m) s cy _ hp Hval1.out (xs[k] * ys[m]) hs
      refine ⟨m + 1, zs1.set (k + m) (s % 4294967296), s / 4294967296, by omega, by go_num, by go_num, by omega, by simpa using Hzl1.out, ?_, hws1.set _ _ (by omega), by rw [pow_mul_take k m xs[k] ys hlm, ← Nat.add_assoc k m 1, hv, Nat.add_assoc], fun t h1 h2 => ?_, hbr1.setCell (Nat.le_refl _) _⟩
      ·exact hst
      ·rw [List.getElem_set_ne (by omega)]
       exact Hzero1.out t h1 (by simpa using h2)
     case measure => simp [intOf]; omega
    ·obtain rfl : m = ys.length := by omega
     have hp : k + ys.length < zs1.length := by have := Hzl1.out; omega
     have hcO : wr.cell? ⟨w.heap.size, k + ys.length, none⟩ = some (.int .u32 ((zs1[k + ys.length] : Nat) : Int)) := (hown1.cellAt _ (by omega)).trans (nums_get _)
     have hfO := hown1.frozenAt (k + ys.length)
     go_wp2_with fail
     go_roundw
     case rel =>
      have hst := (hown1.stored (k + ys.length) (.int .u32 (cy : Nat))).1
      rw [nums_set] at hst
      have hv := mul_end zs1 (k + ys.length) cy _ hp (Hzero1.out _ (Nat.le_refl _) hp) Hval1.out
      rw [List.take_length, ← mul_take_succ xs k (val ys) hlt] at hv
      refine ⟨k + 1, zs1.set (k + ys.length) cy, by omega, by go_num, by simpa using Hzl1.out, hst, hws1.set _ _ hcy, hv, fun t h1 h2 => ?_, hbr1.setCell (Nat.le_refl _) _⟩
      rw [List.getElem_set_ne (by omega)]
      exact Hzero1.out t (by omega) (by simpa using h2)
     case measure => simp [intOf]; omega
  ·obtain rfl : k = xs.length := by omega
   go_wp2_with fail
   go_ret
   have hv := Hval.out
   rw [List.take_length] at hv
   rw [← Hzl.out] at hown'
   exact ⟨_, zs, by rw [← Hzl.out]; rfl, Words.of_own hown' hws (fun b h1 _ _ => by unfold Old; omega), hv, by rw [Hzl.out, HN.out], hbr⟩
end Go.Proofs.YtbdcjhoedhhabaaGreat

/- Clean, Neg, Abs, Sign, Valid, Mul of package integer. -/
namespace Go.Proofs.YtbdcjhoedhhabaaGreat
open Go.RowKit
attribute [local go_sem ↓] Go.wp_at_zero Go.wp_at_succ

set_option maxHeartbeats 1000000 in
theorem mul_any (w : World) (X : Nat → Prop) (v1 v2 : Value) (n1 n2 : Bool) (xs ys : List Nat) (h1 : IntR w X v1 n1 xs) (h2 : IntR w X v2 n2 ys) (hs1 : xs.length ≤ 1099511627776) (hs2 : ys.length ≤ 1099511627776) :
 Calls Tryz.prog 350 #[v1, v2] w fun e w' => ∃ v', e = .returned v' ∧ IntV w' (Old w) v' (sv n1 xs * sv n2 ys) ∧ Below w.heap.size w w' := by
 obtain ⟨A, c, rfl, _, _, H1⟩ := h1.open_
 obtain ⟨B, d, rfl, _, _, H2⟩ := h2.open_
 go_enter Tryz.func350, Tryz.ntmps350
 go_wp2_with fail
 have KS := boxes3 w #[.bool n1, .slice A xs.length c] #[.bool n2, .slice B ys.length d] #[.bool false, .slice none 0 0] 211 211 211
 go_region_held3 (fun w' => w'.cell? ⟨w.heap.size, 0, none⟩ = some (.bool n1) ∧ w'.cell? ⟨w.heap.size, 1, none⟩ = some (.slice A xs.length c) ∧ w'.cell? ⟨w.heap.size + 1, 0, none⟩ = some (.bool n2) ∧ w'.cell? ⟨w.heap.size + 1, 1, none⟩ = some (.slice B ys.length d))
  (first | (refine (fun K => ⟨K.1.cell 0, K.1.cell 1, K.2.cell 0, K.2.cell 1⟩) (KS.out _ ?_); first | exact hbs.mono (by simp) | exact hbt.mono (by simp) | exact ((hbs.mono (by simp)).setCell (by simp) _).setCell (by simp) _) | go_keep)
  (first
   | (go_at_call_of 426 (Value.slice A xs.length c); refine (trim_any _ X (.slice A xs.length c) xs (by exact H1.below (below3 _ _ _ _).drew)).mono ?_; rintro e w' ⟨va, rfl, ha, rfl⟩)
   | (go_at_call_of 426 (Value.slice B ys.length d); refine (trim_any _ X (.slice B ys.length d) ys (by exact H2.below (below3 _ _ _ _).drew)).mono ?_; rintro e w' ⟨vb, rfl, hb, rfl⟩)
   | (go_at_call 428; refine (times_any _ X va vb (trimL xs) (trimL ys) ha hb (by have := trimL_len xs; omega) (by have := trimL_len ys; omega)).mono ?_; rintro e w2 ⟨vt, zs, rfl, ht, hv, hl, hb2⟩; have HV := Lib.hid hv; have HL := Lib.hid hl; clear hv hl; have hbt := below_undrew hb2; have hst := (locs3 hbt).2.2.2.2)
   | (go_at_call 427; refine (signed_any _ _ _ vt zs ht (by have := HL.out; have := trimL_len xs; have := trimL_len ys; omega)).mono ?_; rintro e w3 ⟨vs, rfl, hs, hb3⟩; have hbs := hbt.trans (hb3.mono hbt.size); rw [sv_mul n1 n2 (trimL xs) (trimL ys) zs HV.out, sv_trim, sv_trim] at hs; obtain ⟨As, cs, rfl, _, _, Hs⟩ := hs.open_; obtain ⟨La, Lb, Lr, hB, hsz⟩ := locs3 hbs; have cc := Lr.cell; have cf := Lr.frz))
 all_goals
  go_wp2_with fail
  refine bodyPost_ret (by simp [results, Tryz.results350, go_sem, cc, cf] <;> rfl) rfl ⟨_, rfl, IntV.stored hs (by simp [Old]; omega) _ _ (by intro b _; simp [Old]; omega), below_set2 hB (by omega) _ _⟩
end Go.Proofs.YtbdcjhoedhhabaaGreat

/- plus: the sum of two magnitudes. -/
namespace Go.Proofs.YtbdcjhoedhhabaaGreat
open Go.RowKit

set_option maxRecDepth 20000 in
set_option maxHeartbeats 1000000 in
theorem plus_any (w : World) (X : Nat → Prop) (va vb : Value) (xs ys : List Nat) (ha : Words w X va xs) (hb : Words w X vb ys) (hs : xs.length ≤ 1099511627776) (ht : ys.length ≤ 1099511627776) :
 Calls Tryz.prog 450 #[va, vb] w fun e w' => ∃ v' zs, e = .returned v' ∧ Words w' (Old w) v' zs ∧ val zs = val xs + val ys ∧ zs.length ≤ xs.length + ys.length + 1 ∧ Below w.heap.size w w' := by
 obtain ⟨i0, hi, hz0, hz1, hz2⟩ := info_parts info_u32
 obtain ⟨A, c, rfl, hc, _, HA⟩ := ha.open_
 obtain ⟨B, d, rfl, hd, _, HB⟩ := hb.open_
 go_enter Tryz.func450, Tryz.ntmps450
 go_upto_if 13 with fail
 go_cut [0, 1] (fun p q wx => w = wx ∧ ∃ P Q A' c' B' d', p = .slice A' (List.length P) c' ∧ q = .slice B' (List.length Q) d' ∧ Words w X p P ∧ Words w X q Q ∧ Q.length ≤ P.length ∧ P.length ≤ xs.length + ys.length ∧ P.length ≤ 1099511627776 ∧ val P + val Q = val xs + val ys)
 case first =>
  by_cases hl : xs.length < ys.length
  all_goals
   go_wp2_with fail
   go_meet
   case rel => first | exact ⟨rfl, ys, xs, B, d, A, c, rfl, rfl, HB, HA, by omega, by omega, by omega, by omega⟩ | exact ⟨rfl, xs, ys, A, c, B, d, rfl, rfl, HA, HB, by omega, by omega, by omega, by omega⟩
 case rest =>
  obtain ⟨rfl, P, Q, A', c', B', d', rfl, rfl, HP, HQ, hQP, hPl, hPm, hsum⟩ := hcut
  have Hsum := Lib.hid hsum
  clear hsum
  go_wp2_with (at_make; refine wpList_make0 _ rfl _ _ rfl Tryz.underlying209 info_u32 w.heap.size (P.length + 1) rfl rfl (by omega) (by omega) (by unfold maxLen; omega) (by omega) ?_)
  intro w1 hown hgrow
  have hb1 : Below w.heap.size w w1 := below_none (Below.refl _ _) hgrow (Nat.le_refl _)
  clear hgrow
  go_wp2_with fail
  go_loopw [5, 6, 22] (fun o cr i wr => ∃ (k : Nat) (zs : List Nat) (cy : Nat), k ≤ P.length ∧ i = .int .i64 k ∧ cr = .int .u64 cy ∧ cy ≤ 1 ∧ zs.length = k ∧ wr.ownsRow w.heap.size 305 1 o zs.length (nums .u32 zs) ∧ Ws zs ∧
   val zs + 4294967296 ^ k * cy = val (P.take k) + val (Q.take k) ∧ Below w.heap.size w wr) (fun _ _ i _ => P.length - (intOf i).toNat)
  case atStart => exact ⟨0, [], 0, by omega, rfl, rfl, by omega, rfl, by simpa [nums] using hown, Ws.nil, by simp, hb1⟩
  case round =>
   obtain ⟨k, zs, cy, hk, rfl, rfl, hcy, hzl, hown', hws, hval, hbr⟩ := hrel
   have Hval := Lib.hid hval
   have Hzl := Lib.hid hzl
   have hzb : zs.length ≤ 1099511627776 := by omega
   have hsz := hbr.size
   clear hval hzl hown
   have HPr := HP.below hbr
   have HQr := HQ.below hbr
   by_cases hlt : k < P.length
   ·obtain ⟨a, rfl, _, _, hca⟩ := HPr.at_ hlt
    have bx := HP.lt hlt
    by_cases hq : k < Q.length
    ·obtain ⟨b, rfl, _, _, hcb⟩ := HQr.at_ hq
     have bq := HQ.lt hq
     go_wp2_with (at_builtin; refine wpList_push _ rfl _ _ rfl Tryz.underlying209 info_u32 rfl w.heap.size _ _ _ rfl (hown'.alloc _) _ _ rfl (heap_alloc_new wr _) rfl (by omega) (by unfold maxLen; omega) (by simp; omega) ?_)
     intro v2 w2 hown2 hg2 _
     have hb2 := below_own (hbr.alloc hsz _) (hown'.alloc _) hg2 (Nat.le_refl _) (by simp; omega)
     go_wp2_with fail
     go_roundw
     case rel =>
      rw [nums_snoc' _ _ _ ((cy + P[k] + Q[k]) % 4294967296) (by omega)] at hown2
      exact ⟨k + 1, zs ++ [(cy + P[k] + Q[k]) % 4294967296], (cy + P[k] + Q[k]) / 4294967296, by omega, by go_num, by go_num, by omega, by simp [Hzl.out], by simpa using hown2, Ws.append.2 ⟨hws, by simp [Ws]; omega⟩, add_step zs P Q k cy Hzl.out Hval.out hlt hq, hb2⟩
     case measure => simp [intOf]; omega
    ·go_wp2_with (at_builtin; refine wpList_push _ rfl _ _ rfl Tryz.underlying209 info_u32 rfl w.heap.size _ _ _ rfl (hown'.alloc _) _ _ rfl (heap_alloc_new wr _) rfl (by omega) (by unfold maxLen; omega) (by simp; omega) ?_)
     intro v2 w2 hown2 hg2 _
     have hb2 := below_own (hbr.alloc hsz _) (hown'.alloc _) hg2 (Nat.le_refl _) (by simp; omega)
     go_wp2_with fail
     go_roundw
     case rel =>
      rw [nums_snoc' _ _ _ ((cy + P[k]) % 4294967296) (by omega)] at hown2
      exact ⟨k + 1, zs ++ [(cy + P[k]) % 4294967296], (cy + P[k]) / 4294967296, by omega, by go_num, by go_num, by omega, by simp [Hzl.out], by simpa using hown2, Ws.append.2 ⟨hws, by simp [Ws]; omega⟩, add_step1 zs P Q k cy Hzl.out Hval.out hlt (by omega), hb2⟩
     case measure => simp [intOf]; omega
   ·go_wp2_with (at_builtin; refine wpList_push _ rfl _ _ rfl Tryz.underlying209 info_u32 rfl w.heap.size _ _ _ rfl (hown'.alloc _) _ _ rfl (heap_alloc_new wr _) rfl (by omega) (by unfold maxLen; omega) (by simp; omega) ?_)
    intro v2 w2 hown2 hg2 _
    have hb2 := below_own (hbr.alloc hsz _) (hown'.alloc _) hg2 (Nat.le_refl _) (by simp; omega)
    go_wp2_with fail
    go_ret
    rw [nums_snoc' _ _ _ (cy % 4294967296) (by omega)] at hown2
    refine ⟨_, zs ++ [cy % 4294967296], rfl, Words.of_own (by simpa using hown2) (Ws.append.2 ⟨hws, by simp [Ws]; omega⟩) (fun b h1 _ _ => by unfold Old; omega), ?_, by have := Hzl.out; simp; omega, hb2⟩
    have h1 := Hval.out
    rw [List.take_of_length_le (by omega), List.take_of_length_le (by omega)] at h1
    rw [val_snoc, Hzl.out, Nat.mod_eq_of_lt (by omega), h1, Hsum.out]

/- minus: the difference of two magnitudes. -/

set_option maxHeartbeats 1000000 in
theorem minus_any (w : World) (X : Nat → Prop) (va vb : Value) (xs ys : List Nat) (ha : Words w X va xs) (hb : Words w X vb ys) (hs : xs.length ≤ 1099511627776) (hle : val ys ≤ val xs) (hlen : ys.length ≤ xs.length) :
 Calls Tryz.prog 451 #[va, vb] w fun e w' => ∃ v' zs, e = .returned v' ∧ Words w' (Old w) v' zs ∧ val zs = val xs - val ys ∧ zs.length = xs.length ∧ Below w.heap.size w w' := by
 obtain ⟨A, c, rfl, hc, _, HA⟩ := ha.open_
 obtain ⟨B, d, rfl, hd, _, HB⟩ := hb.open_
 have Hle := Lib.hid hle
 clear hle
 go_enter Tryz.func451, Tryz.ntmps451
 go_wp2_with (at_make; refine wpList_makeN _ rfl _ _ rfl Tryz.underlying209 info_u32 rfl w.heap.size xs.length rfl rfl rfl rfl (by omega) (by unfold maxLen; omega) (Nat.le_refl _) ?_)
 intro w1 hown hgrow
 have hb1 : Below w.heap.size w w1 := below_none (Below.refl _ _) hgrow (Nat.le_refl _)
 rw [nums_zeros] at hown
 clear hgrow
 go_wp2_with fail
 go_loopw [6, 15] (fun br i wr => ∃ (k : Nat) (zs : List Nat) (b : Nat), k ≤ xs.length ∧ i = .int .i64 k ∧ br = .int .u32 b ∧ b ≤ 1 ∧ zs.length = xs.length ∧ wr.ownsRow w.heap.size 305 1 (.slice (some ⟨w.heap.size, 0, none⟩) xs.length xs.length) xs.length (nums .u32 zs) ∧ Ws zs ∧
  val (zs.take k) + val (ys.take k) = val (xs.take k) + 4294967296 ^ k * b ∧ Below w.heap.size w wr) (fun _ i _ => xs.length - (intOf i).toNat)
 case atStart => exact ⟨0, List.replicate xs.length 0, 0, by omega, rfl, rfl, by omega, by simp, hown, Ws.replicate _, by simp, hb1⟩
 case round =>
  obtain ⟨k, zs, b, hk, rfl, rfl, hbb, hzl, hown', hws, hval, hbr⟩ := hrel
  have Hval := Lib.hid hval
  have Hzl := Lib.hid hzl
  have hsz := hbr.size
  clear hval hzl hown
  have HPr := HA.below hbr
  have HQr := HB.below hbr
  by_cases hlt : k < xs.length
  ·obtain ⟨a, rfl, _, _, hca⟩ := HPr.at_ hlt
   have bx := HA.lt hlt
   have hcO : wr.cell? ⟨w.heap.size, k, none⟩ = some (.int .u32 ((zs[k]'(by have := Hzl.out; omega) : Nat) : Int)) := (hown'.cellAt k (by omega)).trans (nums_get _)
   have hfO := hown'.frozenAt k
   by_cases hq : k < ys.length
   ·obtain ⟨q, rfl, _, _, hcb⟩ := HQr.at_ hq
    have bq := HB.lt hq
    go_wp2_with (go_at_call 498; refine (sub32_any _ _ _ _ bx bq hbb).mono ?_; rintro e w' ⟨rfl, rfl⟩)
    go_roundw
    case rel =>
     have hst := (hown'.stored k (.int .u32 (dif xs[k] ys[k] b : Nat))).1
     rw [nums_set] at hst
     have hv := sub_step zs xs k (dif xs[k] ys[k] b) xs[k] ys[k] b (bor xs[k] ys[k] b) (val (ys.take k)) (by have := Hzl.out; omega) hlt rfl (dif_bor _ _ _ bx bq hbb) Hval.out
     rw [← val_take_succ ys k hq] at hv
     exact ⟨k + 1, zs.set k (dif xs[k] ys[k] b), bor xs[k] ys[k] b, by omega, by go_num, rfl, bor_le _ _ _, by simpa using Hzl.out, hst, hws.set _ _ (dif_lt _ _ _), hv, hbr.setCell (Nat.le_refl _) _⟩
    case measure => simp [intOf]; omega
   ·go_wp2_with (go_at_call 498; refine (sub32_any _ _ 0 _ bx (by omega) hbb).mono ?_; rintro e w' ⟨rfl, rfl⟩)
    go_roundw
    case rel =>
     have hst := (hown'.stored k (.int .u32 (dif xs[k] 0 b : Nat))).1
     rw [nums_set] at hst
     have hv := sub_step zs xs k (dif xs[k] 0 b) xs[k] 0 b (bor xs[k] 0 b) (val (ys.take k)) (by have := Hzl.out; omega) hlt rfl (dif_bor _ _ _ bx (by omega) hbb) Hval.out
     rw [Nat.mul_zero, Nat.add_zero, ← val_take_more ys k (by omega)] at hv
     exact ⟨k + 1, zs.set k (dif xs[k] 0 b), bor xs[k] 0 b, by omega, by go_num, rfl, bor_le _ _ _, by simpa using Hzl.out, hst, hws.set _ _ (dif_lt _ _ _), hv, hbr.setCell (Nat.le_refl _) _⟩
    case measure => simp [intOf]; omega
  ·go_wp2_with fail
   go_ret
   obtain rfl : k = xs.length := by omega
   have hv := Hval.out
   rw [List.take_of_length_le (by have := Hzl.out; omega), List.take_of_length_le (by omega), List.take_of_length_le (by omega)] at hv
   have hend := sub_end zs xs ys b hws Hzl.out Hle.out hv
   rw [← Hzl.out] at hown'
   exact ⟨_, zs, by rw [← Hzl.out]; rfl, Words.of_own hown' hws (fun b h1 _ _ => by unfold Old; omega), hend.1, Hzl.out, hbr⟩
end Go.Proofs.YtbdcjhoedhhabaaGreat

