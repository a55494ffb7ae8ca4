/- For every input the law returns true: the law's walk, and the statement out of it. -/
import Derived.Test.YtooheapikhdllaaRows
import Derived.Test.YtooheapikhdllaaM7
set_option linter.unusedSimpArgs false
set_option linter.unusedVariables false

/- The reference's Parse of fractions. -/
namespace Go.Proofs.Ytooheapikhdllaa
open Go.RowKit
attribute [local go_sem ↓] Go.wp_at_zero Go.wp_at_succ

/-- The denominator's text, "1" if there is none. -/
def refDen (ds : List UInt8) : List UInt8 := if rpDiv ds then rpBot ds else [49]
theorem slash_cons (a : UInt8) (tl : List UInt8) : slash (a :: tl) = if a = 47 then 0 else slash tl + 1 := by
  unfold slash
  rw [List.findIdx_cons]
  by_cases h : a = 47
  · subst h; rfl
  · have : (a == 47) = false := by rw [beq_eq_false_iff_ne]; exact h
    rw [this, if_neg h]; rfl
theorem rp_strip (bs : List UInt8) : isNeg (rpTop bs) = isNeg bs ∧ strip (rpTop bs) = rpTop (strip bs) ∧ rpBot bs = rpBot (strip bs) ∧ rpDiv bs = rpDiv (strip bs) := by
  cases bs with
  | nil => exact ⟨rfl, rfl, rfl, rfl⟩
  | cons a tl =>
    by_cases h : a = 45
    · subst h
      have e0 : isNeg (45 :: tl) = true := by rw [isNeg_cons]; rfl
      have e1 : slash (45 :: tl) = slash tl + 1 := by rw [slash_cons]; rfl
      have e2 : strip (45 :: tl) = tl := by rw [strip_neg e0]; rfl
      have e3 : rpTop (45 :: tl) = 45 :: rpTop tl := by unfold rpTop; rw [e1]; rfl
      have e4 : isNeg (45 :: rpTop tl) = true := by rw [isNeg_cons]; rfl
      refine ⟨by rw [e3, e4, e0], by rw [e3, strip_neg e4, e2]; rfl, by rw [e2]; unfold rpBot; rw [e1]; rfl, ?_⟩
      rw [e2]; unfold rpDiv; rw [e1, List.length_cons, decide_eq_decide]; omega
    · have e0 : isNeg (a :: tl) = false := by rw [isNeg_cons, beq_eq_false_iff_ne]; exact h
      have e1 : isNeg (rpTop (a :: tl)) = false := by
        unfold rpTop
        rw [slash_cons]
        split
        · rfl
        · rw [List.take_succ_cons, isNeg_cons, beq_eq_false_iff_ne]; exact h
      rw [strip_pos e1, strip_pos e0, e1, e0]
      exact ⟨rfl, rfl, rfl, rfl⟩
theorem slash_before {bs : List UInt8} (j : Nat) (hj : j < slash bs) (h : j < bs.length) : bs[j] ≠ 47 := by
  have := List.not_of_lt_findIdx (p := fun c : UInt8 => c == 47) (xs := bs) hj
  simpa using this
theorem slash_here {bs : List UInt8} (h : slash bs < bs.length) : bs[slash bs] = 47 := by
  have := List.findIdx_getElem (p := fun c : UInt8 => c == 47) (xs := bs) (w := h)
  exact beq_iff_eq.1 this
theorem rpBad_den (ng : Bool) (ds us : List UInt8) (dv : Bool) : rpBad ng ds us dv = rpBad ng ds (if dv then us else [49]) true := by
  unfold rpBad
  cases dv
  · have : decOk [49] = true := by decide
    simp [this]
  · rfl
theorem rpDen_den (us : List UInt8) (dv : Bool) : rpDen us dv = rpDen (if dv then us else [49]) true := by
  unfold rpDen
  cases dv
  · have : pval [49] = 1 := by decide
    simp [this]
  · rfl
theorem rpCode_ref (bs : List UInt8) (h : ¬ 8192 < bs.length) : rpCode bs = rpCode' (isNeg bs) (rpTop (strip bs)) (refDen (strip bs)) true := by
  obtain ⟨h1, h2, h3, h4⟩ := rp_strip bs
  unfold rpCode
  rw [if_neg h, h1, h2, h3, h4]
  unfold rpCode' refDen
  rw [rpBad_den, rpDen_den]
theorem rpVal_ref (bs : List UInt8) : rpVal bs = Rat.divInt (rpNum (isNeg bs) (rpTop (strip bs))) ((pval (refDen (strip bs)) : Nat) : Int) := by
  obtain ⟨h1, h2, h3, h4⟩ := rp_strip bs
  unfold rpVal
  rw [h1, h2, h3, h4, rpDen_den]
  unfold refDen rpDen
  simp

set_option maxHeartbeats 1000000 in
theorem ratparse_all (w : World) (bs : List UInt8) :
    Calls Try.prog 22 #[str bs] w fun e w' => ∃ v', e = .returned (.tuple #[v', .int .i64 (rpCode bs : Nat)]) ∧ RatC w' (Old w) v' (rpCode bs) (rpVal bs) ∧ Below w.heap.size w w' := by
  by_cases hl : 8192 < bs.length
  · have L := made1 w #[.bool false, .slice none 0 0, .bool false, .slice none 0 0] 27
    have HC : Hid (rpCode bs = 5) := by show _ = _; unfold rpCode; rw [if_pos hl]
    obtain ⟨e1, f1, -⟩ := L.all (w' := w.alloc (.cells #[.bool false, .slice none 0 0, .bool false, .slice none 0 0] 27))
    go_enter Try.func22, Try.ntmps22
    go_wp2_with fail
    refine bodyPost_ret (by simp [results, Try.results22, go_sem, e1, f1] <;> rfl) rfl ⟨_, by rw [HC.out]; rfl, by rw [HC.out]; rfl, bel⟩
  · exact ratparse_any w bs (by omega)

set_option maxHeartbeats 4000000 in
theorem rparse_any (w : World) (bs : List UInt8) :
    Calls Try.prog 25 #[str bs] w fun e w' => ∃ v', e = .returned (.tuple #[v', .int .i64 (rpCode bs : Nat)]) ∧ RatC w' (Old w) v' (rpCode bs) (rpVal bs) ∧ Below w.heap.size w w' := by
  have L := made1 w #[.bool false, .slice none 0 0, .bool false, .slice none 0 0] 27
  by_cases hl : 8192 < bs.length
  · have HC : Hid (rpCode bs = 5) := by show _ = _; unfold rpCode; rw [if_pos hl]
    obtain ⟨e1, f1, -⟩ := L.all (w' := w.alloc (.cells #[.bool false, .slice none 0 0, .bool false, .slice none 0 0] 27))
    go_enter Try.func25, Try.ntmps25
    go_wp2_with fail
    refine bodyPost_ret (by simp [results, Try.results25, go_sem, e1, f1] <;> rfl) rfl ⟨_, by rw [HC.out]; rfl, by rw [HC.out]; rfl, bel⟩
  · have HC := Lib.hid (rpCode_ref bs hl)
    have HV := Lib.hid (rpVal_ref bs)
    have hl1 := strip_len bs
    obtain ⟨code, hcode⟩ : ∃ c, rpCode bs = c := ⟨_, rfl⟩
    obtain ⟨q, hq⟩ : ∃ q, rpVal bs = q := ⟨_, rfl⟩
    rw [hcode, hq]
    rw [hcode] at HC
    rw [hq] at HV
    clear hcode hq
    obtain ⟨ng, hng⟩ : ∃ ng, isNeg bs = ng := ⟨_, rfl⟩
    rw [hng] at HC HV
    have HNG := Lib.hid hng
    clear hng
    go_enter Try.func25, Try.ntmps25
    go_upto_region 3 with fail
    go_cut [4] (fun d W => d = .bool ng ∧ ∃ n, W = (w.alloc (.cells #[.bool false, .slice none 0 0, .bool false, .slice none 0 0] 27)).drewN n)
    case first =>
      have hng := HNG.out
      cases ng with
      | true =>
        have hl0 := isNeg_len hng
        have hc0 : ∀ h : 0 < bs.length, ((((((({ data := bs.toArray } : ByteArray)[0]'h).toNat : Nat) : Int)) == 45)) = true := fun h => by
          rw [beq_iff_eq]
          show ((bs[0].toNat : Nat) : Int) = 45
          cases bs with
          | nil => cases hng
          | cons a tl => rw [isNeg_cons] at hng; simp at hng; rw [List.getElem_cons_zero, hng]; rfl
        clear hng
        go_wp2_with fail
        go_meet
        exact ⟨rfl, 0, rfl⟩
      | false =>
        by_cases hl0 : 0 < bs.length
        · have hc0 : ∀ h : 0 < bs.length, ((((((({ data := bs.toArray } : ByteArray)[0]'h).toNat : Nat) : Int)) == 45)) = false := fun h => by
            rw [beq_eq_false_iff_ne]
            show ((bs[0].toNat : Nat) : Int) ≠ 45
            cases bs with
            | nil => simp at h
            | cons a tl =>
              rw [isNeg_cons] at hng
              simp at hng
              rw [List.getElem_cons_zero]
              intro e
              apply hng
              apply UInt8.toNat_inj.1
              have h48 : (45 : UInt8).toNat = 45 := rfl
              omega
          clear hng
          go_wp2_with fail
          go_meet
          exact ⟨rfl, 0, rfl⟩
        · clear hng
          go_wp2_with fail
          go_meet
          exact ⟨rfl, 0, rfl⟩
    case rest =>
      obtain ⟨rfl, nd, rfl⟩ := hcut
      go_upto_if 21 with fail
      go_cut [0] (fun a W => a = str (strip bs) ∧ W = (w.alloc (.cells #[.bool false, .slice none 0 0, .bool false, .slice none 0 0] 27)).drewN nd)
      case first =>
        cases ng with
        | true =>
          have hl0 := isNeg_len HNG.out
          have HS := Lib.hid (strip_neg HNG.out)
          have E1 := Lib.hid (str_drop bs 1)
          go_wp2_with fail
          go_meet
          exact ⟨by rw [HS.out]; exact E1.out, rfl⟩
        | false =>
          have HS := Lib.hid (strip_pos HNG.out)
          go_wp2_with fail
          go_meet
          exact ⟨by rw [HS.out], rfl⟩
      case rest =>
        obtain ⟨rfl, rfl⟩ := hcut
        obtain ⟨wd, hwd⟩ : ∃ wd, (w.alloc (.cells #[.bool false, .slice none 0 0, .bool false, .slice none 0 0] 27)).drewN nd = wd := ⟨_, rfl⟩
        have L1 : Loc wd w.heap.size 27 #[.bool false, .slice none 0 0, .bool false, .slice none 0 0] := by rw [← hwd]; exact L.to
        have hB : Below w.heap.size w wd := by rw [← hwd]; exact bel
        rw [hwd]
        clear hwd L
        have y0 := hB.size; (try simp only [World.size_alloc, size_set, size_drew, size_drewN] at y0)
        have lds : (strip bs).length ≤ 8192 := by omega
        generalize strip bs = ds at *
        have hb0 : ∀ j, j < slash ds → (hj : j < ds.length) → ds[j] ≠ 47 := fun j h hj => slash_before j h hj
        have hb1 : ∀ h : slash ds < ds.length, ds[slash ds] = 47 := fun h => slash_here h
        have hsl := slash_le ds
        have htp : rpTop ds = ds.take (slash ds) := rfl
        have hus : refDen ds = if slash ds < ds.length then ds.drop (slash ds + 1) else [49] := by unfold refDen rpDiv rpBot; by_cases h : slash ds < ds.length <;> simp [h]
        obtain ⟨tp, htp'⟩ : ∃ t, rpTop ds = t := ⟨_, rfl⟩
        obtain ⟨us, hus'⟩ : ∃ t, refDen ds = t := ⟨_, rfl⟩
        rw [htp', hus'] at HC
        rw [htp', hus'] at HV
        rw [htp'] at htp
        rw [hus'] at hus
        clear htp' hus'
        generalize slash ds = s at *
        have ltp : tp.length = s := by rw [htp, List.length_take]; omega
        have lus : us.length ≤ 8192 := by
          rw [hus]; split
          · rw [List.length_drop]; omega
          · simp
        have HB0 := Lib.hid hb0
        have HB1 := Lib.hid hb1
        have HTP := Lib.hid htp
        have HUS := Lib.hid hus
        clear hb0 hb1 htp hus
        go_wp2_with fail
        go_loop [5, 6, 7] (fun a b i => ∃ k : Nat, k ≤ ds.length ∧ i = .int .i64 k ∧ a = str (if s < k then tp else ds) ∧ b = str (if s < k then us else [49])) (fun a b i => ds.length - (intOf i).toNat)
        case atStart => exact ⟨0, by omega, rfl, rfl, rfl⟩
        case round =>
          obtain ⟨k, hk, rfl, rfl, rfl⟩ := hrel
          by_cases hlt : k < ds.length
          · obtain ⟨x, hx⟩ : ∃ x, ds[k].toNat = x := ⟨_, rfl⟩
            have hb := byte_at ds k hlt x hx
            have HX := Lib.hid hx
            clear hx
            rcases Nat.lt_trichotomy k s with hks | hks | hks
            · have hxb : ((x : Int) == 47) = false := by
                rw [beq_eq_false_iff_ne]
                intro e
                apply HB0.out k hks hlt
                apply UInt8.toNat_inj.1
                rw [HX.out]
                have : (47 : UInt8).toNat = 47 := rfl
                omega
              have I1 : Hid ((if s < k then tp else ds) = ds ∧ (if s < k then us else [49]) = [49]) := ⟨if_neg (by omega), if_neg (by omega)⟩
              have I2 : Hid ((if s < k + 1 then tp else ds) = ds ∧ (if s < k + 1 then us else [49]) = [49]) := ⟨if_neg (by omega), if_neg (by omega)⟩
              rw [I1.out.1, I1.out.2]
              go_wp2_with fail
              go_round
              case rel => exact ⟨k + 1, by omega, by go_num, by rw [I2.out.1], by rw [I2.out.2]⟩
              case measure => simp only [intOf]; omega
            · subst hks
              have hxb : x = 47 := by rw [← HX.out, HB1.out hlt]; rfl
              subst hxb
              have I1 : Hid ((if k < k then tp else ds) = ds ∧ (if k < k then us else [49]) = [49]) := ⟨if_neg (by omega), if_neg (by omega)⟩
              have I2 : Hid ((if k < k + 1 then tp else ds) = ds.take k ∧ (if k < k + 1 then us else [49]) = ds.drop (k + 1)) := ⟨by rw [if_pos (by omega), HTP.out], by rw [if_pos (by omega), HUS.out, if_pos hlt]⟩
              have E1 := Lib.hid (str_take ds k)
              have E2 := Lib.hid (str_drop ds (k + 1))
              rw [I1.out.1, I1.out.2]
              go_wp2_with fail
              go_round
              case rel => exact ⟨k + 1, by omega, by go_num, by rw [I2.out.1]; exact E1.out, by rw [I2.out.2]; exact E2.out⟩
              case measure => simp only [intOf]; omega
            · have I1 : Hid ((if s < k then tp else ds) = tp ∧ (if s < k then us else [49]) = us) := ⟨if_pos (by omega), if_pos (by omega)⟩
              have I2 : Hid ((if s < k + 1 then tp else ds) = tp ∧ (if s < k + 1 then us else [49]) = us) := ⟨if_pos (by omega), if_pos (by omega)⟩
              rw [I1.out.1, I1.out.2]
              by_cases hx1 : x = 47
              · subst hx1
                have hle : ((tp.length : Int) == (ds.length : Int)) = false := by rw [beq_eq_false_iff_ne]; omega
                go_wp2_with fail
                go_round
                case rel => exact ⟨k + 1, by omega, by go_num, by rw [I2.out.1], by rw [I2.out.2]⟩
                case measure => simp only [intOf]; omega
              · have hxb : ((x : Int) == 47) = false := by rw [beq_eq_false_iff_ne]; omega
                go_wp2_with fail
                go_round
                case rel => exact ⟨k + 1, by omega, by go_num, by rw [I2.out.1], by rw [I2.out.2]⟩
                case measure => simp only [intOf]; omega
          · obtain rfl : k = ds.length := by omega
            have I1 : Hid ((if s < ds.length then tp else ds) = tp ∧ (if s < ds.length then us else [49]) = us) := by
              by_cases h : s < ds.length
              · exact ⟨if_pos h, if_pos h⟩
              · refine ⟨?_, ?_⟩
                · rw [if_neg h, HTP.out, List.take_of_length_le (by omega)]
                · rw [if_neg h, HUS.out, if_neg h]
            rw [I1.out.1, I1.out.2]
            clear I1 HB0 HB1 HTP HUS
            obtain ⟨e1, f1, -⟩ := Loc.all L1 (w' := wd)
            obtain ⟨d1, hd1⟩ : ∃ d, decOk tp = d := ⟨_, rfl⟩
            obtain ⟨d2, hd2⟩ : ∃ d, decOk us = d := ⟨_, rfl⟩
            have HD1 := Lib.hid hd1
            have HD2 := Lib.hid hd2
            clear hd1 hd2
            obtain ⟨s48, hs48⟩ : ∃ s, (tp == [48]) = s := ⟨_, rfl⟩
            have H48 : Hid (decide (tp = [48]) = s48) := by rw [← hs48]; show _ = _; rw [Bool.eq_iff_iff]; simp
            obtain ⟨bad, hbad⟩ : ∃ b, rpBad ng tp us true = b := ⟨_, rfl⟩
            have HB := Lib.hid hbad
            clear hbad
            go_upto_region 14 with fail
            go_cut [63] (fun a W => a = .bool bad ∧ W = wd)
            case first =>
              have hb := HB.out
              unfold rpBad at hb
              rw [HD1.out, HD2.out, H48.out] at hb
              go_wp2_with fail
              refine (rdigits_any _ tp (by omega)).mono ?_
              rintro e w' ⟨he, rfl⟩
              rw [HD1.out] at he
              subst he
              cases d1
              · have hb : true = bad := by rw [← hb]; rfl
                subst hb
                go_wp2_with fail
                go_meet
                exact ⟨rfl, rfl⟩
              · go_wp2_with fail
                refine (rdigits_any _ us (by omega)).mono ?_
                rintro e w' ⟨he, rfl⟩
                rw [HD2.out] at he
                subst he
                cases d2
                · have hb : true = bad := by rw [← hb]; simp
                  subst hb
                  go_wp2_with fail
                  go_meet
                  exact ⟨rfl, rfl⟩
                · cases ng
                  · have hb : false = bad := by rw [← hb]; rfl
                    subst hb
                    go_wp2_with fail
                    go_meet
                    exact ⟨rfl, rfl⟩
                  · have hb : s48 = bad := by rw [← hb]; cases s48 <;> rfl
                    subst hb
                    cases s48
                    · go_wp2_with fail
                      go_meet
                      exact ⟨rfl, rfl⟩
                    · go_wp2_with fail
                      go_meet
                      exact ⟨rfl, rfl⟩
            case rest =>
              obtain ⟨rfl, rfl⟩ := hcut
              obtain ⟨wd, rfl⟩ : ∃ wd : World, wd = wc := ⟨_, rfl⟩
              cases bad
              · obtain ⟨hgd, hgu⟩ := rpBad_ok HB.out
                have HGD := Lib.hid hgd
                have HGU := Lib.hid (hgu rfl)
                have HC2 : Hid (code = if pval us = 0 then 3 else 0) := by show _ = _; rw [HC.out]; unfold rpCode'; rw [HB.out]; rfl
                have HPD : Hid ((dig ((pval tp : Nat) : Int).natAbs).length ≤ 8192) := by rw [Int.natAbs_natCast]; exact Nat.le_trans (pval_len _ hgd) (by omega)
                have HPU : Hid ((dig ((pval us : Nat) : Int).natAbs).length ≤ 8192) := by rw [Int.natAbs_natCast]; exact Nat.le_trans (pval_len _ (hgu rfl)) (by omega)
                clear hgd hgu hs48 e1 f1
                go_wp2_with fail
                refine (rwhole_any _ tp (by omega) HGD.out).mono ?_
                rintro e w1 ⟨v1, rfl, i1, hb1⟩
                obtain ⟨b1, A1, m1, c1, rfl, i1⟩ := i1.op
                have y1 := hb1.size; (try simp only [World.size_alloc, size_set, size_drew, size_drewN] at y1)
                have M1 := made1 w1 #[.bool b1, .slice A1 m1 c1] 24
                have q1 := Loc.lt L1
                go_upto_if 67 with fail
                go_cut [69] (fun _ W => ∃ (b : Bool) (A : Option Addr) (m c : Nat), Loc W w1.heap.size 24 #[.bool b, .slice A m c] ∧ Loc W w.heap.size 27 #[.bool false, .slice none 0 0, .bool false, .slice none 0 0] ∧
                  IntV W (fun b => w.heap.size = b ∨ w1.heap.size = b) (.agg #[.bool b, .slice A m c]) (rpNum ng tp) ∧ Below w.heap.size w W)
                case first =>
                  cases ng
                  · go_wp2_with fail
                    go_meet
                    exact ⟨_, _, _, _, Loc.to M1, Loc.to L1, IntV.out i1, bel⟩
                  · go_wp2_with fail
                    refine (rneg_any _ (fun _ => False) _ _ _ i1.to (Nat.le_trans HPD.out (by omega))).mono ?_
                    rintro e w3 ⟨v3, rfl, i3, hb3⟩
                    rw [sv_dig] at i3
                    obtain ⟨b3, A3, m3, c3, rfl, i3⟩ := i3.op
                    have y3 := hb3.size; (try simp only [World.size_alloc, size_set, size_drew, size_drewN] at y3)
                    obtain ⟨e3, f3, -⟩ := Loc.all M1 (w' := w3)
                    go_wp2_with fail
                    go_meet
                    exact ⟨_, _, _, _, Loc.fill2 (Loc.to M1 (w' := w3)), Loc.to L1, IntV.out i3, bel⟩
                case rest =>
                  clear i1 hb1 M1
                  obtain ⟨b, A, m, c, M1, L2, i1, hB2⟩ := hcut
                  have HPN : Hid ((dig (rpNum ng tp).natAbs).length ≤ 8192) := by
                    have := HPD.out
                    unfold rpNum
                    split
                    · rw [Int.natAbs_neg]; exact this
                    · exact this
                  obtain ⟨we, rfl⟩ : ∃ we : World, we = wc := ⟨_, rfl⟩
                  have y5 := hB2.size; (try simp only [World.size_alloc, size_set, size_drew, size_drewN] at y5)
                  have q2 := Loc.lt M1
                  have q4 := Loc.lt L2
                  clear L1 hB
                  by_cases hz : pval us = 0
                  · have hc : code = 3 := by rw [HC2.out, if_pos hz]
                    subst hc
                    have HZ := Lib.hid hz
                    clear hz
                    go_wp2_with fail
                    go_region_held3 (fun W => W.cell? ⟨w1.heap.size, 0, none⟩ = some (.bool b) ∧ W.cell? ⟨w1.heap.size, 1, none⟩ = some (.slice A m c))
                      (exact ⟨Loc.c 0 M1, Loc.c 1 M1⟩)
                      (first
                        | (go_at_call 76; refine (rwhole_any _ us lus HGU.out).mono ?_; rintro e u3 ⟨v6, rfl, i6, hb6⟩; obtain ⟨b6, A6, m6, c6, rfl, i6⟩ := i6.op; have y6 := hb6.size; (try simp only [World.size_alloc, size_set, size_drew, size_drewN] at y6))
                        | (go_at_call 16; refine (rnew_zero _ (fun _ => False) _ _ _ _ _ _ i1.to i6.to (by rw [val_dig, HZ.out]; rfl) (Nat.le_trans HPN.out (by omega)) (Nat.le_trans HPU.out (by omega))).mono ?_; rintro e u4 ⟨rfl, hb7⟩; have y7 := hb7.size; (try simp only [World.size_alloc, size_set, size_drew, size_drewN] at y7); obtain ⟨e5, f5, -⟩ := Loc.all L2 (w' := u4)))
                    all_goals
                      go_wp2_with fail
                      refine bodyPost_ret (by simp [results, Try.results25, go_sem, e5, f5] <;> rfl) rfl ⟨_, rfl, rfl, bel⟩
                  · have hc : code = 0 := by rw [HC2.out, if_neg hz]
                    subst hc
                    have HZ : Hid (val (dig ((pval us : Nat) : Int).natAbs) ≠ 0) := by show _ ≠ _; rw [val_dig, Int.natAbs_natCast]; exact hz
                    clear hz
                    go_wp2_with fail
                    go_region_held3 (fun W => W.cell? ⟨w1.heap.size, 0, none⟩ = some (.bool b) ∧ W.cell? ⟨w1.heap.size, 1, none⟩ = some (.slice A m c))
                      (exact ⟨Loc.c 0 M1, Loc.c 1 M1⟩)
                      (first
                        | (go_at_call 76; refine (rwhole_any _ us lus HGU.out).mono ?_; rintro e u3 ⟨v6, rfl, i6, hb6⟩; obtain ⟨b6, A6, m6, c6, rfl, i6⟩ := i6.op; have y6 := hb6.size; (try simp only [World.size_alloc, size_set, size_drew, size_drewN] at y6))
                        | (go_at_call 16; refine (rnew_any _ (fun _ => False) _ _ _ _ _ _ i1.to i6.to HZ.out (Nat.le_trans HPN.out (by omega)) (Nat.le_trans HPU.out (by omega))).mono ?_; rintro e u4 ⟨v7, rfl, i7, hb7⟩; rw [sv_dig, sv_dig, ← HV.out] at i7; obtain ⟨b7, A7, m7, c7, b7', A7', m7', c7', rfl, i7, -, -⟩ := i7.op; have y7 := hb7.size; (try simp only [World.size_alloc, size_set, size_drew, size_drewN] at y7); obtain ⟨e5, f5, -⟩ := Loc.all L2 (w' := u4)))
                    all_goals
                      go_wp2_with fail
                      refine bodyPost_ret (by simp [results, Try.results25, go_sem, e5, f5] <;> rfl) rfl ⟨_, rfl, ?_, bel⟩
                      show RatV _ _ _ _
                      exact RatV.out i7
              · have hc : code = 6 := by rw [HC.out]; unfold rpCode'; rw [HB.out]; rfl
                subst hc
                go_wp2_with fail
                refine bodyPost_ret (by simp [results, Try.results25, go_sem, e1, f1] <;> rfl) rfl ⟨_, rfl, rfl, bel⟩
end Go.Proofs.Ytooheapikhdllaa

/- RationalParse: the law's walk. -/
namespace Go.Proofs.Ytooheapikhdllaa
open Go.RowKit
attribute [local go_sem ↓] Go.wp_at_zero Go.wp_at_succ
attribute [local go_sem] beq_self_eq_true

set_option maxHeartbeats 4000000 in
theorem parse_walk (w : World) (bs : List UInt8) :
    Calls Try.prog 6 #[str bs] w fun e w' => e = .returned (.bool true) ∧ Below w.heap.size w w' := by
  obtain ⟨c, hc⟩ : ∃ c, rpCode bs = c := ⟨_, rfl⟩
  obtain ⟨q, hq⟩ : ∃ q, rpVal bs = q := ⟨_, rfl⟩
  have hp1 := fun w => ratparse_all w bs
  have hp2 := fun w => rparse_any w bs
  rw [hc, hq] at hp1 hp2
  have HP1 := Lib.hid hp1
  have HP2 := Lib.hid hp2
  clear hc hq hp1 hp2
  go_enter Try.func6, Try.ntmps6
  go_wp2_with fail
  refine (rknown_any _).mono ?_
  rintro e w1 ⟨rfl, hb1⟩
  have y1 := hb1.size; (try simp only [World.size_alloc, size_set, size_drew, size_drewN] at y1)
  by_cases hl : 60 < bs.length ∧ bs.length ≤ 8192
  · have h1 := hl.1
    have h2 := hl.2
    go_wp2_with fail
    go_ret
    exact ⟨rfl, bel⟩
  · have hx : ∀ P : Prop, (bs.length ≤ 60 → P) → (60 < bs.length → ¬ bs.length ≤ 8192 → P) → P := fun P a b => by
      by_cases h : bs.length ≤ 60
      · exact a h
      · exact b (by omega) (by omega)
    clear hl
    refine hx _ (fun h1 => ?_) (fun h1 h2 => ?_)
    all_goals
      clear hx
      go_wp2_with fail
      refine (HP1.out _).mono ?_
      rintro e w2 ⟨v2, rfl, h2', hb2⟩
      cases c with
      | zero =>
        replace h2' : RatV w2 (Old w1) v2 q := h2'
        obtain ⟨b2, A2, m2, c2, b2', A2', m2', c2', rfl, h3, -, -⟩ := h2'.op
        have M := made1 w2 #[.bool b2, .slice A2 m2 c2, .bool b2', .slice A2' m2' c2'] 27
        clear h2'
        have y2 := hb2.size; (try simp only [World.size_alloc, size_set, size_drew, size_drewN] at y2)
        go_wp2_with fail
        refine (HP2.out _).mono ?_
        rintro e w3 ⟨v3, rfl, h4', hb3⟩
        replace h4' : RatV w3 (Old _) v3 q := h4'
        obtain ⟨b4, A4, m4, c4, b4', A4', m4', c4', rfl, h4, -, -⟩ := h4'.op
        clear h4'
        have y3 := hb3.size; (try simp only [World.size_alloc, size_set, size_drew, size_drewN] at y3)
        obtain ⟨e3, f3, l3⟩ := M.all (w' := w3)
        go_wp2_with fail
        refine (rsame_VV _ (fun _ => False) (fun _ => False) _ _ _ _ (RatV.to h3) (RatV.to h4) rfl).mono ?_
        rintro e w4 ⟨rfl, hb4⟩
        have y4 := hb4.size; (try simp only [World.size_alloc, size_set, size_drew, size_drewN] at y4)
        go_wp2_with fail
        go_ret
        exact ⟨rfl, bel⟩
      | succ n =>
        replace h2' : v2 = .agg #[.bool false, .slice none 0 0, .bool false, .slice none 0 0] := h2'
        subst h2'
        have M := made1 w2 #[.bool false, .slice none 0 0, .bool false, .slice none 0 0] 27
        have y2 := hb2.size; (try simp only [World.size_alloc, size_set, size_drew, size_drewN] at y2)
        go_wp2_with fail
        refine (HP2.out _).mono ?_
        rintro e w3 ⟨v3, rfl, h4', hb3⟩
        replace h4' : v3 = .agg #[.bool false, .slice none 0 0, .bool false, .slice none 0 0] := h4'
        subst h4'
        have y3 := hb3.size; (try simp only [World.size_alloc, size_set, size_drew, size_drewN] at y3)
        obtain ⟨e3, f3, l3⟩ := M.all (w' := w3)
        go_wp2_with fail
        refine (rsame_zero _).mono ?_
        rintro e w4 ⟨rfl, hb4⟩
        have y4 := hb4.size; (try simp only [World.size_alloc, size_set, size_drew, size_drewN] at y4)
        go_wp2_with fail
        go_ret
        exact ⟨rfl, bel⟩
end Go.Proofs.Ytooheapikhdllaa

/- The statement 'RationalParse' out of its walk. The frame is the guide's own (proof-skeleton), printed by lawgen.py. -/
namespace Go.Proofs.Ytooheapikhdllaa.rationalParse
open Go.ChangeShapes Go.WideShapes Go.ChangeAt Go.RowKit Go.Proofs.Ytooheapikhdllaa
open Go.ChangeMaps (open_string shut_string)
set_option linter.unusedVariables false

set_option maxRecDepth 100000 in
theorem lifted (os : Os) (started : os.Started) (H : Type) (enc : TypeId × Value → H) :
    ReturnsInHanded {} Try.checked os 6 .any (Rows.rationalParseSpec.pre6 enc Try.prog Try.f6 Rows.rationalParseRow.domain false) (Rows.rationalParseSpec.post enc Try.prog Try.f6 false true false false) := by
  refine returnsInHanded_of_change (C := Try.checked) own started (by kernel_rfl) Try.func6
    (ChangeSpec.witness6 (enc := enc) (C := Try.checked) false ⟨#[], #[.string ByteArray.empty], []⟩ 8 (by kernel_rfl) (by kernel_rfl) (by kernel_rfl) (by kernel_rfl)) ?_
  intro W base args ds gs before hval0 hW hcnd _
  have hval : ∀ (j : Nat) t v, Try.f6.params[j]? = some t → args[j]? = some v → Value.okWide Try.prog W .any base t v := hval0
  have hW' := hW
  obtain ⟨p, q, hA0, hV, rfl, hfz, hnd⟩ := hW
  have hA : DataW.TrodAll enc Try.prog W 0 (fun _ => true) true Try.f6.params.toList args.toList ds p := hA0
  rw [Try.params6] at hA hval
  obtain ⟨v0, vs0, d0, ds0, p0, q0, hargs, rfl, rfl, h0, r0⟩ := trodAll_cons hA
  obtain ⟨rfl, rfl, rfl⟩ := trodAll_nil r0
  obtain rfl : args = #[v0] := by cases args; simp_all
  obtain ⟨rfl, rfl⟩ := trodVars_none hV
  have lt0 : ∀ x ∈ p0, x.block < W.heap.size := by obtain ⟨m, hm⟩ := h0; exact DataW.trod_lt m _ _ _ hm
  have k0 := fun (W' : World) (bel : Below W.heap.size W W') => Below.trod laidOut (by kernel_rfl) (of_decide_eq_true (by kernel_rfl)) h0 bel lt0
  obtain ⟨a0, e0, _, _, w0⟩ := open_string Try.underlying9 (hval 0 9 v0 rfl rfl) h0
  subst e0
  refine (parse_walk W a0.data.toList).mono fun e W' ⟨he, bel⟩ => ?_
  subst he
  exact ⟨_, rfl, _, _, _, [], _, [], hW', trodAll_mk1 (shut_bool Try.underlying4 _), (trodAll_cons_mk (k0 _ bel) trodAll_mk0), rfl, bel.frame _, fun h => by cases h⟩

theorem over : Rows.rationalParseRow.holds Try.pinned (OpenSpec.ofChange Rows.rationalParseSpec) :=
  OpenClaim.holds_of_wide 6 Try.f6 rfl rfl rfl rfl rfl rfl rfl ⟨rfl, rfl, rfl, rfl, rfl⟩ rfl rfl rfl rfl rfl (by kernel_rfl) Try.func6 (by kernel_rfl)
    (of_decide_eq_true (by kernel_rfl)) (by unfold Func.isWrapper; first | (rw [if_pos (by decide +kernel)]; kernel_rfl) | (rw [if_neg (by decide +kernel)]; exact ⟨rfl, rfl⟩))
    (fun os started H enc _ => lifted os started H enc)

/-- The statement: for every input the law returns true; each argument reads behind the call as it read before. -/
theorem proved : Rows.RationalParseSaid := over
end Go.Proofs.Ytooheapikhdllaa.rationalParse

