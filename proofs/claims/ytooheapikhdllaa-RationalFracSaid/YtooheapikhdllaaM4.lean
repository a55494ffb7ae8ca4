/- Contracts of the functions that the statements reach, part 4. -/
import Derived.Test.YtooheapikhdllaaRows
import Derived.Deep.RegionHeld3
import Derived.Deep.DrawnRows
import Derived.Deep.DeepCutAuto
import Derived.Test.YtooheapikhdllaaM3
set_option linter.unusedSimpArgs false
set_option linter.unusedVariables false

/- Divide of the program. -/
namespace Go.Proofs.Ytooheapikhdllaa
open Go.RowKit
attribute [local go_sem ↓] Go.wp_at_zero Go.wp_at_succ

/-- The floor of a quotient, as the code makes it. -/
def qF (x y : Int) : Int := if x.sign * y.sign < 0 then (if x.natAbs % y.natAbs = 0 then -((x.natAbs / y.natAbs : Nat) : Int) else -((x.natAbs / y.natAbs : Nat) : Int) - 1) else ((x.natAbs / y.natAbs : Nat) : Int)


set_option maxHeartbeats 2000000 in
theorem divide_zero (w : World) (X : Nat → Prop) (v1 v2 : Value) (n1 n2 : Bool) (xs ys : List Nat) (h1 : IntR w X v1 n1 xs) (h2 : IntR w X v2 n2 ys) (hz : val ys = 0) :
    Calls Try.prog 93 #[v1, v2] w fun e w' => e = .returned (.tuple #[.agg #[.bool false, .slice none 0 0], .agg #[.bool false, .slice none 0 0], .int .i64 1]) ∧ Below w.heap.size w w' := by
  obtain ⟨A, c, rfl, _, _, H1⟩ := h1.open_
  obtain ⟨B, d, rfl, _, _, H2⟩ := h2.open_
  have ht := trimL_dig H2.2
  rw [hz, dig_zero] at ht
  have HT := Lib.hid ht
  clear ht hz
  go_enter Try.func93, Try.ntmps93
  go_wp2_with fail
  refine (trim_any _ X _ ys (H2.below (below4 w _ _ _ _))).mono ?_
  rintro e w1 ⟨v1, rfl, ha, rfl⟩
  rw [HT.out] at ha
  obtain ⟨A1, c1, rfl, _, _, Ha⟩ := ha.open_
  rw [List.length_nil] at *
  go_wp2_with fail
  have cc := (locs4 (Below.refl _ ((((w.alloc (.cells #[.bool n1, .slice A xs.length c] 24)).alloc (.cells #[.bool n2, .slice B ys.length d] 24)).alloc (.cells #[.bool false, .slice none 0 0] 24)).alloc (.cells #[.bool false, .slice none 0 0] 24)))).2.2.1.cell
  have cf := (locs4 (Below.refl _ ((((w.alloc (.cells #[.bool n1, .slice A xs.length c] 24)).alloc (.cells #[.bool n2, .slice B ys.length d] 24)).alloc (.cells #[.bool false, .slice none 0 0] 24)).alloc (.cells #[.bool false, .slice none 0 0] 24)))).2.2.2.1.cell
  refine bodyPost_ret (by simp [results, Try.results93, go_sem, cc, cf] <;> rfl) rfl ⟨rfl, below4 w _ _ _ _⟩

/-- A box filled: what it holds, and what else is kept. -/
theorem fill_box {W : World} {g : Nat} {t : TypeId} {a0 a1 u v : Value} (L : Loc W g t #[a0, a1]) :
    Loc ((W.setCell ⟨g, 0, none⟩ u).setCell ⟨g, 1, none⟩ v) g t #[u, v] ∧ (∀ {h t' cs}, Loc W h t' cs → h ≠ g → Loc ((W.setCell ⟨g, 0, none⟩ u).setCell ⟨g, 1, none⟩ v) h t' cs) := by
  constructor
  · have := (L.set 0 u).set 1 v
    simpa using this
  · intro h t' cs Lh hne
    exact (Lh.far (p := ⟨g, 0, none⟩) hne u).far (p := ⟨g, 1, none⟩) hne v

set_option maxHeartbeats 2000000 in
theorem divide_any (w : World) (X : Nat → Prop) (v1 v2 : Value) (n1 n2 : Bool) (xs ys : List Nat) (h1 : IntR w X v1 n1 xs) (h2 : IntR w X v2 n2 ys) (hz : val ys ≠ 0) (hs1 : xs.length ≤ 100000000) (hs2 : ys.length ≤ 100000000) :
    Calls Try.prog 93 #[v1, v2] w fun e w' => ∃ q r, e = .returned (.tuple #[q, r, .int .i64 0]) ∧ IntV w' (Old w) q (qF (sv n1 xs) (sv n2 ys)) ∧ IntV w' (Old w) r (sv n1 xs - qF (sv n1 xs) (sv n2 ys) * sv n2 ys) ∧ Below w.heap.size w w' := by
  obtain ⟨A, c, rfl, _, _, H1⟩ := h1.open_
  obtain ⟨B, d, rfl, _, _, H2⟩ := h2.open_
  have SL2 := Lib.hid (sv_len n2 ys H2.2)
  have l1 := trimL_len xs
  have l2 := trimL_len ys
  have c1 := can_trimL H1.2
  have c2 := can_trimL H2.2
  have l3 : 0 < (trimL ys).length := by rw [trimL_dig H2.2, dig_len_pos]; omega
  have HV1 := Lib.hid (val_trimL xs)
  have HV2 := Lib.hid (val_trimL ys)
  obtain ⟨sx, hsx⟩ : ∃ s, (sv n1 xs).sign = s := ⟨_, rfl⟩
  obtain ⟨sy, hsy⟩ : ∃ s, (sv n2 ys).sign = s := ⟨_, rfl⟩
  have bx : -1 ≤ sx ∧ sx ≤ 1 := by rcases sign_cases (sv n1 xs) with ⟨_, h⟩ | ⟨_, h⟩ | ⟨_, h⟩ <;> omega
  have hby : sy = -1 ∨ sy = 0 ∨ sy = 1 := by rcases sign_cases (sv n2 ys) with ⟨_, h⟩ | ⟨_, h⟩ | ⟨_, h⟩ <;> omega
  obtain ⟨P, hP⟩ : ∃ P, sx * sy = P := ⟨_, rfl⟩
  have hPb : -1 ≤ P ∧ P ≤ 1 := by rcases hby with rfl | rfl | rfl <;> omega
  have hwP : IntKind.i64.wrap P = P := by rw [IntKind.wrap_i64]; omega
  have HSX := Lib.hid hsx
  have HSY := Lib.hid hsy
  obtain ⟨Z, hZ⟩ : ∃ Z, qF (sv n1 xs) (sv n2 ys) = Z := ⟨_, rfl⟩
  have HZ := Lib.hid hZ
  have hq : Z = if P < 0 then (if val xs % val ys = 0 then -((val xs / val ys : Nat) : Int) else -((val xs / val ys : Nat) : Int) - 1) else ((val xs / val ys : Nat) : Int) := by
    rw [← hZ]; unfold qF; rw [hsx, hsy, hP, sv_abs, sv_abs]
  have HQ := Lib.hid hq
  rw [hZ]
  clear hsx hsy hby hZ hq
  go_enter Try.func93, Try.ntmps93
  go_wp2_with fail
  refine (trim_any _ X _ ys (H2.below (below4 w _ _ _ _))).mono ?_
  rintro e w1 ⟨v1, rfl, ha, rfl⟩
  obtain ⟨A1, c1', rfl, _, _, Ha⟩ := ha.open_
  obtain ⟨L2, L3, L4, L5, hB0, hsz0⟩ := locs4 (Below.refl _ ((((w.alloc (.cells #[.bool n1, .slice A xs.length c] 24)).alloc (.cells #[.bool n2, .slice B ys.length d] 24)).alloc (.cells #[.bool false, .slice none 0 0] 24)).alloc (.cells #[.bool false, .slice none 0 0] 24)))
  have H10 := (H1.weak (Y := fun b => w.heap.size ≤ b ∧ b < w.heap.size + 1 + 1 + 1 + 1) (fun b h1 h2 => by omega)).below hB0
  clear H1
  generalize ((((w.alloc (.cells #[.bool n1, .slice A xs.length c] 24)).alloc (.cells #[.bool n2, .slice B ys.length d] 24)).alloc (.cells #[.bool false, .slice none 0 0] 24)).alloc (.cells #[.bool false, .slice none 0 0] 24)) = w0 at *
  have cx := L2.cell
  have cy := L3.cell
  go_wp2_with fail
  refine (trim_any _ _ _ xs H10).mono ?_
  rintro e w1 ⟨v2, rfl, hb, rfl⟩
  go_wp2_with fail
  refine (over_any _ (fun b => w.heap.size ≤ b ∧ b < w.heap.size + 1 + 1 + 1 + 1) (fun b h => by omega) _ _ (trimL xs) (trimL ys) hb (ha.weak (fun _ _ h => h.elim)) c1 c2 l3 (by omega) (by omega)).mono ?_
  rintro e w1 ⟨q1, r1, qs, rs, rfl, hq1, hr1, hqv, hrv, hql, hrl, hb1⟩
  rw [HV1.out, HV2.out] at hqv hrv
  have HQV := Lib.hid hqv
  have HRV := Lib.hid hrv
  clear hqv hrv cx cy ha hb
  have M2 := L2.below hb1
  have M3 := L3.below hb1
  have M4 := L4.below hb1
  have M5 := L5.below hb1
  have hB1 := hB0.trans (hb1.mono (by omega))
  have hx1 := h1.below hB1
  have hy1 := h2.below hB1
  have hsz1 : w.heap.size + 1 + 1 + 1 < w1.heap.size := by have := hb1.size; omega
  clear L2 L3 L4 L5 H10 H2 hb1 hB0 hsz0
  go_wp2_with fail
  have KS : Hid (∀ W, Below (w.heap.size + 2) w1 W → Loc W w.heap.size 24 #[.bool n1, .slice A xs.length c] ∧ Loc W (w.heap.size + 1) 24 #[.bool n2, .slice B ys.length d]) := fun W hW => ⟨M2.below' hW (by omega), M3.below' hW (by omega)⟩
  go_region_held3 (fun w' => (w'.cell? ⟨w.heap.size, 0, none⟩ = some (.bool n1) ∧ w'.cell? ⟨w.heap.size, 1, none⟩ = some (.slice A xs.length c)) ∧ w'.cell? ⟨w.heap.size + 1, 0, none⟩ = some (.bool n2) ∧ w'.cell? ⟨w.heap.size + 1, 1, none⟩ = some (.slice B ys.length d))
    (first | exact cells_of (KS.out _ (((k3.mono (by omega)).setCell (by simp) _).setCell (by simp) _)) | exact cells_of (KS.out _ (k3.mono (by omega))) | exact cells_of (KS.out _ (k2.mono (by omega))) | exact cells_of (KS.out _ (k1.mono (by omega))) | exact cells_of (KS.out _ (Below.refl _ _).drew) | go_keep)
    (first
      | (go_at_call_of 55 (Value.agg #[Value.bool n1, Value.slice A xs.length c]); refine (sign_any _ X _ n1 xs (hx1.below (Below.refl _ _).drew)).mono ?_; rintro e u1 ⟨he, hb1⟩; rw [HSX.out] at he; subst he; have k1 := below_undrew hb1)
      | (go_at_call_of 55 (Value.agg #[Value.bool n2, Value.slice B ys.length d]); refine (sign_any _ X _ n2 ys (hy1.below k1)).mono ?_; rintro e u2 ⟨he, hb2⟩; rw [HSY.out] at he; subst he; have k2 := k1.trans (hb2.mono k1.size))
      | (go_at_call 91; refine (signed_any _ _ _ q1 qs (hq1.below k2) (by omega)).mono ?_; rintro e u3 ⟨v3, rfl, h3, hb3⟩; have k3 := k2.trans (hb3.mono k2.size); have hu2 := k2.size; obtain ⟨b3, A3, m3, c3, rfl, h3⟩ := h3.op; have c4 := (M4.below k3).cell; have f4 := (M4.below k3).frz))
  all_goals
    have P4 := M4.below k3
    obtain ⟨N4, hfar⟩ := fill_box (u := .bool b3) (v := .slice A3 m3 c3) P4
    have N2 := hfar (M2.below k3) (by omega)
    have N3 := hfar (M3.below k3) (by omega)
    have N5 := hfar (M5.below k3) (by omega)
    have hB3 := hB1.trans (k3.mono (by omega))
    have hB5 := (hB3.setCell (p := ⟨w.heap.size + 1 + 1, 0, none⟩) (by show w.heap.size ≤ w.heap.size + 1 + 1; omega) (.bool b3)).setCell (p := ⟨w.heap.size + 1 + 1, 1, none⟩) (by show w.heap.size ≤ w.heap.size + 1 + 1; omega) (.slice A3 m3 c3)
    have hkp : Keep (fun b => w.heap.size ≤ b ∧ b < w.heap.size + 1 + 1 + 1 + 1) u3 ((u3.setCell ⟨w.heap.size + 1 + 1, 0, none⟩ (.bool b3)).setCell ⟨w.heap.size + 1 + 1, 1, none⟩ (.slice A3 m3 c3)) := ((Keep.refl _ _).set (p := ⟨w.heap.size + 1 + 1, 0, none⟩) (.inl (by show w.heap.size ≤ w.heap.size + 1 + 1 ∧ w.heap.size + 1 + 1 < w.heap.size + 1 + 1 + 1 + 1; omega)) _).set (p := ⟨w.heap.size + 1 + 1, 1, none⟩) (.inl (by show w.heap.size ≤ w.heap.size + 1 + 1 ∧ w.heap.size + 1 + 1 < w.heap.size + 1 + 1 + 1 + 1; omega)) _
    have hq5 := (h3.weak (Y := fun b => b < w.heap.size + 1 + 1 + 1 + 1) (fun b h1 h2 => by show b < _; omega)).keep (hkp.weak (fun b _ h => h.2))
    have hr5 := (hr1.below k3).keep hkp
    have hsz5 : w.heap.size + 1 + 1 + 1 < ((u3.setCell ⟨w.heap.size + 1 + 1, 0, none⟩ (.bool b3)).setCell ⟨w.heap.size + 1 + 1, 1, none⟩ (.slice A3 m3 c3)).heap.size := N5.lt
    clear KS M2 M3 M4 M5 P4 hfar hkp hB3 hr1 h3 hb3 hb2 hb1 c4 f4 k1 k2 k3 hq1 hx1 hy1 hB1 hu2
    generalize (u3.setCell ⟨w.heap.size + 1 + 1, 0, none⟩ (.bool b3)).setCell ⟨w.heap.size + 1 + 1, 1, none⟩ (.slice A3 m3 c3) = w5 at *
    have hx5 := h1.below hB5
    have hy5 := h2.below hB5
    go_upto_region 6 with fail
    go_cut [45] (fun x W => ∃ bb : Bool, x = .bool bb ∧ bb = decide (P < 0 ∧ val xs % val ys ≠ 0) ∧ Below w5.heap.size w5 W)
    case first =>
      have KS : Hid (∀ W, Below (w.heap.size + 2) w5 W → Loc W w.heap.size 24 #[.bool n1, .slice A xs.length c] ∧ Loc W (w.heap.size + 1) 24 #[.bool n2, .slice B ys.length d]) := fun W hW => ⟨N2.below' hW (by omega), N3.below' hW (by omega)⟩
      go_wp2_with fail
      have hlt := trimL_dig hr5.2
      have hlp := dig_len_pos (val rs)
      rw [← hlt, HRV.out] at hlp
      have HLP := Lib.hid hlp
      clear hlt hlp
      by_cases hneg : P < 0
      · have hd : decide (P < 0) = true := decide_eq_true hneg
        have HNEG := Lib.hid hneg
        clear hneg
        go_region_held3 (fun w' => (w'.cell? ⟨w.heap.size, 0, none⟩ = some (.bool n1) ∧ w'.cell? ⟨w.heap.size, 1, none⟩ = some (.slice A xs.length c)) ∧ w'.cell? ⟨w.heap.size + 1, 0, none⟩ = some (.bool n2) ∧ w'.cell? ⟨w.heap.size + 1, 1, none⟩ = some (.slice B ys.length d))
          (first | exact cells_of (KS.out _ (k2.mono (by omega))) | exact cells_of (KS.out _ (k1.mono (by omega))) | exact cells_of (KS.out _ (Below.refl _ _).drew) | go_keep)
          (first
            | (go_at_call_of 55 (Value.agg #[Value.bool n1, Value.slice A xs.length c]); refine (sign_any _ X _ n1 xs (hx5.below (Below.refl _ _).drew)).mono ?_; rintro e u1 ⟨he, hb1⟩; rw [HSX.out] at he; subst he; have k1 := below_undrew hb1)
            | (go_at_call_of 55 (Value.agg #[Value.bool n2, Value.slice B ys.length d]); refine (sign_any _ X _ n2 ys (hy5.below k1)).mono ?_; rintro e u2 ⟨he, hb2⟩; rw [HSY.out] at he; subst he; have k2 := k1.trans (hb2.mono k1.size))
            | (go_at_call 90; refine (trim_any _ _ _ rs (hr5.below k2)).mono ?_; rintro e u3 ⟨v3, rfl, h3, rfl⟩; obtain ⟨A6, c6, rfl, _, _, h3⟩ := h3.open_))
        all_goals
          clear KS
          go_wp2_with fail
          go_meet
          exact ⟨_, rfl, (decide_eq_decide.2 ⟨fun h => ⟨HNEG.out, by have := HLP.out.1 h; omega⟩, fun h => HLP.out.2 (by omega)⟩), k2⟩
      · obtain ⟨nb, hnb⟩ : ∃ nb, decide (P < 0) = nb := ⟨_, rfl⟩
        have hnf : nb = false := by rw [← hnb]; exact decide_eq_false hneg
        subst hnf
        have hnp : ¬ P < 0 := hneg
        have hnq : (P < 0) = False := eq_false hneg
        have HNEG := Lib.hid hneg
        clear hneg
        have e2 : ∀ i, w5.drew.cell? ⟨w.heap.size, i, none⟩ = #[Value.bool n1, Value.slice A xs.length c][i]? := N2.cell
        have e3 : ∀ i, w5.drew.cell? ⟨w.heap.size + 1, i, none⟩ = #[Value.bool n2, Value.slice B ys.length d][i]? := N3.cell
        first
          | (go_region_with (first
                | (go_at_call_of 55 (Value.agg #[Value.bool n1, Value.slice A xs.length c]); refine (sign_any _ X _ n1 xs (hx5.below (Below.refl _ _).drew)).mono ?_; rintro e u1 ⟨he, hb1⟩; rw [HSX.out] at he; subst he; have k1 := below_undrew hb1; have e2 := (N2.below k1).cell; have e3 := (N3.below k1).cell)
                | (go_at_call_of 55 (Value.agg #[Value.bool n2, Value.slice B ys.length d]); refine (sign_any _ X _ n2 ys (hy5.below k1)).mono ?_; rintro e u2 ⟨he, hb2⟩; rw [HSY.out] at he; subst he; have k2 := k1.trans (hb2.mono k1.size))))
          | fail "region"
        all_goals
          clear KS
          go_wp2_with fail
          go_meet
          exact ⟨_, rfl, by rw [eq_comm, decide_eq_false_iff_not]; exact fun h => by have h1 := HNEG.out; have h2 := h.1; omega, k2⟩
    case rest =>
      obtain ⟨bb, rfl, hbb, k6⟩ := hcut
      have HBB := Lib.hid hbb
      clear hbb
      have M2 := N2.below k6
      have M3 := N3.below k6
      have M4 := N4.below k6
      have M5 := N5.below k6
      have hq6 := hq5.below k6
      have hB6 := hB5.trans (k6.mono (by omega))
      have hsz6 : w.heap.size + 1 + 1 + 1 < wc.heap.size := M5.lt
      clear N2 N3 N4 N5 hq5 hx5 hy5 hB5 hr5 k6 hsz5
      go_upto_if 45 with fail
      go_cut [46] (fun _ W => ∃ (b : Bool) (D : Option Addr) (m k : Nat), Loc W w.heap.size 24 #[.bool n1, .slice A xs.length c] ∧ Loc W (w.heap.size + 1) 24 #[.bool n2, .slice B ys.length d] ∧ Loc W (w.heap.size + 1 + 1) 24 #[.bool b, .slice D m k] ∧ Loc W (w.heap.size + 1 + 1 + 1) 24 #[.bool false, .slice none 0 0] ∧
        IntV W (fun b => b < w.heap.size + 1 + 1 + 1 + 1) (.agg #[.bool b, .slice D m k]) Z ∧ Below w.heap.size w W)
      case first =>
        cases bb
        · have hc := of_decide_eq_false HBB.out.symm
          have hz2 : sv (decide (P < 0)) qs = Z := by
            rw [HQ.out]
            by_cases hneg : P < 0
            · have hr0 : val xs % val ys = 0 := by
                rcases Nat.eq_zero_or_pos (val xs % val ys) with h | h
                · exact h
                · exact absurd ⟨hneg, by omega⟩ hc
              rw [decide_eq_true hneg, sv_true, HQV.out, if_pos hneg, if_pos hr0]
            · rw [decide_eq_false hneg, sv_false, HQV.out, if_neg hneg]
          rw [hz2] at hq6
          clear hz2 hc
          go_wp2_with fail
          go_meet
          exact ⟨_, _, _, _, M2, M3, M4, M5, hq6, hB6⟩
        · have hc := of_decide_eq_true HBB.out.symm
          have hz2 := HQ.out
          rw [if_pos hc.1, if_neg hc.2] at hz2
          have HZ2 := Lib.hid hz2
          rw [decide_eq_true hc.1, sv_true, HQV.out] at hq6
          have hlq : (dig (-((val xs / val ys : Nat) : Int)).natAbs).length ≤ xs.length := by
            rw [Int.natAbs_neg, Int.natAbs_natCast]
            exact Nat.le_trans (dig_len_mono (Nat.div_le_self _ _)) (by rw [← HV1.out]; exact Nat.le_trans (dig_val_len c1.1) l1)
          have HLQ := Lib.hid hlq
          clear hz2 hlq hc
          go_wp2_with fail
          have KS : Hid (∀ W, Below (w.heap.size + 1 + 1 + 1) wc W → W.cell? ⟨w.heap.size + 1 + 1, 0, none⟩ = some (.bool b3) ∧ W.cell? ⟨w.heap.size + 1 + 1, 1, none⟩ = some (.slice A3 m3 c3)) := fun W hW => ⟨(M4.below' hW (by omega)).cell 0, (M4.below' hW (by omega)).cell 1⟩
          have HL1 : Hid ((dig (1 : Int).natAbs).length ≤ 1000000000000) := by
            have h : (dig 1).length ≤ 1 := dig_len_le (by decide)
            exact Nat.le_trans h (by decide)
          have hof := fun w' => of_any w' 1 (by decide) (by decide)
          have d0 : ∀ i, wc.drew.cell? ⟨w.heap.size + 1 + 1, i, none⟩ = #[Value.bool b3, Value.slice A3 m3 c3][i]? := M4.cell
          go_region_with (first
              | (go_at_call 67; refine (hof _).mono ?_; rintro e u1 ⟨v7, rfl, h7, hb7⟩; have k1 := below_undrew hb7; obtain ⟨b7, A7, m7, c7, rfl, h7⟩ := h7.op; have d4 := (M4.below k1).cell)
              | (go_at_call 118; refine (sub_any _ (fun _ => False) _ _ _ _ _ _ ((hq6.weak (fun _ _ h => h.elim)).below k1) (h7.weak (fun _ _ h => h.elim)) (by have := HLQ.out; omega) HL1.out).mono ?_; rintro e u2 ⟨v8, rfl, h8, hb8⟩; have k2 := k1.trans (hb8.mono k1.size); obtain ⟨b8, A8, m8, c8, rfl, h8⟩ := h8.op; have c4 := (M4.below k2).cell; have f4 := (M4.below k2).frz))
          all_goals
            rw [sv_dig, sv_dig, ← HZ2.out] at h8
            obtain ⟨R4, hfar⟩ := fill_box (u := .bool b8) (v := .slice A8 m8 c8) (M4.below k2)
            have R2 := hfar (M2.below k2) (by omega)
            have R3 := hfar (M3.below k2) (by omega)
            have R5 := hfar (M5.below k2) (by omega)
            have hu1 := k1.size
            have hB8 := ((hB6.trans (k2.mono (by omega))).setCell (p := ⟨w.heap.size + 1 + 1, 0, none⟩) (by show w.heap.size ≤ w.heap.size + 1 + 1; omega) (.bool b8)).setCell (p := ⟨w.heap.size + 1 + 1, 1, none⟩) (by show w.heap.size ≤ w.heap.size + 1 + 1; omega) (.slice A8 m8 c8)
            have hkp : Keep (fun b => b < w.heap.size + 1 + 1 + 1 + 1) u2 ((u2.setCell ⟨w.heap.size + 1 + 1, 0, none⟩ (.bool b8)).setCell ⟨w.heap.size + 1 + 1, 1, none⟩ (.slice A8 m8 c8)) := ((Keep.refl _ _).set (p := ⟨w.heap.size + 1 + 1, 0, none⟩) (.inl (by show w.heap.size + 1 + 1 < w.heap.size + 1 + 1 + 1 + 1; omega)) _).set (p := ⟨w.heap.size + 1 + 1, 1, none⟩) (.inl (by show w.heap.size + 1 + 1 < w.heap.size + 1 + 1 + 1 + 1; omega)) _
            have h9 := (h8.weak (Y := fun b => b < w.heap.size + 1 + 1 + 1 + 1) (fun b h1 h2 => by show b < _; omega)).keep hkp
            clear c4 f4 d0 hkp
            go_wp2_with fail
            go_meet
            exact ⟨_, _, _, _, R2, R3, R4, R5, h9, hB8⟩
      case rest =>
        obtain ⟨b9, D, m9, k9, N2, N3, N4, N5, hq9, hB9⟩ := hcut
        have hsz9 : w.heap.size + 1 + 1 + 1 < wc.heap.size := N5.lt
        have hx9 := h1.below hB9
        have hy9 := h2.below hB9
        have hzl : (dig Z.natAbs).length ≤ xs.length + 1 := by
          have hb : (dig ((val xs / val ys : Nat) : Int).natAbs).length ≤ xs.length := by
            rw [Int.natAbs_natCast]
            exact Nat.le_trans (dig_len_mono (Nat.div_le_self _ _)) (by rw [← HV1.out]; exact Nat.le_trans (dig_val_len c1.1) l1)
          have h0 : (dig (1 : Int).natAbs).length ≤ xs.length + 0 ∨ xs.length = 0 := by
            rcases Nat.eq_zero_or_pos xs.length with h | h
            · exact .inr h
            · exact .inl (Nat.le_trans (show (dig 1).length ≤ 1 from dig_len_le (by decide)) (by omega))
          rw [HQ.out]
          split
          · split
            · rw [Int.natAbs_neg]; omega
            · rcases h0 with h0 | h0
              · exact sub_len _ _ _ (by rw [Int.natAbs_neg]; exact hb) (by simpa using h0)
              · have hx0 : val xs = 0 := by
                  have := List.length_eq_zero_iff.1 h0
                  subst this; rfl
                rename_i hr
                exact absurd (by rw [hx0, Nat.zero_mod]) hr
          · omega
        have HZL := Lib.hid hzl
        have hpl : (dig (Z * sv n2 ys).natAbs).length ≤ xs.length + 1 + ys.length := by
          have h := len_mul (ws_dig Z.natAbs) (ws_dig (sv n2 ys).natAbs)
          rw [val_dig, val_dig, ← Int.natAbs_mul] at h
          have := SL2.out
          omega
        have HPL := Lib.hid hpl
        clear hpl
        have KS : Hid (∀ W, Below (w.heap.size + 1 + 1 + 1) wc W → ((W.cell? ⟨w.heap.size, 0, none⟩ = some (.bool n1) ∧ W.cell? ⟨w.heap.size, 1, none⟩ = some (.slice A xs.length c)) ∧ W.cell? ⟨w.heap.size + 1, 0, none⟩ = some (.bool n2) ∧ W.cell? ⟨w.heap.size + 1, 1, none⟩ = some (.slice B ys.length d)) ∧ W.cell? ⟨w.heap.size + 1 + 1, 0, none⟩ = some (.bool b9) ∧ W.cell? ⟨w.heap.size + 1 + 1, 1, none⟩ = some (.slice D m9 k9)) := fun W hW => ⟨cells_of ⟨N2.below' hW (by omega), N3.below' hW (by omega)⟩, (N4.below' hW (by omega)).cell 0, (N4.below' hW (by omega)).cell 1⟩
        clear hzl hq6 hB6 M2 M3 M4 M5 hsz6 h1 h2
        go_wp2_with fail
        go_region_held3 (fun W => ((W.cell? ⟨w.heap.size, 0, none⟩ = some (.bool n1) ∧ W.cell? ⟨w.heap.size, 1, none⟩ = some (.slice A xs.length c)) ∧ W.cell? ⟨w.heap.size + 1, 0, none⟩ = some (.bool n2) ∧ W.cell? ⟨w.heap.size + 1, 1, none⟩ = some (.slice B ys.length d)) ∧ W.cell? ⟨w.heap.size + 1 + 1, 0, none⟩ = some (.bool b9) ∧ W.cell? ⟨w.heap.size + 1 + 1, 1, none⟩ = some (.slice D m9 k9))
          (first | exact ⟨cells_of ⟨R5.2 (R4.2 (N2.below k2) (by omega)) (by omega), R5.2 (R4.2 (N3.below k2) (by omega)) (by omega)⟩, (R5.2 R4.1 (by omega)).cell 0, (R5.2 R4.1 (by omega)).cell 1⟩ | exact ⟨cells_of ⟨R4.2 (N2.below k2) (by omega), R4.2 (N3.below k2) (by omega)⟩, R4.1.cell 0, R4.1.cell 1⟩ | exact KS.out _ (k2.mono (by omega)) | exact KS.out _ (k1.mono (by omega)) | exact KS.out _ (Below.refl _ _).drew)
          (first
            | (go_at_call 80; refine (mul_any _ (fun _ => False) _ _ _ _ _ _ ((hq9.weak (fun _ _ h => h.elim)).below (Below.refl _ _).drew) ((hy9.weak (fun _ _ h => h.elim)).below (Below.refl _ _).drew) (by have := HZL.out; omega) (by omega)).mono ?_; rintro e u1 ⟨v7, rfl, h7, hb7⟩; rw [sv_dig] at h7; have k1 := below_undrew hb7; obtain ⟨b7, A7, m7, c7, rfl, h7⟩ := h7.op)
            | (go_at_call 118; refine (sub_any _ (fun _ => False) _ _ _ _ _ _ ((hx9.weak (fun _ _ h => h.elim)).below k1) (h7.weak (fun _ _ h => h.elim)) (by omega) (by have := HPL.out; omega)).mono ?_; rintro e u2 ⟨v8, rfl, h8, hb8⟩; rw [sv_dig] at h8; have k2 := k1.trans (hb8.mono k1.size); obtain ⟨b8, A8, m8, c8, rfl, h8⟩ := h8.op; have c4 := (N4.below k2).cell; have f4 := (N4.below k2).frz; have c5 := (N5.below k2).cell; have f5 := (N5.below k2).frz; have R4 := fill_box (u := .bool b9) (v := .slice D m9 k9) (N4.below k2); have R5 := fill_box (u := .bool b8) (v := .slice A8 m8 c8) (R4.2 (N5.below k2) (by omega))))
        all_goals
          have hu1 := k1.size
          have hkp : Keep (fun b => b < w.heap.size + 1 + 1 + 1 + 1) u2 ((((u2.setCell ⟨w.heap.size + 1 + 1, 0, none⟩ (.bool b9)).setCell ⟨w.heap.size + 1 + 1, 1, none⟩ (.slice D m9 k9)).setCell ⟨w.heap.size + 1 + 1 + 1, 0, none⟩ (.bool b8)).setCell ⟨w.heap.size + 1 + 1 + 1, 1, none⟩ (.slice A8 m8 c8)) :=
            ((((Keep.refl _ _).set (p := ⟨w.heap.size + 1 + 1, 0, none⟩) (.inl (by show w.heap.size + 1 + 1 < w.heap.size + 1 + 1 + 1 + 1; omega)) _).set (p := ⟨w.heap.size + 1 + 1, 1, none⟩) (.inl (by show w.heap.size + 1 + 1 < w.heap.size + 1 + 1 + 1 + 1; omega)) _).set (p := ⟨w.heap.size + 1 + 1 + 1, 0, none⟩) (.inl (by show w.heap.size + 1 + 1 + 1 < w.heap.size + 1 + 1 + 1 + 1; omega)) _).set (p := ⟨w.heap.size + 1 + 1 + 1, 1, none⟩) (.inl (by show w.heap.size + 1 + 1 + 1 < w.heap.size + 1 + 1 + 1 + 1; omega)) _
          have hB8 := ((((hB9.trans (k2.mono (by omega))).setCell (p := ⟨w.heap.size + 1 + 1, 0, none⟩) (by show w.heap.size ≤ w.heap.size + 1 + 1; omega) (.bool b9)).setCell (p := ⟨w.heap.size + 1 + 1, 1, none⟩) (by show w.heap.size ≤ w.heap.size + 1 + 1; omega) (.slice D m9 k9)).setCell (p := ⟨w.heap.size + 1 + 1 + 1, 0, none⟩) (by show w.heap.size ≤ w.heap.size + 1 + 1 + 1; omega) (.bool b8)).setCell (p := ⟨w.heap.size + 1 + 1 + 1, 1, none⟩) (by show w.heap.size ≤ w.heap.size + 1 + 1 + 1; omega) (.slice A8 m8 c8)
          have hf1 := ((hq9.below k2).keep hkp).weak (Y := Old w) (fun b _ h => by have h : b < w.heap.size := h; omega)
          have hf2 := ((h8.weak (Y := fun b => b < w.heap.size + 1 + 1 + 1 + 1) (fun b h1 h2 => by show b < _; omega)).keep hkp).weak (Y := Old w) (fun b _ h => by have h : b < w.heap.size := h; omega)
          have cc := R5.1.cell
          have cd := (R5.2 R4.1 (by omega)).cell
          clear KS hkp c4 f4 c5 f5 R4 R5
          go_wp2_with fail
          refine bodyPost_ret (by simp [results, Try.results93, go_sem, cc, cd] <;> rfl) rfl ⟨_, _, rfl, hf1, hf2, hB8⟩
end Go.Proofs.Ytooheapikhdllaa

/- Fractions: the plain law of New: what it makes is Lean's own canonical quotient. -/
namespace Go.Proofs.Ytooheapikhdllaa
open Go.RowKit

theorem qF_exact (x : Int) (G : Nat) (hG : 0 < G) (h : x.natAbs % G = 0) : qF x (G : Int) = x / (G : Int) := by
  have hd := Nat.div_add_mod x.natAbs G
  rw [h, Nat.add_zero] at hd
  have hk : ((x.natAbs / G : Nat) : Int) * (G : Int) = (x.natAbs : Int) := by
    rw [Int.mul_comm]; rw [← Int.natCast_mul, hd]
  have hq : qF x (G : Int) * (G : Int) = x := by
    unfold qF
    rw [Int.natAbs_natCast, h, if_pos rfl, Int.sign_eq_one_of_pos (by omega : (0 : Int) < (G : Int)), Int.mul_one]
    rcases sign_cases x with ⟨h1, h2⟩ | ⟨h1, h2⟩ | ⟨h1, h2⟩
    · rw [h2, if_pos (by decide), Int.neg_mul, hk]; omega
    · rw [h2, if_neg (by decide), hk]; omega
    · rw [h2, if_neg (by decide), hk]; omega
  have h2 := Int.mul_ediv_cancel (qF x (G : Int)) (show (G : Int) ≠ 0 by omega)
  rw [hq] at h2
  exact h2.symm

/-- New's two fields, at a denominator and a numerator that are not 0. -/
theorem new_fields (n d : Int) (hd : d ≠ 0) (hn : n ≠ 0) :
    qF (if d < 0 then -n else n) ((Nat.gcd n.natAbs d.natAbs : Nat) : Int) = (Rat.divInt n d).num ∧ qF (if d < 0 then -d else d) ((Nat.gcd n.natAbs d.natAbs : Nat) : Int) = ((Rat.divInt n d).den : Int) := by
  have hg : 0 < Nat.gcd n.natAbs d.natAbs := Nat.gcd_pos_of_pos_left _ (by omega)
  have h1 : (if d < 0 then -n else n).natAbs = n.natAbs := by split <;> omega
  have h2 : (if d < 0 then -d else d).natAbs = d.natAbs := by split <;> omega
  rw [qF_exact _ _ hg (by rw [h1]; exact Nat.mod_eq_zero_of_dvd (Nat.gcd_dvd_left _ _)), qF_exact _ _ hg (by rw [h2]; exact Nat.mod_eq_zero_of_dvd (Nat.gcd_dvd_right _ _)), Rat.num_divInt, Rat.den_divInt, if_neg hd]
  have hgc : Int.gcd d n = Nat.gcd n.natAbs d.natAbs := by rw [Int.gcd_comm]; rfl
  rw [hgc]
  constructor
  · split
    · rename_i h; rw [Int.sign_eq_neg_one_of_neg h, Int.neg_mul, Int.one_mul]
    · rw [Int.sign_eq_one_of_pos (by omega), Int.one_mul]
  · rw [Int.natCast_ediv]
    congr 1
    split <;> omega

theorem rat_den0 (x : Rat) : ((x.den : Nat) : Int) ≠ 0 := by have := x.den_nz; omega
theorem rat_add (x y : Rat) : Rat.divInt (x.num * y.den + y.num * x.den) (x.den * y.den) = x + y := by
  rw [← Rat.divInt_add_divInt _ _ (rat_den0 x) (rat_den0 y), Rat.num_divInt_den, Rat.num_divInt_den]
theorem rat_mul (x y : Rat) : Rat.divInt (x.num * y.num) (x.den * y.den) = x * y := by
  rw [← Rat.divInt_mul_divInt, Rat.num_divInt_den, Rat.num_divInt_den]
theorem rat_div (x y : Rat) : Rat.divInt (x.num * y.den) (x.den * y.num) = x / y := by
  rw [Rat.div_def, ← Rat.divInt_mul_divInt, Rat.num_divInt_den]
  congr 1
  have h := Rat.inv_divInt y.num (y.den : Int)
  rw [Rat.num_divInt_den] at h
  exact h.symm
theorem rat_neg (x : Rat) : (-x).num = -x.num ∧ (-x).den = x.den := ⟨Rat.neg_num x, Rat.neg_den x⟩
theorem rat_sub (x y : Rat) : Rat.divInt (x.num * y.den - y.num * x.den) (x.den * y.den) = x - y := by
  rw [Rat.sub_eq_add_neg, ← rat_add x (-y), (rat_neg y).1, (rat_neg y).2, Int.neg_mul, Int.sub_eq_add_neg]
theorem divInt_sign (n d : Int) (hd : 0 < d) : (Rat.divInt n d).num.sign = n.sign := by
  rw [Rat.num_divInt, Int.sign_eq_one_of_pos hd, Int.one_mul]
  have hg : 0 < Int.gcd d n := Int.gcd_pos_of_ne_zero_left _ (by omega)
  obtain ⟨k, hk⟩ := Int.gcd_dvd_right (a := d) (b := n)
  have e : n / ((Int.gcd d n : Nat) : Int) = k := by
    conv => lhs; arg 1; rw [hk]
    exact Int.mul_ediv_cancel_left _ (by omega)
  rw [e]
  conv => rhs; rw [hk]
  rw [Int.sign_mul, Int.sign_eq_one_of_pos (show (0 : Int) < ((Int.gcd d n : Nat) : Int) by omega), Int.one_mul]
theorem rat_cmp (x y : Rat) : (x.num * y.den - y.num * x.den).sign = (x - y).num.sign := by
  rw [← rat_sub, divInt_sign]
  exact Int.mul_pos (by have := x.den_nz; omega) (by have := y.den_nz; omega)

/-- The sign that Compare answers. -/
def rcmp (x y : Rat) : Int := (x - y).num.sign
theorem rcmp_le (x y : Rat) : rcmp x y ≤ 0 ↔ x ≤ y := by
  have h : -(x - y) = y - x := Rat.neg_sub x y
  have h2 : (y - x).num = -(x - y).num := by rw [← h, Rat.neg_num]
  rw [Rat.le_iff_sub_nonneg, ← Rat.num_nonneg, h2]
  unfold rcmp
  rcases sign_cases (x - y).num with ⟨a, e⟩ | ⟨a, e⟩ | ⟨a, e⟩ <;> omega
theorem rcmp_neg (x y : Rat) : rcmp y x = -rcmp x y := by
  unfold rcmp
  rw [← Rat.neg_sub x y, Rat.neg_num, Int.sign_neg]
theorem rcmp_zero (x y : Rat) : rcmp x y = 0 ↔ x = y := by
  constructor
  · intro h
    exact Rat.le_antisymm ((rcmp_le x y).1 (by omega)) ((rcmp_le y x).1 (by rw [rcmp_neg]; omega))
  · rintro rfl
    unfold rcmp
    rw [Rat.sub_self]; rfl
theorem rcmp_trans (x y z : Rat) (h1 : rcmp x y ≤ 0) (h2 : rcmp y z ≤ 0) : rcmp x z ≤ 0 :=
  (rcmp_le x z).2 (Rat.le_trans ((rcmp_le x y).1 h1) ((rcmp_le y z).1 h2))
theorem rcmp_add (x y z : Rat) : rcmp (x + z) (y + z) = rcmp x y := by
  unfold rcmp
  have : x + z - (y + z) = x - y := by
    rw [Rat.sub_eq_add_neg, Rat.sub_eq_add_neg, Rat.neg_add, Rat.add_assoc, Rat.add_comm (-y), ← Rat.add_assoc z, Rat.add_neg_cancel, Rat.zero_add]
  rw [this]
theorem rat_add_sub (x y : Rat) : x + y - y = x := by
  rw [Rat.sub_eq_add_neg, Rat.add_assoc, Rat.add_neg_cancel, Rat.add_zero]
theorem rat_div_mul (x y : Rat) (h : y ≠ 0) : x / y * y = x := by
  rw [Rat.div_def, Rat.mul_assoc, Rat.inv_mul_cancel _ h, Rat.mul_one]

theorem qF_rest (x y : Int) (hy : y ≠ 0) : (x - qF x y * y).natAbs < y.natAbs ∧ (x - qF x y * y = 0 ∨ (x - qF x y * y).sign = y.sign) := by
  have hd := Nat.div_add_mod x.natAbs y.natAbs
  have hm := Nat.mod_lt x.natAbs (show 0 < y.natAbs by omega)
  unfold qF
  generalize x.natAbs / y.natAbs = k at *
  generalize x.natAbs % y.natAbs = r at *
  have hk : ((y.natAbs : Nat) : Int) * ((k : Nat) : Int) + ((r : Nat) : Int) = (x.natAbs : Int) := by rw [← hd]; push_cast; rfl
  rcases sign_cases x with ⟨h1, h2⟩ | ⟨h1, h2⟩ | ⟨h1, h2⟩ <;> rcases sign_cases y with ⟨g1, g2⟩ | ⟨g1, g2⟩ | ⟨g1, g2⟩
  all_goals first | omega | skip
  all_goals
    rw [h2, g2]
    first | rw [if_pos (by decide)] | rw [if_neg (by decide)]
    have hky : ((k : Nat) : Int) * y = (x.natAbs : Int) - (r : Int) ∨ ((k : Nat) : Int) * y = (r : Int) - (x.natAbs : Int) := by
      rcases Int.lt_or_lt_of_ne hy with h | h
      · right
        rw [(by omega : ((y.natAbs : Nat) : Int) = -y), Int.neg_mul, Int.mul_comm y] at hk
        omega
      · left
        rw [(by omega : ((y.natAbs : Nat) : Int) = y), Int.mul_comm y] at hk
        omega
    have hky2 : 0 < y → ((k : Nat) : Int) * y = (x.natAbs : Int) - (r : Int) := fun h => by
      rw [(by omega : ((y.natAbs : Nat) : Int) = y), Int.mul_comm y] at hk
      omega
    have hky3 : y < 0 → ((k : Nat) : Int) * y = (r : Int) - (x.natAbs : Int) := fun h => by
      rw [(by omega : ((y.natAbs : Nat) : Int) = -y), Int.neg_mul, Int.mul_comm y] at hk
      omega
    clear hk hky hd
    try split
    all_goals
      try simp only [Int.sub_mul, Int.neg_mul, Int.one_mul]
      generalize ((k : Nat) : Int) * y = m at *
      refine ⟨by omega, ?_⟩
      by_cases hr : r = 0
      · left; omega
      · first | (right; exact Int.sign_eq_one_of_pos (by omega)) | (right; exact Int.sign_eq_neg_one_of_neg (by omega)) | (left; omega)
/-- Over a divisor above 0 the code's floor is Lean's. -/
theorem qF_ediv (x : Int) (G : Nat) (hG : 0 < G) : qF x (G : Int) = x / (G : Int) := by
  obtain ⟨h1, h2⟩ := qF_rest x (G : Int) (by omega)
  have h3 : 0 ≤ x - qF x (G : Int) * (G : Int) := by
    rcases h2 with h | h
    · omega
    · rw [Int.sign_eq_one_of_pos (show (0 : Int) < (G : Int) by omega)] at h
      rcases sign_cases (x - qF x (G : Int) * (G : Int)) with ⟨a, e⟩ | ⟨a, e⟩ | ⟨a, e⟩ <;> omega
  generalize hr : x - qF x (G : Int) * (G : Int) = r at *
  have hx : x = r + qF x (G : Int) * (G : Int) := by omega
  have e : x / (G : Int) = (r + qF x (G : Int) * (G : Int)) / (G : Int) := by rw [← hx]
  rw [e, Int.add_mul_ediv_right _ _ (by omega), Int.ediv_eq_zero_of_lt h3 (by omega), Int.zero_add]
theorem rat_floor (q : Rat) : qF q.num (q.den : Int) = q.floor := by
  rw [qF_ediv _ _ (by have := q.den_nz; omega), Rat.floor_def]
end Go.Proofs.Ytooheapikhdllaa

/- divWords of the reference: quotient and remainder, a word at a time, each by halving. -/
namespace Go.Proofs.Ytooheapikhdllaa
open Go.RowKit
attribute [local go_sem ↓] Go.wp_at_zero Go.wp_at_succ

theorem div_word (x N d B : Nat) (hd : 0 < d) : (x + B * N) % d = (x + B * (N % d)) % d ∧ (x + B * N) / d = (x + B * (N % d)) / d + B * (N / d) := by
  have e : x + B * N = (x + B * (N % d)) + d * (B * (N / d)) := by
    have h := Nat.div_add_mod N d
    have h2 : B * N = B * (d * (N / d)) + B * (N % d) := by rw [← Nat.mul_add, h]
    rw [h2, Nat.mul_left_comm B d]
    omega
  rw [e]
  exact ⟨Nat.add_mul_mod_self_left _ _ _, Nat.add_mul_div_left _ _ hd⟩

theorem cmpN_le (a b : Nat) : cmpN a b ≤ 0 ↔ a ≤ b := by
  unfold cmpN
  split
  · omega
  · split <;> omega

set_option maxRecDepth 20000 in
set_option maxHeartbeats 2000000 in
theorem divWords_any (w : World) (X : Nat → Prop) (va vb : Value) (xs ys : List Nat) (ha : Words w X va xs) (hb : Words w X vb ys) (hy : Can ys) (hne : 0 < ys.length) (hs : xs.length + ys.length ≤ 100000000000) :
    Calls Try.prog 96 #[va, vb] w fun e w' => ∃ v1 v2, e = .returned (.tuple #[v1, v2]) ∧ Words w' (Old w) v1 (dig (val xs / val ys)) ∧ Words w' (Old w) v2 (dig (val xs % val ys)) ∧ Below w.heap.size w w' := by
  obtain ⟨A, c, rfl, hc, _, HA⟩ := ha.open_
  obtain ⟨B, d, rfl, hd, _, HB⟩ := hb.open_
  have hm := HA.lt_max
  have hm2 := HB.lt_max
  have hpos : 0 < val ys := hy.pos (by intro e; subst e; simp at hne)
  have hlow := can_lower hy (by intro e; subst e; simp at hne)
  go_enter Try.func96, Try.ntmps96
  go_upto_if 19 with fail
  go_cut [6] (fun s W => ∃ sk : Nat, sk ≤ xs.length ∧ sk ≤ ys.length - 1 ∧ s = .int .i64 sk ∧ W = w)
  case first =>
    by_cases hgt : ys.length - 1 > xs.length
    · go_wp2_with fail
      go_meet
      exact ⟨xs.length, by omega, by omega, by go_num, rfl⟩
    · go_wp2_with fail
      go_meet
      exact ⟨ys.length - 1, by omega, by omega, by go_num, rfl⟩
  case rest =>
    obtain ⟨sk, hk1, hk2, rfl, hw0⟩ := hcut
    obtain rfl : w = wc := hw0.symm
    go_upto_region 4 with fail
    go_cut [7] (fun r W => Words W (Old w) r (dig (val (xs.drop (xs.length - sk)))) ∧ Below w.heap.size w W)
    case first =>
      have HD := HA.drop (k := xs.length - sk) (by omega)
      by_cases hc2 : c = xs.length - sk
      · subst hc2
        rw [if_pos rfl] at HD
        rw [Nat.sub_self, (by omega : xs.length - (xs.length - sk) = 0)] at HD
        go_wp2_with fail
        refine (rtrim_any _ _ _ _ HD (by rw [List.length_drop]; omega)).mono ?_
        rintro e w1 ⟨v1, rfl, h1, hb1⟩
        rw [trimL_dig (Ws.drop HA.2 _)] at h1
        go_wp2_with fail
        go_meet
        exact ⟨h1, hb1⟩
      · rw [if_neg hc2] at HD
        go_wp2_with fail
        refine (rtrim_any _ _ _ _ HD (by rw [List.length_drop]; omega)).mono ?_
        rintro e w1 ⟨v1, rfl, h1, hb1⟩
        rw [trimL_dig (Ws.drop HA.2 _)] at h1
        go_wp2_with fail
        go_meet
        exact ⟨h1, hb1⟩
    case rest =>
      obtain ⟨hr0, hb0⟩ := hcut
      have hsmall : val (xs.drop (xs.length - sk)) < val ys := by
        refine Nat.lt_of_lt_of_le (val_lt (Ws.drop HA.2 _)) (Nat.le_trans (Nat.pow_le_pow_right (by omega) ?_) hlow)
        rw [List.length_drop]; omega
      have HDV := Lib.hid hpos
      have HLOW := Lib.hid hlow
      have HSM := Lib.hid hsmall
      clear hpos hlow hsmall
      go_wp2_with fail
      go_loopw [7, 8, 9] (fun r q i wr => ∃ (k : Nat) (qs : List Nat), k ≤ xs.length - sk ∧ i = .int .i64 ((k : Int) - 1) ∧ Words wr (Old w) r (dig (val (xs.drop k) % val ys)) ∧ Words wr (Old w) q qs ∧ qs.length ≤ xs.length - k ∧ val qs = val (xs.drop k) / val ys ∧ Below w.heap.size w wr) (fun _ _ i _ => (intOf i + 1).toNat)
      case atStart =>
        refine ⟨xs.length - sk, [], Nat.le_refl _, by go_num, ?_, ?_, by simp, ?_, hb0.alloc hb0.size _⟩
        · rw [Nat.mod_eq_of_lt HSM.out]; exact hr0.below (below1 _ _)
        · exact Words.lit [] (Loc.new _ _ _) (by simp) (by have := hb0.size; simp only [Old]; omega) (by unfold maxLen; simp)
        · rw [Nat.div_eq_of_lt HSM.out]; rfl
      case round =>
        obtain ⟨k, qs, hk, hi, hr, hq, hql, hqv, hbr⟩ := hrel
        have HQV := Lib.hid hqv
        clear hqv hr0 hb0
        by_cases hk0 : k = 0
        · subst hk0
          obtain rfl := hi
          go_wp2_with fail
          refine (rtrim_any _ _ _ _ hq (by omega)).mono ?_
          rintro e w1 ⟨v1, rfl, h1, hb1⟩
          rw [trimL_dig hq.2, HQV.out, List.drop_zero] at h1
          have hr1 := hr.below hb1
          rw [List.drop_zero] at hr1
          go_wp2_with fail
          go_ret2
          exact ⟨_, _, rfl, h1.weak (fun b _ hb => by simp only [Old] at hb ⊢; have := hbr.size; omega), hr1, hbr.trans (hb1.mono hbr.size)⟩
        · obtain ⟨j, rfl⟩ : ∃ j, k = j + 1 := ⟨k - 1, by omega⟩
          obtain rfl := hi.trans (show Value.int .i64 (((j + 1 : Nat) : Int) - 1) = .int .i64 (j : Int) by congr 1; omega)
          clear hi
          have HBr := HB.below hbr
          have HAr := HA.below hbr
          obtain ⟨a, rfl, _, _, hca⟩ := HAr.at_ (k := j) (by omega)
          have hlt := HA.lt (i := j) (by omega)
          obtain ⟨hdm, hdd⟩ := div_word xs[j] (val (xs.drop (j + 1))) (val ys) 4294967296 HDV.out
          rw [← val_drop_succ xs j (by omega)] at hdm hdd
          have hrl := Nat.mod_lt (val (xs.drop (j + 1))) HDV.out
          have hQ : (xs[j] + 4294967296 * (val (xs.drop (j + 1)) % val ys)) / val ys < 4294967296 := by
            rw [Nat.div_lt_iff_lt_mul HDV.out]
            omega
          have hrlen : (dig (val (xs.drop (j + 1)) % val ys)).length ≤ ys.length := dig_len_le (Nat.lt_trans hrl (val_lt hy.1))
          rw [← HQV.out] at hdd
          have HDM := Lib.hid hdm
          have HDD := Lib.hid hdd
          have HQB := Lib.hid hQ
          have HRD := Lib.hid (ws_dig (val (xs.drop (j + 1)) % val ys))
          have HRV := Lib.hid (val_dig (val (xs.drop (j + 1)) % val ys))
          clear hdm hdd hQ hrl
          generalize hr0 : val (xs.drop (j + 1)) % val ys = r0 at *
          clear hr0
          generalize hx : xs[j] = x at *
          have HX := Lib.hid hx
          clear hx
          generalize hrs : dig r0 = rs at *
          have HRS := Lib.hid hrs
          clear hrs
          have b1 : (0 : Int) ≤ (j : Int) := by omega
          have b2 : (j : Int) < (xs.length : Int) := by omega
          go_wp2_with (at_builtin; refine wpList_words _ rfl _ _ rfl Try.underlying22 info_u32 wr.heap.size _ 1 [.int .u32 (x : Nat)] rfl (World.ownsRow_lit (e := 82) (size := 1) wr #[.int .u32 (x : Nat)] 1 (Nat.le_refl _) (by unfold maxLen; omega) rfl) rs _ rfl (hr.below (below1 wr _)) (by omega) (by unfold maxLen; omega) (by simp) ?_)
          intro v1 w1 hown1 hg1 hob1
          have k1 : Below wr.heap.size wr w1 := below_own (below1 wr (.cells #[.int .u32 (x : Nat)] 82)) (World.ownsRow_lit (e := 82) (size := 1) wr #[.int .u32 (x : Nat)] 1 (Nat.le_refl _) (by unfold maxLen; omega) rfl) hg1 (Nat.le_refl _) (by simp)
          have hw1 : Words w1 (Old w) v1 (x :: rs) := Words.of_own (xs := x :: rs) (by rw [List.length_cons, Nat.add_comm]; exact hown1) (by intro y hy; rcases List.mem_cons.1 hy with e | e; (subst e; omega); exact HRD.out y e) (fun b h1 _ _ => by have := hbr.size; unfold Old; omega)
          go_wp2_with fail
          refine (rtrim_any _ _ _ _ hw1 (by simp only [List.length_cons]; omega)).mono ?_
          rintro e w2 ⟨v2, rfl, h2, hb2⟩
          rw [trimL_dig hw1.2] at h2
          have hRv : val (x :: rs) = x + 4294967296 * r0 := by show x + 4294967296 * val rs = _; rw [HRV.out]
          rw [hRv] at h2
          have hRl : (dig (x + 4294967296 * r0)).length ≤ rs.length + 1 := by rw [← hRv]; exact dig_val_len (xs := x :: rs) hw1.2
          have HRL := Lib.hid hRl
          clear hRv hRl
          have k2 := k1.trans (hb2.mono k1.size)
          generalize hR : x + 4294967296 * r0 = R at *
          have HR := Lib.hid hR
          clear hR
          have hMID : ∀ m, val ys * m ≤ R ↔ m ≤ R / val ys := fun m => by rw [Nat.le_div_iff_mul_le HDV.out, Nat.mul_comm]
          have hREM : R - val ys * (R / val ys) = R % val ys := by have := Nat.div_add_mod R (val ys); omega
          have HMID := Lib.hid hMID
          have HREM := Lib.hid hREM
          have hQ := HQB.out
          clear hMID hREM HQB
          generalize hQ' : R / val ys = Q at *
          clear hQ'
          have h2' := h2.weak (Y := Old w) (fun b _ hb => by simp only [Old] at hb ⊢; have := hbr.size; have := k1.size; omega)
          have HB2 := HBr.below k2
          have hq2 := hq.below k2
          have hB2 := hbr.trans (k2.mono hbr.size)
          clear h2 hw1 hown1 hg1 hob1 hr hq k1 hb2 HBr HAr hca
          go_wp2_with fail
          go_loopw [10, 11] (fun l h wi => ∃ (lo hi : Nat), l = .int .u64 lo ∧ h = .int .u64 hi ∧ lo ≤ Q ∧ Q < hi ∧ hi ≤ 4294967296 ∧ Below w2.heap.size w2 wi) (fun l h _ => (intOf h - intOf l).toNat)
          case atStart => exact ⟨0, 4294967296, rfl, rfl, by omega, hQ, by omega, Below.refl _ _⟩
          case round =>
            obtain ⟨lo, hi, rfl, rfl, hlo, hhi, hB, hbi⟩ := hrel
            have HBi := HB2.below hbi
            have h2i := h2'.below hbi
            have e1 : IntKind.u64.wrap ((hi : Int) - (lo : Int)) = (hi : Int) - (lo : Int) := by rw [IntKind.wrap_u64]; omega
            have e2 : IntKind.u64.wrap ((lo : Int) + (hi : Int)) = (lo : Int) + (hi : Int) := by rw [IntKind.wrap_u64]; omega
            by_cases hgo : lo + 1 < hi
            · obtain ⟨m, hm⟩ : ∃ m, m = (lo + hi) / 2 := ⟨_, rfl⟩
              have e3 : ((lo : Int) + (hi : Int)) / 2 = (m : Int) := by omega
              have hmb : lo < m ∧ m < hi := by omega
              have hgo' : (1 : Int) < (hi : Int) - (lo : Int) := by omega
              clear hm
              go_wp2_with fail
              refine (timesWord_any _ X _ ys m HBi (by omega) (by omega)).mono ?_
              rintro e w3 ⟨v3, rfl, h3, hb3⟩
              go_wp2_with fail
              refine (compareWords_any _ (fun _ => False) _ _ _ _ (h3.weak (fun _ _ h => h.elim)) ((h2i.below hb3).weak (fun _ _ h => h.elim)) (can_dig _) (can_dig _)).mono ?_
              rintro e w4 ⟨rfl, n, rfl⟩
              have hiff : cmpN (val (dig (val ys * m))) (val (dig R)) ≤ 0 ↔ m ≤ Q := by rw [val_dig, val_dig, cmpN_le]; exact HMID.out m
              generalize cmpN (val (dig (val ys * m))) (val (dig R)) = cc at *
              have HIFF := Lib.hid hiff
              clear hiff
              by_cases hmq : m ≤ Q
              · have hcc : cc ≤ 0 := HIFF.out.2 hmq
                go_wp2_with fail
                go_roundw
                case rel => exact ⟨m, hi, rfl, rfl, hmq, hhi, hB, below_drewN (hbi.trans (hb3.mono hbi.size)) n⟩
                case measure => simp only [intOf]; omega
              · have hcc : ¬ cc ≤ 0 := fun h => hmq (HIFF.out.1 h)
                go_wp2_with fail
                go_roundw
                case rel => exact ⟨lo, m, rfl, rfl, hlo, by omega, by omega, below_drewN (hbi.trans (hb3.mono hbi.size)) n⟩
                case measure => simp only [intOf]; omega
            · have hgo' : ¬ (1 : Int) < (hi : Int) - (lo : Int) := by omega
              obtain rfl : lo = Q := by omega
              have hRl := HRL.out
              have hle := (HMID.out lo).2 (Nat.le_refl _)
              have HLE := Lib.hid hle
              clear hle
              go_wp2_with fail
              refine (timesWord_any _ X _ ys lo HBi (by omega) (by omega)).mono ?_
              rintro e w3 ⟨v3, rfl, h3, hb3⟩
              go_wp2_with fail
              refine (subWords_any _ (fun _ => False) _ _ _ _ ((h2i.below hb3).weak (fun _ _ h => h.elim)) (h3.weak (fun _ _ h => h.elim)) (by omega) (by rw [val_dig, val_dig]; exact HLE.out) (dig_len_mono HLE.out)).mono ?_
              rintro e w4 ⟨v4, rfl, h4, hb4⟩
              rw [val_dig, val_dig, HREM.out, ← HDM.out] at h4
              have k4 := (hbi.trans (hb3.mono hbi.size)).trans (hb4.mono (hbi.trans (hb3.mono hbi.size)).size)
              have hB4 := hB2.trans (k4.mono hB2.size)
              have hq4 := hq2.below k4
              have h4' := h4.weak (Y := Old w) (fun b _ hb => by simp only [Old] at hb ⊢; have := hB2.size; have := hbi.size; have := hb3.size; omega)
              have e4 : IntKind.u32.wrap (lo : Int) = (lo : Int) := by rw [IntKind.wrap_u32]; omega
              clear h4 h3 h2i HBi HB2 hq2 h2' e1 e2
              go_wp2_with (at_builtin; refine wpList_words _ rfl _ _ rfl Try.underlying22 info_u32 w4.heap.size _ 1 [.int .u32 (lo : Nat)] rfl (World.ownsRow_lit (e := 82) (size := 1) w4 #[.int .u32 (lo : Nat)] 1 (Nat.le_refl _) (by unfold maxLen; omega) rfl) qs _ rfl (hq4.below (below1 w4 _)) (by omega) (by unfold maxLen; omega) (by simp) ?_)
              intro v5 w5 hown5 hg5 hob5
              have k5 : Below w4.heap.size w4 w5 := below_own (below1 w4 (.cells #[.int .u32 (lo : Nat)] 82)) (World.ownsRow_lit (e := 82) (size := 1) w4 #[.int .u32 (lo : Nat)] 1 (Nat.le_refl _) (by unfold maxLen; omega) rfl) hg5 (Nat.le_refl _) (by simp)
              have hw5 : Words w5 (Old w) v5 (lo :: qs) := Words.of_own (xs := lo :: qs) (by rw [List.length_cons, Nat.add_comm]; exact hown5) (by intro y hy; rcases List.mem_cons.1 hy with e | e; (subst e; omega); exact hq4.2 y e) (fun b h1 _ _ => by have := hB4.size; unfold Old; omega)
              go_wp2_with fail
              go_roundw
              case rel =>
                refine ⟨j, lo :: qs, by omega, by go_num, h4'.below k5, hw5, by simp only [List.length_cons]; omega, ?_, hB4.trans (k5.mono hB4.size)⟩
                rw [HDD.out]
                rfl
              case measure => simp only [intOf]; omega
end Go.Proofs.Ytooheapikhdllaa

/- Gcd, the program's and the reference's. -/
namespace Go.Proofs.Ytooheapikhdllaa
open Go.RowKit
attribute [local go_sem ↓] Go.wp_at_zero Go.wp_at_succ

/-- The number that a slice of words reads as. -/
def rd (w : World) : Value → Nat
  | .slice (some a) n _ => val ((List.range n).map fun i => match w.cell? (a.add i) with | some (.int _ x) => x.toNat | _ => 0)
  | _ => 0
theorem Words.rd {w : World} {X : Nat → Prop} {v : Value} {xs : List Nat} (h : Words w X v xs) : rd w v = val xs := by
  obtain ⟨A, c, rfl, _, _, H⟩ := h.open_
  rcases A with _ | a
  · have h0 : xs = [] := by
      rcases xs with _ | ⟨y, ys⟩
      · rfl
      · obtain ⟨_, e, _⟩ := H.at_ (k := 0) (by simp)
        cases e
    subst h0
    rfl
  · show val _ = _
    congr 1
    apply List.ext_getElem
    · simp
    · intro i h1 h2
      obtain ⟨a', e, _, _, hc⟩ := H.at_ (k := i) h2
      injection e with e
      subst e
      simp [hc]
theorem gcd_step (a b : Nat) : Nat.gcd b (a % b) = Nat.gcd a b := by
  rw [Nat.gcd_comm b, ← Nat.gcd_rec, Nat.gcd_comm]

set_option maxHeartbeats 2000000 in
theorem gcd_any (w : World) (X : Nat → Prop) (v1 v2 : Value) (n1 n2 : Bool) (xs ys : List Nat) (h1 : IntR w X v1 n1 xs) (h2 : IntR w X v2 n2 ys) (hs1 : xs.length ≤ 100000000000) (hs2 : ys.length ≤ 100000000000) :
    Calls Try.prog 58 #[v1, v2] w fun e w' => ∃ v', e = .returned v' ∧ IntV w' (Old w) v' ((Nat.gcd (val xs) (val ys) : Nat) : Int) ∧ Below w.heap.size w w' := by
  obtain ⟨A, c, rfl, _, _, H1⟩ := h1.open_
  obtain ⟨B, d, rfl, _, _, H2⟩ := h2.open_
  have l1 := trimL_len xs
  have l2 := trimL_len ys
  have c1 := can_trimL H1.2
  have c2 := can_trimL H2.2
  have HV1 := Lib.hid (val_trimL xs)
  have HV2 := Lib.hid (val_trimL ys)
  generalize hG : Nat.gcd (val xs) (val ys) = G
  have HG := Lib.hid hG
  clear hG
  go_enter Try.func58, Try.ntmps58
  go_wp2_with fail
  have KS := boxes3 w #[.bool n1, .slice A xs.length c] #[.bool n2, .slice B ys.length d] #[.bool false, .slice none 0 0] 24 24 24
  have K1 := (H1.weak (Y := fun _ => False) (fun _ _ h => h.elim)).below (below3 w (.cells #[.bool n1, .slice A xs.length c] 24) (.cells #[.bool n2, .slice B ys.length d] 24) (.cells #[.bool false, .slice none 0 0] 24))
  have K2 := (H2.weak (Y := fun _ => False) (fun _ _ h => h.elim)).below (below3 w (.cells #[.bool n1, .slice A xs.length c] 24) (.cells #[.bool n2, .slice B ys.length d] 24) (.cells #[.bool false, .slice none 0 0] 24))
  obtain ⟨-, -, Lr, hB0, hsz0⟩ := locs3 (c1 := #[.bool n1, .slice A xs.length c]) (c2 := #[.bool n2, .slice B ys.length d]) (c3 := #[.bool false, .slice none 0 0]) (t1 := 24) (t2 := 24) (t3 := 24) (Below.refl _ (((w.alloc _).alloc _).alloc _))
  generalize (((w.alloc (.cells #[.bool n1, .slice A xs.length c] 24)).alloc (.cells #[.bool n2, .slice B ys.length d] 24)).alloc (.cells #[.bool false, .slice none 0 0] 24)) = w1 at *
  clear H1 H2 h1 h2
  go_region_held3 (fun w' => (w'.cell? ⟨w.heap.size, 0, none⟩ = some (.bool n1) ∧ w'.cell? ⟨w.heap.size, 1, none⟩ = some (.slice A xs.length c)) ∧ w'.cell? ⟨w.heap.size + 1, 0, none⟩ = some (.bool n2) ∧ w'.cell? ⟨w.heap.size + 1, 1, none⟩ = some (.slice B ys.length d))
    (first | exact cells_of (KS.out _ (Below.refl _ _).drew) | go_keep)
    (first
      | (go_at_call_of 90 (Value.slice A xs.length c); refine (trim_any _ (fun _ => False) (.slice A xs.length c) xs (K1.below (Below.refl _ _).drew)).mono ?_; rintro e wa ⟨va, rfl, ha, rfl⟩)
      | (go_at_call_of 90 (Value.slice B ys.length d); refine (trim_any _ (fun _ => False) (.slice B ys.length d) ys (K2.below (Below.refl _ _).drew)).mono ?_; rintro e wb ⟨vb, rfl, hb, rfl⟩))
  all_goals
    clear KS
    go_wp2_with fail
    go_loopw [5, 6] (fun x y wr => ∃ (es bs : List Nat), Words wr (fun _ => False) x es ∧ Words wr (fun _ => False) y bs ∧ Can es ∧ Can bs ∧ Nat.gcd (val es) (val bs) = G ∧ es.length ≤ xs.length + ys.length ∧ bs.length ≤ xs.length + ys.length ∧ Loc wr (w.heap.size + 1 + 1) 24 #[.bool false, .slice none 0 0] ∧ Below w.heap.size w wr) (fun _ y wr => rd wr y)
    case atStart => exact ⟨_, _, ha.drew, hb.drew, c1, c2, by rw [HV1.out, HV2.out, HG.out], by omega, by omega, Lr.drew, hB0.drew⟩
    case round =>
      obtain ⟨es, bs, hx, hy, hcx, hcy, hg, hl1, hl2, hL, hbr⟩ := hrel
      have HGG := Lib.hid hg
      have HRD := Lib.hid hy.rd
      clear hg
      by_cases hb0 : bs.length = 0
      · obtain rfl := List.length_eq_zero_iff.1 hb0
        obtain ⟨A2, m2, rfl, _, _, H2⟩ := hy.open_
        rw [List.length_nil] at *
        clear hb0
        go_wp2_with fail
        refine (signed_any _ (fun _ => False) false _ es hx (by omega)).mono ?_
        rintro e w5 ⟨v5, rfl, h5, hb5⟩
        have hgv := HGG.out
        rw [show val [] = 0 from rfl, Nat.gcd_zero_right] at hgv
        rw [sv_false, hgv] at h5
        obtain ⟨bs5, As5, n5, cs5, rfl, h5⟩ := h5.op
        have L5 := hL.below hb5
        have cc := L5.cell
        have cf := L5.frz
        have hsz5 := hbr.size
        have hB5 := hbr.trans (hb5.mono hbr.size)
        have hlL := hL.lt
        go_wp2_with fail
        refine bodyPost_ret (by simp [results, Try.results58, go_sem, cc, cf] <;> rfl) rfl ⟨_, rfl, IntV.stored (g := w.heap.size + 1 + 1) (Y := Old w) h5 (by simp only [Old]; omega) _ _ (by intro b _ hb; simp only [Old] at hb ⊢; omega), below_set2 hB5 (by omega) _ _⟩
      · obtain ⟨A2, m2, rfl, _, _, H2⟩ := hy.open_
        have hb1 : 0 < bs.length := by omega
        have hbp : 0 < val bs := hcy.pos (by intro e; subst e; simp at hb0)
        have HBP := Lib.hid hbp
        clear hbp
        go_wp2_with fail
        refine (over_any _ (fun _ => False) (fun _ h => h.elim) _ _ es bs hx hy hcx hcy hb1 (by omega) (by omega)).mono ?_
        rintro e w5 ⟨q5, r5, qs, rs, rfl, hq5, hr5, hqv, hrv, hql, hrl, hb5⟩
        have HRV := Lib.hid hrv
        clear hqv hrv
        go_wp2_with fail
        refine (trim_any _ _ _ rs hr5).mono ?_
        rintro e w6 ⟨v6, rfl, h6, rfl⟩
        have hl6 := trimL_len rs
        have hc6 := can_trimL hr5.2
        have HV6 := Lib.hid (val_trimL rs)
        have HRD6 := Lib.hid h6.rd
        go_wp2_with fail
        go_roundw
        case rel => exact ⟨bs, trimL rs, hy.below hb5, h6, hcy, hc6, by rw [HV6.out, HRV.out, gcd_step]; exact HGG.out, by omega, by omega, hL.below hb5, hbr.trans (hb5.mono hbr.size)⟩
        case measure =>
          rw [HRD6.out, HRD.out, HV6.out, HRV.out]
          exact Nat.mod_lt _ HBP.out

set_option maxHeartbeats 2000000 in
theorem rgcd_any (w : World) (X : Nat → Prop) (v1 v2 : Value) (n1 n2 : Bool) (xs ys : List Nat) (h1 : IntR w X v1 n1 xs) (h2 : IntR w X v2 n2 ys) (hs1 : xs.length ≤ 10000000000) (hs2 : ys.length ≤ 10000000000) :
    Calls Try.prog 64 #[v1, v2] w fun e w' => ∃ v', e = .returned v' ∧ IntV w' (Old w) v' ((Nat.gcd (val xs) (val ys) : Nat) : Int) ∧ Below w.heap.size w w' := by
  obtain ⟨A, c, rfl, _, _, H1⟩ := h1.open_
  obtain ⟨B, d, rfl, _, _, H2⟩ := h2.open_
  have l1 := trimL_len xs
  have l2 := trimL_len ys
  have c1 := can_trimL H1.2
  have c2 := can_trimL H2.2
  have HV1 := Lib.hid (val_trimL xs)
  have HV2 := Lib.hid (val_trimL ys)
  generalize hG : Nat.gcd (val xs) (val ys) = G
  have HG := Lib.hid hG
  clear hG
  go_enter Try.func64, Try.ntmps64
  go_wp2_with fail
  have KS := boxes3 w #[.bool n1, .slice A xs.length c] #[.bool n2, .slice B ys.length d] #[.bool false, .slice none 0 0] 24 24 24
  have K1 := (H1.weak (Y := fun _ => False) (fun _ _ h => h.elim)).below (below3 w (.cells #[.bool n1, .slice A xs.length c] 24) (.cells #[.bool n2, .slice B ys.length d] 24) (.cells #[.bool false, .slice none 0 0] 24))
  have K2 := (H2.weak (Y := fun _ => False) (fun _ _ h => h.elim)).below (below3 w (.cells #[.bool n1, .slice A xs.length c] 24) (.cells #[.bool n2, .slice B ys.length d] 24) (.cells #[.bool false, .slice none 0 0] 24))
  obtain ⟨-, -, Lr, hB0, hsz0⟩ := locs3 (c1 := #[.bool n1, .slice A xs.length c]) (c2 := #[.bool n2, .slice B ys.length d]) (c3 := #[.bool false, .slice none 0 0]) (t1 := 24) (t2 := 24) (t3 := 24) (Below.refl _ (((w.alloc _).alloc _).alloc _))
  generalize (((w.alloc (.cells #[.bool n1, .slice A xs.length c] 24)).alloc (.cells #[.bool n2, .slice B ys.length d] 24)).alloc (.cells #[.bool false, .slice none 0 0] 24)) = w1 at *
  clear H1 H2 h1 h2
  go_region_held3 (fun w' => (w'.cell? ⟨w.heap.size, 0, none⟩ = some (.bool n1) ∧ w'.cell? ⟨w.heap.size, 1, none⟩ = some (.slice A xs.length c)) ∧ w'.cell? ⟨w.heap.size + 1, 0, none⟩ = some (.bool n2) ∧ w'.cell? ⟨w.heap.size + 1, 1, none⟩ = some (.slice B ys.length d))
    (first | exact cells_of (KS.out _ (k2.mono (by omega))) | exact cells_of (KS.out _ (k1.mono (by omega))) | exact cells_of (KS.out _ (Below.refl _ _).drew) | go_keep)
    (first
      | (go_at_call_of 95 (Value.slice A xs.length c); refine (rtrim_any _ (fun _ => False) (.slice A xs.length c) xs (K1.below (Below.refl _ _).drew) (by omega)).mono ?_; rintro e wa ⟨va, rfl, ha, hka⟩; have k1 := below_undrew hka)
      | (go_at_call_of 95 (Value.slice B ys.length d); refine (rtrim_any _ (fun _ => False) (.slice B ys.length d) ys (K2.below k1) (by omega)).mono ?_; rintro e wb ⟨vb, rfl, hb, hkb⟩; have k2 := k1.trans (hkb.mono k1.size); have ha2 := ha.below hkb))
  all_goals
    clear KS
    have Lr2 := Lr.below k2
    have hB2 := hB0.trans (k2.mono (by omega))
    clear Lr hB0
    go_wp2_with fail
    go_loopw [5, 6] (fun x y wr => ∃ (es bs : List Nat), Words wr (fun _ => False) x es ∧ Words wr (fun _ => False) y bs ∧ Can es ∧ Can bs ∧ Nat.gcd (val es) (val bs) = G ∧ es.length ≤ xs.length + ys.length ∧ bs.length ≤ xs.length + ys.length ∧ Loc wr (w.heap.size + 1 + 1) 24 #[.bool false, .slice none 0 0] ∧ Below w.heap.size w wr) (fun _ y wr => rd wr y)
    case atStart => exact ⟨_, _, ha2.weak (fun _ _ h => h.elim), hb.weak (fun _ _ h => h.elim), c1, c2, by rw [HV1.out, HV2.out, HG.out], by omega, by omega, Lr2, hB2⟩
    case round =>
      obtain ⟨es, bs, hx, hy, hcx, hcy, hg, hl1, hl2, hL, hbr⟩ := hrel
      have HGG := Lib.hid hg
      have HRD := Lib.hid hy.rd
      clear hg
      by_cases hb0 : bs.length = 0
      · obtain rfl := List.length_eq_zero_iff.1 hb0
        obtain ⟨A2, m2, rfl, _, _, H2⟩ := hy.open_
        rw [List.length_nil] at *
        clear hb0
        go_wp2_with fail
        refine (made_any _ (fun _ => False) false _ es hx (by omega)).mono ?_
        rintro e w5 ⟨v5, rfl, h5, hb5⟩
        have hgv := HGG.out
        rw [show val [] = 0 from rfl, Nat.gcd_zero_right] at hgv
        rw [sv_false, hgv] at h5
        obtain ⟨bs5, As5, n5, cs5, rfl, h5⟩ := h5.op
        have L5 := hL.below hb5
        have cc := L5.cell
        have cf := L5.frz
        have hsz5 := hbr.size
        have hB5 := hbr.trans (hb5.mono hbr.size)
        have hlL := hL.lt
        go_wp2_with fail
        refine bodyPost_ret (by simp [results, Try.results64, go_sem, cc, cf] <;> rfl) rfl ⟨_, rfl, IntV.stored (g := w.heap.size + 1 + 1) (Y := Old w) h5 (by simp only [Old]; omega) _ _ (by intro b _ hb; simp only [Old] at hb ⊢; omega), below_set2 hB5 (by omega) _ _⟩
      · obtain ⟨A2, m2, rfl, _, _, H2⟩ := hy.open_
        have hb1 : 0 < bs.length := by omega
        have hbp : 0 < val bs := hcy.pos (by intro e; subst e; simp at hb0)
        have HBP := Lib.hid hbp
        have hrl : (dig (val es % val bs)).length ≤ bs.length := dig_len_le (Nat.lt_trans (Nat.mod_lt _ hbp) (val_lt hcy.1))
        have HRL := Lib.hid hrl
        clear hbp hrl
        go_wp2_with fail
        refine (divWords_any _ (fun _ => False) _ _ es bs hx hy hcy hb1 (by omega)).mono ?_
        rintro e w5 ⟨q5, r5, rfl, hq5, hr5, hb5⟩
        have HRD6 := Lib.hid hr5.rd
        go_wp2_with fail
        go_roundw
        case rel => exact ⟨bs, _, hy.below hb5, hr5.weak (fun _ _ h => h.elim), hcy, can_dig _, by rw [val_dig, gcd_step]; exact HGG.out, by omega, by have := HRL.out; omega, hL.below hb5, hbr.trans (hb5.mono hbr.size)⟩
        case measure =>
          rw [HRD6.out, HRD.out, val_dig]
          exact Nat.mod_lt _ HBP.out
end Go.Proofs.Ytooheapikhdllaa

/- Fractions: how they lie; rational.over and rational.zero. -/
namespace Go.Proofs.Ytooheapikhdllaa
open Go.RowKit
attribute [local go_sem ↓] Go.wp_at_zero Go.wp_at_succ

/-- A fraction as it lies: two signs, two lists of words. -/
def RatR (w : World) (X : Nat → Prop) (v : Value) (n1 : Bool) (xs : List Nat) (n2 : Bool) (ys : List Nat) : Prop :=
  ∃ A c B d, v = .agg #[.bool n1, .slice A xs.length c, .bool n2, .slice B ys.length d] ∧ IntR w X (.agg #[.bool n1, .slice A xs.length c]) n1 xs ∧ IntR w X (.agg #[.bool n2, .slice B ys.length d]) n2 ys
/-- The canonical struct of a fraction. -/
def RatV (w : World) (X : Nat → Prop) (v : Value) (q : Rat) : Prop := RatR w X v (decide (q.num < 0)) (dig q.num.natAbs) (decide ((q.den : Int) < 0)) (dig (q.den : Int).natAbs)
/-- The value of a fraction as it lies: 0 where the denominator is 0. -/
def rv (n1 : Bool) (xs : List Nat) (n2 : Bool) (ys : List Nat) : Rat := Rat.divInt (sv n1 xs) (sv n2 ys)

theorem rv_canon (q : Rat) : rv (decide (q.num < 0)) (dig q.num.natAbs) (decide ((q.den : Int) < 0)) (dig (q.den : Int).natAbs) = q := by
  unfold rv; rw [sv_dig, sv_dig, Rat.num_divInt_den]

section
variable {X Y : Nat → Prop} {w w' : World} {v : Value} {n1 n2 : Bool} {xs ys : List Nat} {q : Rat}
theorem RatR.keep (h : RatR w X v n1 xs n2 ys) (hk : Keep X w w') : RatR w' X v n1 xs n2 ys := let ⟨A, c, B, d, e, h1, h2⟩ := h; ⟨A, c, B, d, e, h1.keep hk, h2.keep hk⟩
theorem RatR.weak (h : RatR w X v n1 xs n2 ys) (hY : ∀ b, b < w.heap.size → Y b → X b) : RatR w Y v n1 xs n2 ys := let ⟨A, c, B, d, e, h1, h2⟩ := h; ⟨A, c, B, d, e, h1.weak hY, h2.weak hY⟩
theorem RatR.below (h : RatR w X v n1 xs n2 ys) (hk : Below w.heap.size w w') : RatR w' X v n1 xs n2 ys := h.keep (.of_below hk)
theorem RatV.keep (h : RatV w X v q) (hk : Keep X w w') : RatV w' X v q := RatR.keep h hk
theorem RatV.weak (h : RatV w X v q) (hY : ∀ b, b < w.heap.size → Y b → X b) : RatV w Y v q := RatR.weak h hY
theorem RatV.below (h : RatV w X v q) (hk : Below w.heap.size w w') : RatV w' X v q := RatR.below h hk
/-- The shape, its parts letters. -/
theorem RatV.op (h : RatV w X v q) : ∃ (b : Bool) (A : Option Addr) (m c : Nat) (b' : Bool) (A' : Option Addr) (m' c' : Nat), v = .agg #[.bool b, .slice A m c, .bool b', .slice A' m' c'] ∧
    RatV w X (.agg #[.bool b, .slice A m c, .bool b', .slice A' m' c']) q ∧ IntV w X (.agg #[.bool b, .slice A m c]) q.num ∧ IntV w X (.agg #[.bool b', .slice A' m' c']) (q.den : Int) := by
  have h0 := h
  obtain ⟨A, c, B, d, rfl, h1, h2⟩ := h
  exact ⟨_, A, _, c, _, B, _, d, rfl, h0, h1, h2⟩
theorem RatV.of {a1 b1 : Bool} {a2 b2 : Value} (h : IntV w X (.agg #[.bool a1, a2]) q.num) (k : IntV w X (.agg #[.bool b1, b2]) (q.den : Int)) : RatV w X (.agg #[.bool a1, a2, .bool b1, b2]) q := by
  obtain ⟨A, c, e, _, _, h1⟩ := IntR.open_ h
  obtain ⟨B, d, e', _, _, h2⟩ := IntR.open_ k
  simp only [Value.agg.injEq, Array.mk.injEq, List.cons.injEq, Value.bool.injEq, and_true] at e e'
  obtain ⟨rfl, rfl⟩ := e
  obtain ⟨rfl, rfl⟩ := e'
  exact ⟨A, c, B, d, rfl, h, k⟩
theorem ratR_of {a1 b1 : Bool} {a2 b2 : Value} (h : IntR w X (.agg #[.bool a1, a2]) n1 xs) (k : IntR w X (.agg #[.bool b1, b2]) n2 ys) : RatR w X (.agg #[.bool a1, a2, .bool b1, b2]) n1 xs n2 ys := by
  obtain ⟨A, c, e, _, _, h1⟩ := IntR.open_ h
  obtain ⟨B, d, e', _, _, h2⟩ := IntR.open_ k
  simp only [Value.agg.injEq, Array.mk.injEq, List.cons.injEq, Value.bool.injEq, and_true] at e e'
  obtain ⟨rfl, rfl⟩ := e
  obtain ⟨rfl, rfl⟩ := e'
  exact ⟨A, c, B, d, rfl, h, k⟩
theorem RatR.to (h : RatR w X v n1 xs n2 ys)
    (k : Keep X w w' := by
      repeat (first
        | (with_reducible exact Keep.refl _ _) | (with_reducible refine Keep.drew ?_) | (with_reducible refine Keep.alloc ?_ _) | (with_reducible refine Keep.drewN ?_)
        | (with_reducible refine Keep.set ?_ ?_ _; rotate_left; (first | (right; simp only [World.size_alloc, size_set, size_drew, size_drewN]; omega) | (right; omega) | (left; simp only [Old, World.size_alloc, size_set, size_drew, size_drewN]; omega) | (left; dsimp only; omega)))
        | (with_reducible refine Keep.on ?_ (by assumption)))
      fail_if_success exfalso) : RatR w' (fun _ => False) v n1 xs n2 ys := (h.keep k).weak (fun _ _ h => h.elim)
theorem RatV.to (h : RatV w X v q)
    (k : Keep X w w' := by
      repeat (first
        | (with_reducible exact Keep.refl _ _) | (with_reducible refine Keep.drew ?_) | (with_reducible refine Keep.alloc ?_ _) | (with_reducible refine Keep.drewN ?_)
        | (with_reducible refine Keep.set ?_ ?_ _; rotate_left; (first | (right; simp only [World.size_alloc, size_set, size_drew, size_drewN]; omega) | (right; omega) | (left; simp only [Old, World.size_alloc, size_set, size_drew, size_drewN]; omega) | (left; dsimp only; omega)))
        | (with_reducible refine Keep.on ?_ (by assumption)))
      fail_if_success exfalso) : RatV w' (fun _ => False) v q := (h.keep k).weak (fun _ _ h => h.elim)
theorem RatV.out (h : RatV w X v q)
    (k : Keep (fun b => X b ∨ Y b) w w' := by
      repeat (first
        | (with_reducible exact Keep.refl _ _) | (with_reducible refine Keep.drew ?_) | (with_reducible refine Keep.alloc ?_ _) | (with_reducible refine Keep.drewN ?_)
        | (with_reducible refine Keep.set ?_ ?_ _; rotate_left; (first | (right; simp only [World.size_alloc, size_set, size_drew, size_drewN]; omega) | (right; omega) | (left; simp only [Old, World.size_alloc, size_set, size_drew, size_drewN]; omega) | (left; dsimp only; omega) | (left; left; simp only [Old, World.size_alloc, size_set, size_drew, size_drewN]; omega) | (left; right; simp only [Old, World.size_alloc, size_set, size_drew, size_drewN]; omega) | (left; right; dsimp only; omega)))
        | (with_reducible refine Keep.on ?_ (by assumption)))
      fail_if_success exfalso)
    (hY : ∀ b, b < w.heap.size → Y b → X b := by intro b hw hb; (try simp only [Old, World.size_alloc, size_set, size_drew, size_drewN] at hw hb ⊢); first | omega | (exfalso; omega)) : RatV w' Y v q := ((h.weak (Y := fun b => X b ∨ Y b) (fun b hb hxy => hxy.elim id (hY b hb))).keep k).weak (fun b _ h => Or.inr h)
end

set_option maxHeartbeats 1000000 in
theorem over_rat (w : World) (X : Nat → Prop) (v1 v2 : Value) (n1 n2 : Bool) (xs ys : List Nat) (h1 : IntR w X v1 n1 xs) (h2 : IntR w X v2 n2 ys) (hz : val ys ≠ 0) (hs1 : xs.length ≤ 100000000) (hs2 : ys.length ≤ 100000000) :
    Calls Try.prog 59 #[v1, v2] w fun e w' => ∃ v', e = .returned v' ∧ IntV w' (Old w) v' (qF (sv n1 xs) (sv n2 ys)) ∧ Below w.heap.size w w' := by
  obtain ⟨A, c, rfl, h1⟩ := h1.op
  obtain ⟨B, d, rfl, h2⟩ := h2.op
  go_enter Try.func59, Try.ntmps59
  go_wp2_with fail
  refine (divide_any _ (fun _ => False) _ _ n1 n2 xs ys h1.to h2.to hz hs1 hs2).mono ?_
  rintro e w1 ⟨q, r, rfl, hq, hr, hb1⟩
  obtain ⟨z1, z2, z3⟩ := sz3 hb1
  obtain ⟨bq, Aq, mq, cq, rfl, hq⟩ := hq.op
  obtain ⟨br, Ar, mr, cr, rfl, hr⟩ := hr.op
  obtain ⟨c5, f5, -⟩ := (made3 w _ _ #[.bool false, .slice none 0 0] 24).all (w' := w1)
  go_wp2_with fail
  refine bodyPost_ret (by simp [results, Try.results59, go_sem, c5, f5, z1, z2, z3] <;> rfl) rfl ⟨_, rfl, hq.out, bel⟩

set_option maxHeartbeats 1000000 in
theorem zero_rat (w : World) :
    Calls Try.prog 56 #[] w fun e w' => ∃ v', e = .returned v' ∧ RatV w' (Old w) v' 0 ∧ Below w.heap.size w w' := by
  go_enter Try.func56, Try.ntmps56
  go_wp2_with fail
  refine (of_any _ 0 (by decide) (by decide)).mono ?_
  rintro e w1 ⟨v1, rfl, h1, hb1⟩
  obtain ⟨b1, A1, m1, c1, rfl, h1⟩ := h1.op
  have z1 := sz1 hb1
  go_wp2_with fail
  refine (of_any _ 1 (by decide) (by decide)).mono ?_
  rintro e w2 ⟨v2, rfl, h2, hb2⟩
  obtain ⟨b2, A2, m2, c2, rfl, h2⟩ := h2.op
  have z2 := hb2.size
  obtain ⟨c5, f5, l5⟩ := (made1 w #[.bool false, .slice none 0 0, .bool false, .slice none 0 0] 27).all (w' := w2)
  go_wp2_with fail
  refine bodyPost_ret (by simp [results, Try.results56, go_sem, c5, f5, l5] <;> rfl) rfl ⟨_, rfl, RatV.of h1.out h2.out, bel⟩
end Go.Proofs.Ytooheapikhdllaa

/- rational.New. -/
namespace Go.Proofs.Ytooheapikhdllaa
open Go.RowKit
attribute [local go_sem ↓] Go.wp_at_zero Go.wp_at_succ

theorem sv_zero_iff (n : Bool) (xs : List Nat) : sv n xs = 0 ↔ val xs = 0 := by rw [← sv_abs n xs]; omega

set_option maxHeartbeats 1000000 in
theorem new_zero (w : World) (X : Nat → Prop) (v1 v2 : Value) (n1 n2 : Bool) (xs ys : List Nat) (h1 : IntR w X v1 n1 xs) (h2 : IntR w X v2 n2 ys) (hz : val ys = 0) :
    Calls Try.prog 15 #[v1, v2] w fun e w' => e = .returned (.tuple #[.agg #[.bool false, .slice none 0 0, .bool false, .slice none 0 0], .int .i64 3]) ∧ Below w.heap.size w w' := by
  obtain ⟨A, c, rfl, h1⟩ := h1.op
  obtain ⟨B, d, rfl, h2⟩ := h2.op
  have HS : Hid ((sv n2 ys).sign = 0) := by rw [(sv_zero_iff n2 ys).2 hz]; rfl
  clear hz
  go_enter Try.func15, Try.ntmps15
  go_wp2_with fail
  refine (sign_any _ (fun _ => False) _ n2 ys h2.to).mono ?_
  rintro e w1 ⟨he, hb1⟩
  rw [HS.out] at he
  subst he
  obtain ⟨z1, z2, z3⟩ := sz3 hb1
  obtain ⟨c4, f4, -⟩ := (made3 w _ _ #[.bool false, .slice none 0 0, .bool false, .slice none 0 0] 27).all (w' := w1)
  go_wp2_with fail
  refine bodyPost_ret (by simp [results, Try.results15, go_sem, c4, f4] <;> rfl) rfl ⟨rfl, bel⟩

set_option maxHeartbeats 4000000 in
theorem new_any (w : World) (X : Nat → Prop) (v1 v2 : Value) (n1 n2 : Bool) (xs ys : List Nat) (h1 : IntR w X v1 n1 xs) (h2 : IntR w X v2 n2 ys) (hz : val ys ≠ 0) (hs1 : xs.length ≤ 100000000) (hs2 : ys.length ≤ 100000000) :
    Calls Try.prog 15 #[v1, v2] w fun e w' => ∃ v', e = .returned (.tuple #[v', .int .i64 0]) ∧ RatV w' (Old w) v' (Rat.divInt (sv n1 xs) (sv n2 ys)) ∧ Below w.heap.size w w' := by
  obtain ⟨A, c, rfl, h1⟩ := h1.op
  obtain ⟨B, d, rfl, h2⟩ := h2.op
  have hd0 : sv n2 ys ≠ 0 := fun h => hz ((sv_zero_iff n2 ys).1 h)
  obtain ⟨s2, hs⟩ : ∃ s, (sv n2 ys).sign = s := ⟨_, rfl⟩
  have hsb : (s2 == 0) = false := by rw [beq_eq_false_iff_ne, ← hs]; exact fun h => hd0 (Int.sign_eq_zero_iff_zero.1 h)
  have HS := Lib.hid hs
  clear hs
  obtain ⟨q, hq⟩ : ∃ q, Rat.divInt (sv n1 xs) (sv n2 ys) = q := ⟨_, rfl⟩
  rw [hq]
  have HQ := Lib.hid hq
  clear hq
  have HL1 := Lib.hid (sv_len n1 xs h1.ws)
  have HL2 := Lib.hid (sv_len n2 ys h2.ws)
  go_enter Try.func15, Try.ntmps15
  go_wp2_with fail
  refine (sign_any _ (fun _ => False) _ n2 ys h2.to).mono ?_
  rintro e w1 ⟨he, hb1⟩
  rw [HS.out] at he
  subst he
  obtain ⟨z1, z2, z3⟩ := sz3 hb1
  obtain ⟨c2, f2, -⟩ := (made1 w #[.bool n1, .slice A xs.length c] 24).all (w' := w1)
  by_cases hn0 : val xs = 0
  · have hn : sv n1 xs = 0 := (sv_zero_iff n1 xs).2 hn0
    have HN := Lib.hid hn
    clear hn hn0
    have hq0 := HQ.out
    rw [HN.out, Rat.zero_divInt] at hq0
    subst hq0
    go_wp2_with fail
    refine (sign_any _ (fun _ => False) _ n1 xs h1.to).mono ?_
    rintro e w2 ⟨he, hb2⟩
    rw [HN.out, Int.sign_zero] at he
    subst he
    have y2 := hb2.size; (try simp only [World.size_alloc, size_set, size_drew, size_drewN] at y2)
    go_wp2_with fail
    refine (zero_rat _).mono ?_
    rintro e w3 ⟨v3, rfl, h3, hb3⟩
    obtain ⟨b3, A3, m3, c3, b3', A3', m3', c3', rfl, h3, -, -⟩ := h3.op
    have y3 := hb3.size; (try simp only [World.size_alloc, size_set, size_drew, size_drewN] at y3)
    obtain ⟨c4, f4, -⟩ := (made3 w _ _ #[.bool false, .slice none 0 0, .bool false, .slice none 0 0] 27).all (w' := w3)
    go_wp2_with fail
    refine bodyPost_ret (by simp [results, Try.results15, go_sem, c4, f4] <;> rfl) rfl ⟨_, rfl, h3.out, bel⟩
  · have hn : sv n1 xs ≠ 0 := fun h => hn0 ((sv_zero_iff n1 xs).1 h)
    obtain ⟨s1, hs'⟩ : ∃ s, (sv n1 xs).sign = s := ⟨_, rfl⟩
    have hsa : (s1 == 0) = false := by rw [beq_eq_false_iff_ne, ← hs']; exact fun h => hn (Int.sign_eq_zero_iff_zero.1 h)
    have HS1 := Lib.hid hs'
    clear hs'
    go_wp2_with fail
    refine (sign_any _ (fun _ => False) _ n1 xs h1.to).mono ?_
    rintro e w2 ⟨he, hb2⟩
    rw [HS1.out] at he
    subst he
    have y2 := hb2.size; (try simp only [World.size_alloc, size_set, size_drew, size_drewN] at y2)
    obtain ⟨c3, f3, -⟩ := (made2 w _ #[.bool n2, .slice B ys.length d] 24).all (w' := w2)
    go_wp2_with fail
    refine (sign_any _ (fun _ => False) _ n2 ys h2.to).mono ?_
    rintro e w3 ⟨he, hb3⟩
    rw [HS.out] at he
    subst he
    have y3 := hb3.size; (try simp only [World.size_alloc, size_set, size_drew, size_drewN] at y3)
    go_upto_if 17 with fail
    go_cut [17] (fun _ W => ∃ (b : Bool) (C : Option Addr) (m k : Nat) (b' : Bool) (C' : Option Addr) (m' k' : Nat) (na nb : Bool) (us vs : List Nat), Loc W w.heap.size 24 #[.bool b, .slice C m k] ∧ Loc W (w.heap.size + 1) 24 #[.bool b', .slice C' m' k'] ∧ Loc W (w.heap.size + 1 + 1) 27 #[.bool false, .slice none 0 0, .bool false, .slice none 0 0] ∧
      IntR W (fun b => w.heap.size ≤ b ∧ b < w.heap.size + 3) (.agg #[.bool b, .slice C m k]) na us ∧ IntR W (fun b => w.heap.size ≤ b ∧ b < w.heap.size + 3) (.agg #[.bool b', .slice C' m' k']) nb vs ∧
      Hid (sv na us = (if sv n2 ys < 0 then -sv n1 xs else sv n1 xs) ∧ sv nb vs = (if sv n2 ys < 0 then -sv n2 ys else sv n2 ys)) ∧ us.length ≤ 100000000 ∧ vs.length ≤ 100000000 ∧ Below w.heap.size w W)
    case first =>
      by_cases hneg : s2 < 0
      · have hlt : sv n2 ys < 0 := by have := HS.out; rw [← this] at hneg; exact Int.sign_neg_iff.1 hneg
        have HLT := Lib.hid hlt
        clear hlt
        go_wp2_with fail
        obtain ⟨c5, f5, -⟩ := (made1 w #[.bool n1, .slice A xs.length c] 24).all (w' := w3.drew)
        obtain ⟨c6, f6, -⟩ := (made2 w _ #[.bool n2, .slice B ys.length d] 24).all (w' := w3.drew)
        clear c2 f2 c3 f3
        go_region_with (first
          | (go_at_call_of 57 (Value.agg #[Value.bool n1, Value.slice A xs.length c]); refine (neg_any _ (fun _ => False) _ n1 xs h1.to (by omega)).mono ?_; rintro e u1 ⟨v5, rfl, h5, hb5⟩; obtain ⟨b5, A5, m5, k5, rfl, h5⟩ := h5.op; have y5 := hb5.size; (try simp only [World.size_alloc, size_set, size_drew, size_drewN] at y5); obtain ⟨c6, f6, -⟩ := (made2 w _ #[.bool n2, .slice B ys.length d] 24).all (w' := u1))
          | (go_at_call_of 57 (Value.agg #[Value.bool n2, Value.slice B ys.length d]); refine (neg_any _ (fun _ => False) _ n2 ys h2.to (by omega)).mono ?_; rintro e u2 ⟨v6, rfl, h6, hb6⟩; obtain ⟨b6, A6, m6, k6, rfl, h6⟩ := h6.op; have y6 := hb6.size; (try simp only [World.size_alloc, size_set, size_drew, size_drewN] at y6); obtain ⟨c7, f7, -⟩ := (made1 w #[.bool n1, .slice A xs.length c] 24).all (w' := u2); obtain ⟨c8, f8, -⟩ := (made2 w _ #[.bool n2, .slice B ys.length d] 24).all (w' := u2)))
        all_goals
          have hv := HLT.out
          go_wp2_with fail
          go_meet
          have L1 : Loc u2 w.heap.size 24 #[.bool n1, .slice A xs.length c] := (made1 w _ _).to
          have e12 : w.heap.size ≠ w.heap.size + 1 := by omega
          have e21 : w.heap.size + 1 ≠ w.heap.size := by omega
          have L2 : Loc u2 (w.heap.size + 1) 24 #[.bool n2, .slice B ys.length d] := (made2 w _ _ _).to
          refine ⟨_, _, _, _, _, _, _, _, _, _, _, _, (by first | with_reducible exact L1.two_first e12 | with_reducible exact L1.two_last e12), (by first | with_reducible exact L2.two_first e21 | with_reducible exact L2.two_last e21),
            (made3 w _ _ _ _).to, IntV.out h5, IntV.out h6, ⟨by rw [sv_dig, if_pos hv], by rw [sv_dig, if_pos hv]⟩, by rw [Int.natAbs_neg]; exact Nat.le_trans HL1.out hs1, by rw [Int.natAbs_neg]; exact Nat.le_trans HL2.out hs2, bel⟩
      · have hge : ¬ sv n2 ys < 0 := fun h => hneg (by rw [← HS.out]; exact Int.sign_neg_iff.2 h)
        have HGE := Lib.hid hge
        clear hge
        go_wp2_with fail
        go_meet
        have hv := HGE.out
        exact ⟨_, _, _, _, _, _, _, _, _, _, _, _, (made1 w _ _).to, (made2 w _ _ _).to, (made3 w _ _ _ _).to, h1.out, h2.out, ⟨by rw [if_neg (by omega)], by rw [if_neg (by omega)]⟩, hs1, hs2, bel⟩
    case rest =>
      obtain ⟨b, C, m, k, b', C', m', k', na, nb, us, vs, L2, L3, L4, i1, i2, HV, hl1, hl2, hB⟩ := hcut
      have hn1 : val us = (sv n1 xs).natAbs := by rw [← sv_abs na us, HV.out.1]; split <;> omega
      have hn2 : val vs = (sv n2 ys).natAbs := by rw [← sv_abs nb vs, HV.out.2]; split <;> omega
      have hvu : val us ≠ 0 := by omega
      have hwu := i1.ws
      have hGl : (dig ((Nat.gcd (val us) (val vs) : Nat) : Int).natAbs).length ≤ 100000000 := by
        rw [Int.natAbs_natCast]; exact Nat.le_trans (dig_len_mono (Nat.gcd_le_left _ (by omega))) (Nat.le_trans (dig_val_len hwu) hl1)
      have hGp : 0 < Nat.gcd (val us) (val vs) := Nat.gcd_pos_of_pos_left _ (by omega)
      have hf := new_fields (sv n1 xs) (sv n2 ys) hd0 hn
      rw [← hn1, ← hn2, ← HV.out.1, ← HV.out.2, HQ.out] at hf
      obtain ⟨G, hG⟩ : ∃ G, Nat.gcd (val us) (val vs) = G := ⟨_, rfl⟩
      rw [hG] at hf hGl hGp
      have HG := Lib.hid hG
      have HF := Lib.hid hf
      have zB := L4.lt
      have zB1 := L3.lt
      have zB2 := L2.lt
      clear hG hf hn1 hn2 hvu hn hd0 hz hn0 z1 z2 z3 c2 f2 c3 f3 y2 y3 hb1 hb2 hb3
      obtain ⟨e2, g2, -⟩ := L2.all (w' := wc)
      obtain ⟨e3, g3, -⟩ := L3.all (w' := wc)
      go_wp2_with fail
      refine (gcd_any _ (fun _ => False) _ _ na nb us vs i1.to i2.to (by omega) (by omega)).mono ?_
      rintro e w4 ⟨v4, rfl, h4, hb4⟩
      rw [HG.out] at h4
      obtain ⟨b4, A4, m4, k4, rfl, h4⟩ := h4.op
      have y4 := hb4.size; (try simp only [World.size_alloc, size_set, size_drew, size_drewN] at y4)
      clear e2 g2 e3 g3
      obtain ⟨e4, g4, -⟩ := L4.all (w' := w4)
      go_wp2_with fail
      have L6 := made1 w4 #[.bool b4, .slice A4 m4 k4] 24
      have hval : val (dig ((G : Nat) : Int).natAbs) ≠ 0 := by rw [val_dig, Int.natAbs_natCast]; omega
      go_region_held3 (fun W => (W.cell? ⟨w.heap.size, 0, none⟩ = some (.bool b) ∧ W.cell? ⟨w.heap.size, 1, none⟩ = some (.slice C m k)) ∧ (W.cell? ⟨w.heap.size + 1, 0, none⟩ = some (.bool b') ∧ W.cell? ⟨w.heap.size + 1, 1, none⟩ = some (.slice C' m' k')) ∧ W.cell? ⟨w4.heap.size, 0, none⟩ = some (.bool b4) ∧ W.cell? ⟨w4.heap.size, 1, none⟩ = some (.slice A4 m4 k4))
        (exact ⟨⟨Loc.c 0 L2, Loc.c 1 L2⟩, ⟨Loc.c 0 L3, Loc.c 1 L3⟩, Loc.c 0 L6, Loc.c 1 L6⟩)
        (first
          | (go_at_call_of 59 (Value.agg #[Value.bool b, Value.slice C m k]); refine (over_rat _ (fun _ => False) _ _ na _ us _ i1.to h4.to hval hl1 hGl).mono ?_; rintro e u1 ⟨v5, rfl, h5, hb5⟩; rw [sv_dig] at h5; obtain ⟨b5, A5, m5, k5, rfl, h5⟩ := h5.op; have y5 := hb5.size; (try simp only [World.size_alloc, size_set, size_drew, size_drewN] at y5))
          | (go_at_call_of 59 (Value.agg #[Value.bool b', Value.slice C' m' k']); refine (over_rat _ (fun _ => False) _ _ nb _ vs _ i2.to h4.to hval hl2 hGl).mono ?_; rintro e u2 ⟨v6, rfl, h6, hb6⟩; rw [sv_dig] at h6; obtain ⟨b6, A6, m6, k6, rfl, h6⟩ := h6.op; have y6 := hb6.size; (try simp only [World.size_alloc, size_set, size_drew, size_drewN] at y6); obtain ⟨e4, g4, -⟩ := Loc.all L4 (w' := u2)))
      all_goals
        rw [HF.out.1] at h5
        rw [HF.out.2] at h6
        go_wp2_with fail
        refine bodyPost_ret (by simp [results, Try.results15, go_sem, e4, g4] <;> rfl) rfl ⟨_, rfl, RatV.of h5.out h6.out, bel⟩
end Go.Proofs.Ytooheapikhdllaa

/- Fractions of at most k words in each part; Clean, Of, Sign, Neg, Floor. -/
namespace Go.Proofs.Ytooheapikhdllaa
open Go.RowKit
attribute [local go_sem ↓] Go.wp_at_zero Go.wp_at_succ

/-- v is a fraction as it lies, with the value q and at most k words in each part. -/
def RatL (k : Nat) (w : World) (X : Nat → Prop) (v : Value) (q : Rat) : Prop := ∃ n1 xs n2 ys, RatR w X v n1 xs n2 ys ∧ xs.length ≤ k ∧ ys.length ≤ k ∧ rv n1 xs n2 ys = q
/-- A fraction's canonical form has at most k words in each part. -/
def Rsz (k : Nat) (q : Rat) : Prop := (dig q.num.natAbs).length ≤ k ∧ (dig (q.den : Int).natAbs).length ≤ k

section
variable {X Y : Nat → Prop} {w w' : World} {v : Value} {q : Rat} {k j : Nat}
theorem RatV.len (h : RatV w X v q) (hk : Rsz k q) : RatL k w X v q := ⟨_, _, _, _, h, hk.1, hk.2, rv_canon q⟩
theorem RatL.mono (h : RatL k w X v q) (hj : k ≤ j) : RatL j w X v q := let ⟨a, b, c, d, r, h1, h2, e⟩ := h; ⟨a, b, c, d, r, Nat.le_trans h1 hj, Nat.le_trans h2 hj, e⟩
theorem Rsz.mono (h : Rsz k q) (hj : k ≤ j) : Rsz j q := ⟨Nat.le_trans h.1 hj, Nat.le_trans h.2 hj⟩
theorem RatL.keep (h : RatL k w X v q) (hk : Keep X w w') : RatL k w' X v q := let ⟨a, b, c, d, r, h1⟩ := h; ⟨a, b, c, d, r.keep hk, h1⟩
theorem RatL.weak (h : RatL k w X v q) (hY : ∀ b, b < w.heap.size → Y b → X b) : RatL k w Y v q := let ⟨a, b, c, d, r, h1⟩ := h; ⟨a, b, c, d, r.weak hY, h1⟩
theorem RatL.below (h : RatL k w X v q) (hk : Below w.heap.size w w') : RatL k w' X v q := h.keep (.of_below hk)
theorem RatL.op (h : RatL k w X v q) : ∃ (n1 : Bool) (A : Option Addr) (m c : Nat) (n2 : Bool) (B : Option Addr) (m' d : Nat), v = .agg #[.bool n1, .slice A m c, .bool n2, .slice B m' d] ∧
    RatL k w X (.agg #[.bool n1, .slice A m c, .bool n2, .slice B m' d]) q ∧ ∃ xs ys, IntR w X (.agg #[.bool n1, .slice A m c]) n1 xs ∧ IntR w X (.agg #[.bool n2, .slice B m' d]) n2 ys ∧ xs.length ≤ k ∧ ys.length ≤ k ∧ Hid (rv n1 xs n2 ys = q) := by
  have h0 := h
  obtain ⟨n1, xs, n2, ys, ⟨A, c, B, d, rfl, i1, i2⟩, l1, l2, e⟩ := h
  exact ⟨n1, A, _, c, n2, B, _, d, rfl, h0, xs, ys, i1, i2, l1, l2, e⟩
theorem RatL.to (h : RatL k w X v q)
    (k' : Keep X w w' := by
      repeat (first
        | (with_reducible exact Keep.refl _ _) | (with_reducible refine Keep.drew ?_) | (with_reducible refine Keep.alloc ?_ _) | (with_reducible refine Keep.drewN ?_)
        | (with_reducible refine Keep.set ?_ ?_ _; rotate_left; (first | (right; simp only [World.size_alloc, size_set, size_drew, size_drewN]; omega) | (right; omega) | (left; simp only [Old, World.size_alloc, size_set, size_drew, size_drewN]; omega) | (left; dsimp only; omega)))
        | (with_reducible refine Keep.on ?_ (by assumption)))
      fail_if_success exfalso) : RatL k w' (fun _ => False) v q := (h.keep k').weak (fun _ _ h => h.elim)
end

theorem divInt_num_le (n d : Int) : (Rat.divInt n d).num.natAbs ≤ n.natAbs := by
  rw [Rat.num_divInt]
  refine Nat.le_trans (Int.natAbs_ediv_le_natAbs _ _) ?_
  rw [Int.natAbs_mul]
  rcases sign_cases d with ⟨_, h⟩ | ⟨_, h⟩ | ⟨_, h⟩ <;> rw [h] <;> simp
theorem divInt_den_le (n d : Int) : (Rat.divInt n d).den ≤ if d = 0 then 1 else d.natAbs := by
  rw [Rat.den_divInt]
  split
  · exact Nat.le_refl _
  · exact Nat.div_le_self _ _
theorem dig_one_len : (dig 1).length ≤ 1 := dig_len_le (by decide)
theorem divInt_Rsz {n d : Int} {k : Nat} (hk : 1 ≤ k) (hn : (dig n.natAbs).length ≤ k) (hd : (dig d.natAbs).length ≤ k) : Rsz k (Rat.divInt n d) := by
  refine ⟨Nat.le_trans (dig_len_mono (divInt_num_le n d)) hn, ?_⟩
  rw [Int.natAbs_natCast]
  refine Nat.le_trans (dig_len_mono (divInt_den_le n d)) ?_
  split
  · exact Nat.le_trans dig_one_len hk
  · exact hd
theorem rv_Rsz {n1 n2 : Bool} {xs ys : List Nat} {k : Nat} (hk : 1 ≤ k) (hx : Ws xs) (hy : Ws ys) (lx : xs.length ≤ k) (ly : ys.length ≤ k) : Rsz k (rv n1 xs n2 ys) :=
  divInt_Rsz hk (Nat.le_trans (sv_len n1 xs hx) lx) (Nat.le_trans (sv_len n2 ys hy) ly)
theorem RatL.rsz {X : Nat → Prop} {w : World} {v : Value} {q : Rat} {k : Nat} (h : RatL k w X v q) (hk : 1 ≤ k) : Rsz k q := by
  obtain ⟨n1, xs, n2, ys, ⟨A, c, B, d, rfl, i1, i2⟩, l1, l2, rfl⟩ := h
  exact rv_Rsz hk i1.ws i2.ws l1 l2
theorem len_mulI {a b : Int} {j k : Nat} (ha : (dig a.natAbs).length ≤ j) (hb : (dig b.natAbs).length ≤ k) : (dig (a * b).natAbs).length ≤ j + k := by
  have h := len_mul (ws_dig a.natAbs) (ws_dig b.natAbs)
  rw [val_dig, val_dig, ← Int.natAbs_mul] at h
  omega
theorem Rsz.one {q : Rat} {k : Nat} (h : Rsz k q) : 1 ≤ k := by
  have h1 := h.2
  have := dig_len_pos (q.den : Int).natAbs
  have h2 : 0 < (q.den : Int).natAbs := by have := q.den_nz; omega
  omega
theorem Rsz.mul {x y : Rat} {j k : Nat} (hx : Rsz j x) (hy : Rsz k y) : Rsz (j + k) (x * y) := by
  rw [← rat_mul]; exact divInt_Rsz (by have := hx.one; omega) (len_mulI hx.1 hy.1) (len_mulI hx.2 hy.2)
theorem len_addI {a b : Int} {k : Nat} (ha : (dig a.natAbs).length ≤ k) (hb : (dig b.natAbs).length ≤ k) : (dig (a + b).natAbs).length ≤ k + 1 := by
  have h := sub_len a (-b) k ha (by rw [Int.natAbs_neg]; exact hb)
  rwa [Int.sub_neg] at h
theorem Rsz.add {x y : Rat} {j k : Nat} (hx : Rsz j x) (hy : Rsz k y) : Rsz (j + k + 1) (x + y) := by
  rw [← rat_add]
  exact divInt_Rsz (by omega) (len_addI (len_mulI hx.1 hy.2) (by have := len_mulI hy.1 hx.2; omega)) (by have := len_mulI hx.2 hy.2; omega)
theorem Rsz.neg {x : Rat} {k : Nat} (hx : Rsz k x) : Rsz k (-x) := ⟨by rw [Rat.neg_num, Int.natAbs_neg]; exact hx.1, by rw [Rat.neg_den]; exact hx.2⟩
theorem Rsz.div {x y : Rat} {j k : Nat} (hx : Rsz j x) (hy : Rsz k y) : Rsz (j + k) (x / y) := by
  rw [← rat_div]; exact divInt_Rsz (by have := hx.one; omega) (len_mulI hx.1 hy.2) (len_mulI hx.2 hy.1)

set_option maxHeartbeats 2000000 in
theorem clean_rat (w : World) (X : Nat → Prop) (v : Value) (q : Rat) (h : RatL 100000000 w X v q) :
    Calls Try.prog 35 #[v] w fun e w' => ∃ v', e = .returned v' ∧ RatV w' (Old w) v' q ∧ Below w.heap.size w w' := by
  obtain ⟨n1, A, m, c, n2, B, m', d, rfl, -, xs, ys, i1, i2, l1, l2, HE⟩ := h.op
  clear h
  by_cases hz : val ys = 0
  · have hq0 : q = 0 := by rw [← HE.out]; unfold rv; rw [(sv_zero_iff n2 ys).2 hz, Rat.divInt_zero]
    subst hq0
    go_enter Try.func35, Try.ntmps35
    go_wp2_with fail
    refine (new_zero _ (fun _ => False) _ _ n1 n2 xs ys i1.to i2.to hz).mono ?_
    rintro e w1 ⟨rfl, hb1⟩
    obtain ⟨z1, z2⟩ := sz2 hb1
    go_wp2_with fail
    refine (zero_rat _).mono ?_
    rintro e w2 ⟨v2, rfl, h2, hb2⟩
    obtain ⟨b2, A2, m2, c2, b3, A3, m3, c3, rfl, h2, -, -⟩ := h2.op
    have y2 := hb2.size; (try simp only [World.size_alloc, size_set, size_drew, size_drewN] at y2)
    obtain ⟨e4, g4, -⟩ := (made2 w _ #[.bool false, .slice none 0 0, .bool false, .slice none 0 0] 27).all (w' := w2)
    go_wp2_with fail
    refine bodyPost_ret (by simp [results, Try.results35, go_sem, e4, g4] <;> rfl) rfl ⟨_, rfl, h2.out, bel⟩
  · go_enter Try.func35, Try.ntmps35
    go_wp2_with fail
    refine (new_any _ (fun _ => False) _ _ n1 n2 xs ys i1.to i2.to hz (by omega) (by omega)).mono ?_
    rintro e w1 ⟨v2, rfl, h2, hb1⟩
    have hq : Rat.divInt (sv n1 xs) (sv n2 ys) = q := HE.out
    rw [hq] at h2
    clear hq
    obtain ⟨z1, z2⟩ := sz2 hb1
    obtain ⟨b2, A2, m2, c2, b3, A3, m3, c3, rfl, h2, -, -⟩ := h2.op
    obtain ⟨e4, g4, -⟩ := (made2 w _ #[.bool false, .slice none 0 0, .bool false, .slice none 0 0] 27).all (w' := w1)
    go_wp2_with fail
    refine bodyPost_ret (by simp [results, Try.results35, go_sem, e4, g4, z1, z2] <;> rfl) rfl ⟨_, rfl, h2.out, bel⟩

set_option maxHeartbeats 2000000 in
theorem ratof_zero (w : World) (n : Int) (h0 : -9223372036854775808 ≤ n) (h1 : n ≤ 9223372036854775807) :
    Calls Try.prog 18 #[.int .i64 n, .int .i64 0] w fun e w' => e = .returned (.tuple #[.agg #[.bool false, .slice none 0 0, .bool false, .slice none 0 0], .int .i64 3]) ∧ Below w.heap.size w w' := by
  go_enter Try.func18, Try.ntmps18
  go_wp2_with fail
  refine (of_any _ n h0 h1).mono ?_
  rintro e w1 ⟨v1, rfl, i1, hb1⟩
  obtain ⟨b1, A1, m1, c1, rfl, i1⟩ := i1.op
  have z1 := sz1 hb1
  go_wp2_with fail
  refine (of_any _ 0 (by decide) (by decide)).mono ?_
  rintro e w2 ⟨v2, rfl, i2, hb2⟩
  obtain ⟨b2, A2, m2, c2, rfl, i2⟩ := i2.op
  have y2 := hb2.size; (try simp only [World.size_alloc, size_set, size_drew, size_drewN] at y2)
  go_wp2_with fail
  refine (new_zero _ (fun _ => False) _ _ _ _ _ _ i1.to i2.to (by rw [val_dig]; rfl)).mono ?_
  rintro e w3 ⟨rfl, hb3⟩
  have y3 := hb3.size; (try simp only [World.size_alloc, size_set, size_drew, size_drewN] at y3)
  obtain ⟨e4, g4, -⟩ := (made1 w #[.bool false, .slice none 0 0, .bool false, .slice none 0 0] 27).all (w' := w3)
  go_wp2_with fail
  refine bodyPost_ret (by simp [results, Try.results18, go_sem, e4, g4] <;> rfl) rfl ⟨rfl, bel⟩

theorem dig_i64 (n : Int) (h0 : -9223372036854775808 ≤ n) (h1 : n ≤ 9223372036854775807) : (dig n.natAbs).length ≤ 2 := dig_len_le (by omega)

set_option maxHeartbeats 2000000 in
theorem ratof_any (w : World) (n d : Int) (hd : d ≠ 0) (h0 : -9223372036854775808 ≤ n) (h1 : n ≤ 9223372036854775807) (h2 : -9223372036854775808 ≤ d) (h3 : d ≤ 9223372036854775807) :
    Calls Try.prog 18 #[.int .i64 n, .int .i64 d] w fun e w' => ∃ v', e = .returned (.tuple #[v', .int .i64 0]) ∧ RatV w' (Old w) v' (Rat.divInt n d) ∧ Below w.heap.size w w' := by
  have HN := Lib.hid (dig_i64 n h0 h1)
  have HD := Lib.hid (dig_i64 d h2 h3)
  go_enter Try.func18, Try.ntmps18
  go_wp2_with fail
  refine (of_any _ n h0 h1).mono ?_
  rintro e w1 ⟨v1, rfl, i1, hb1⟩
  obtain ⟨b1, A1, m1, c1, rfl, i1⟩ := i1.op
  have z1 := sz1 hb1
  go_wp2_with fail
  refine (of_any _ d h2 h3).mono ?_
  rintro e w2 ⟨v2, rfl, i2, hb2⟩
  obtain ⟨b2, A2, m2, c2, rfl, i2⟩ := i2.op
  have y2 := hb2.size; (try simp only [World.size_alloc, size_set, size_drew, size_drewN] at y2)
  go_wp2_with fail
  refine (new_any _ (fun _ => False) _ _ _ _ _ _ i1.to i2.to (by rw [val_dig]; omega) (Nat.le_trans HN.out (by omega)) (Nat.le_trans HD.out (by omega))).mono ?_
  rintro e w3 ⟨v3, rfl, h3, hb3⟩
  rw [sv_dig, sv_dig] at h3
  have y3 := hb3.size; (try simp only [World.size_alloc, size_set, size_drew, size_drewN] at y3)
  obtain ⟨b2, A2, m2, c2, b3, A3, m3, c3, rfl, h3, -, -⟩ := h3.op
  obtain ⟨e4, g4, -⟩ := (made1 w #[.bool false, .slice none 0 0, .bool false, .slice none 0 0] 27).all (w' := w3)
  go_wp2_with fail
  refine bodyPost_ret (by simp [results, Try.results18, go_sem, e4, g4] <;> rfl) rfl ⟨_, rfl, h3.out, bel⟩
end Go.Proofs.Ytooheapikhdllaa

/- Sign, Neg, Floor of rational. -/
namespace Go.Proofs.Ytooheapikhdllaa
open Go.RowKit
attribute [local go_sem ↓] Go.wp_at_zero Go.wp_at_succ

theorem divInt_sign2 (n d : Int) : (Rat.divInt n d).num.sign = n.sign * d.sign := by
  rcases sign_cases d with ⟨h, e⟩ | ⟨h, e⟩ | ⟨h, e⟩
  · rw [e, ← Rat.neg_divInt_neg, divInt_sign _ _ (by omega), Int.sign_neg]; omega
  · rw [e, h, Rat.divInt_zero, Int.mul_zero]; rfl
  · rw [e, divInt_sign _ _ (by omega), Int.mul_one]

set_option maxHeartbeats 2000000 in
theorem sign_rat (w : World) (X : Nat → Prop) (k : Nat) (v : Value) (q : Rat) (h : RatL k w X v q) :
    Calls Try.prog 32 #[v] w fun e w' => e = .returned (.int .i64 q.num.sign) ∧ Below w.heap.size w w' := by
  obtain ⟨n1, A, m, c, n2, B, m', d, rfl, -, xs, ys, i1, i2, l1, l2, HE⟩ := h.op
  have hq : q.num.sign = (sv n1 xs).sign * (sv n2 ys).sign := by rw [← divInt_sign2, ← HE.out]; rfl
  obtain ⟨s1, hs1⟩ : ∃ s, (sv n1 xs).sign = s := ⟨_, rfl⟩
  obtain ⟨s2, hs2⟩ : ∃ s, (sv n2 ys).sign = s := ⟨_, rfl⟩
  rw [hs1, hs2] at hq
  have hP : -1 ≤ s1 * s2 ∧ s1 * s2 ≤ 1 := by
    rw [← hq]; rcases sign_cases q.num with ⟨_, h⟩ | ⟨_, h⟩ | ⟨_, h⟩ <;> omega
  have hw : IntKind.i64.wrap (s1 * s2) = s1 * s2 := by rw [IntKind.wrap_i64]; omega
  have HS1 := Lib.hid hs1
  have HS2 := Lib.hid hs2
  have HQ := Lib.hid hq
  clear hs1 hs2 hq h hP
  rw [HQ.out]
  go_enter Try.func32, Try.ntmps32
  go_wp2_with fail
  have L1 := made1 w #[.bool n1, .slice A m c, .bool n2, .slice B m' d] 27
  go_region_held3 (fun W => (W.cell? ⟨w.heap.size, 0, none⟩ = some (.bool n1) ∧ W.cell? ⟨w.heap.size, 1, none⟩ = some (.slice A m c)) ∧ W.cell? ⟨w.heap.size, 2, none⟩ = some (.bool n2) ∧ W.cell? ⟨w.heap.size, 3, none⟩ = some (.slice B m' d))
    (exact ⟨⟨Loc.c 0 L1, Loc.c 1 L1⟩, Loc.c 2 L1, Loc.c 3 L1⟩)
    (first
      | (go_at_call_of 55 (Value.agg #[Value.bool n1, Value.slice A m c]); refine (sign_any _ (fun _ => False) _ n1 xs i1.to).mono ?_; rintro e u1 ⟨he, hb1⟩; rw [HS1.out] at he; subst he; have y1 := hb1.size; (try simp only [World.size_alloc, size_set, size_drew, size_drewN] at y1))
      | (go_at_call_of 55 (Value.agg #[Value.bool n2, Value.slice B m' d]); refine (sign_any _ (fun _ => False) _ n2 ys i2.to).mono ?_; rintro e u2 ⟨he, hb2⟩; rw [HS2.out] at he; subst he; have y2 := hb2.size; (try simp only [World.size_alloc, size_set, size_drew, size_drewN] at y2)))
  all_goals
    go_wp2_with fail
    go_ret
    exact ⟨rfl, bel⟩

set_option maxHeartbeats 2000000 in
theorem neg_rat (w : World) (X : Nat → Prop) (v : Value) (q : Rat) (h : RatL 100000000 w X v q) :
    Calls Try.prog 45 #[v] w fun e w' => ∃ v', e = .returned v' ∧ RatV w' (Old w) v' (-q) ∧ Below w.heap.size w w' := by
  obtain ⟨n1, A, m, c, n2, B, m', d, rfl, h, xs, ys, -, -, l1, l2, HE⟩ := h.op
  have HR := Lib.hid (h.rsz (by omega))
  go_enter Try.func45, Try.ntmps45
  go_wp2_with fail
  refine (clean_rat _ (fun _ => False) _ q h.to).mono ?_
  rintro e w1 ⟨v1, rfl, h1, hb1⟩
  obtain ⟨b2, A2, m2, c2, b3, A3, m3, c3, rfl, h1, j1, j2⟩ := h1.op
  obtain ⟨z1, z2⟩ := sz2 hb1
  have L0 := made1 w #[.bool n1, .slice A m c, .bool n2, .slice B m' d] 27
  have L5 := made2 w (.cells #[.bool n1, .slice A m c, .bool n2, .slice B m' d] 27) #[.bool false, .slice none 0 0, .bool false, .slice none 0 0] 27
  obtain ⟨e4, g4, -⟩ := L0.all (w' := w1)
  go_wp2_with fail
  have L1 := Loc.fill4 (u := .bool b2) (v := .slice A2 m2 c2) (x := .bool b3) (y := .slice A3 m3 c3) (L0.to (w' := w1))
  go_region_held3 (fun W => (W.cell? ⟨w.heap.size, 0, none⟩ = some (.bool b2) ∧ W.cell? ⟨w.heap.size, 1, none⟩ = some (.slice A2 m2 c2)) ∧ W.cell? ⟨w.heap.size, 2, none⟩ = some (.bool b3) ∧ W.cell? ⟨w.heap.size, 3, none⟩ = some (.slice A3 m3 c3))
    (exact ⟨⟨Loc.c 0 L1, Loc.c 1 L1⟩, Loc.c 2 L1, Loc.c 3 L1⟩)
    ((go_at_call 57; refine (neg_any _ (fun _ => False) _ _ _ j1.to (Nat.le_trans HR.out.1 (by omega))).mono ?_; rintro e u1 ⟨v5, rfl, h5, hb5⟩; rw [sv_dig] at h5; obtain ⟨b5, A5, m5, k5, rfl, h5⟩ := h5.op; have y5 := hb5.size; (try simp only [World.size_alloc, size_set, size_drew, size_drewN] at y5); obtain ⟨e5, g5, -⟩ := L5.all (w' := u1)))
  all_goals
    go_wp2_with fail
    refine bodyPost_ret (by simp [results, Try.results45, go_sem, e5, g5] <;> rfl) rfl ⟨_, rfl, ?_, bel⟩
    refine RatV.of (q := -q) ?_ ?_
    · rw [Rat.neg_num]; exact h5.out
    · rw [Rat.neg_den]; exact j2.out

set_option maxHeartbeats 2000000 in
theorem floor_rat (w : World) (X : Nat → Prop) (v : Value) (q : Rat) (h : RatL 100000000 w X v q) :
    Calls Try.prog 38 #[v] w fun e w' => ∃ v', e = .returned v' ∧ IntV w' (Old w) v' q.floor ∧ Below w.heap.size w w' := by
  obtain ⟨n1, A, m, c, n2, B, m', d, rfl, h, xs, ys, -, -, l1, l2, HE⟩ := h.op
  have HR := Lib.hid (h.rsz (by omega))
  go_enter Try.func38, Try.ntmps38
  go_wp2_with fail
  refine (clean_rat _ (fun _ => False) _ q h.to).mono ?_
  rintro e w1 ⟨v1, rfl, h1, hb1⟩
  obtain ⟨b2, A2, m2, c2, b3, A3, m3, c3, rfl, h1, j1, j2⟩ := h1.op
  obtain ⟨z1, z2⟩ := sz2 hb1
  have L0 := made1 w #[.bool n1, .slice A m c, .bool n2, .slice B m' d] 27
  have L5 := made2 w (.cells #[.bool n1, .slice A m c, .bool n2, .slice B m' d] 27) #[.bool false, .slice none 0 0] 24
  obtain ⟨e4, g4, -⟩ := L0.all (w' := w1)
  go_wp2_with fail
  refine (over_rat _ (fun _ => False) _ _ _ _ _ _ j1.to j2.to (by rw [val_dig, Int.natAbs_natCast]; exact q.den_nz) HR.out.1 HR.out.2).mono ?_
  rintro e w2 ⟨v2, rfl, h2, hb2⟩
  rw [sv_dig, sv_dig, rat_floor] at h2
  obtain ⟨b5, A5, m5, k5, rfl, h2⟩ := h2.op
  have y5 := hb2.size; (try simp only [World.size_alloc, size_set, size_drew, size_drewN] at y5)
  obtain ⟨e5, g5, -⟩ := L5.all (w' := w2)
  go_wp2_with fail
  refine bodyPost_ret (by simp [results, Try.results38, go_sem, e5, g5] <;> rfl) rfl ⟨_, rfl, h2.out, bel⟩
end Go.Proofs.Ytooheapikhdllaa

/- Add of rational; printed by gen_rat5.py. -/
namespace Go.Proofs.Ytooheapikhdllaa
open Go.RowKit
attribute [local go_sem ↓] Go.wp_at_zero Go.wp_at_succ

set_option maxHeartbeats 4000000 in
theorem add_rat (w : World) (X : Nat → Prop) (v1 v2 : Value) (x y : Rat) (h1 : RatL 10000000 w X v1 x) (h2 : RatL 10000000 w X v2 y) :
    Calls Try.prog 34 #[v1, v2] w fun e w' => ∃ v', e = .returned v' ∧ RatV w' (Old w) v' (x + y) ∧ Below w.heap.size w w' := by
  have HX := Lib.hid (h1.rsz (by omega))
  have HY := Lib.hid (h2.rsz (by omega))
  obtain ⟨n1, A, m, c, n2, B, m', d, rfl, h1, -⟩ := h1.op
  obtain ⟨o1, C, p, e, o2, D, p', f, rfl, h2, -⟩ := h2.op
  go_enter Try.func34, Try.ntmps34
  go_upto_region 2 with fail
  go_cut [0] (fun _ W => ∃ (n1 : Bool) (A : Option Addr) (m c : Nat) (n2 : Bool) (B : Option Addr) (m' d : Nat) (o1 : Bool) (C : Option Addr) (p e : Nat) (o2 : Bool) (D : Option Addr) (p' f : Nat),
      Loc W w.heap.size 27 #[.bool n1, .slice A m c, .bool n2, .slice B m' d] ∧ Loc W (w.heap.size + 1) 27 #[.bool o1, .slice C p e, .bool o2, .slice D p' f] ∧ Loc W (w.heap.size + 1 + 1) 27 #[.bool false, .slice none 0 0, .bool false, .slice none 0 0] ∧
      RatV W (fun b => w.heap.size ≤ b ∧ b < w.heap.size + 3) (.agg #[.bool n1, .slice A m c, .bool n2, .slice B m' d]) x ∧ RatV W (fun b => w.heap.size ≤ b ∧ b < w.heap.size + 3) (.agg #[.bool o1, .slice C p e, .bool o2, .slice D p' f]) y ∧ Below w.heap.size w W)
  case first =>
    have N1 := made1 w #[.bool n1, .slice A m c, .bool n2, .slice B m' d] 27
    have N2 := made2 w (.cells #[.bool n1, .slice A m c, .bool n2, .slice B m' d] 27) #[.bool o1, .slice C p e, .bool o2, .slice D p' f] 27
    go_wp2_with fail
    obtain ⟨c5, f5, -⟩ := N1.all (w' := (((w.alloc (.cells #[.bool n1, .slice A m c, .bool n2, .slice B m' d] 27)).alloc (.cells #[.bool o1, .slice C p e, .bool o2, .slice D p' f] 27)).alloc (.cells #[.bool false, .slice none 0 0, .bool false, .slice none 0 0] 27)).drew)
    obtain ⟨c6, f6, -⟩ := N2.all (w' := (((w.alloc (.cells #[.bool n1, .slice A m c, .bool n2, .slice B m' d] 27)).alloc (.cells #[.bool o1, .slice C p e, .bool o2, .slice D p' f] 27)).alloc (.cells #[.bool false, .slice none 0 0, .bool false, .slice none 0 0] 27)).drew)
    go_region_with (first
      | (go_at_call_of 35 (Value.agg #[Value.bool n1, Value.slice A m c, Value.bool n2, Value.slice B m' d]); refine (clean_rat _ (fun _ => False) _ x (h1.mono (by omega)).to).mono ?_; rintro e u1 ⟨v5, rfl, h5, hb5⟩; obtain ⟨b5, A5, m5, k5, b5', A5', m5', k5', rfl, h5, -, -⟩ := h5.op; have y5 := hb5.size; (try simp only [World.size_alloc, size_set, size_drew, size_drewN] at y5); obtain ⟨c6, f6, -⟩ := N2.all (w' := u1))
      | (go_at_call_of 35 (Value.agg #[Value.bool o1, Value.slice C p e, Value.bool o2, Value.slice D p' f]); refine (clean_rat _ (fun _ => False) _ y (h2.mono (by omega)).to).mono ?_; rintro e u2 ⟨v6, rfl, h6, hb6⟩; obtain ⟨b6, A6, m6, k6, b6', A6', m6', k6', rfl, h6, -, -⟩ := h6.op; have y6 := hb6.size; (try simp only [World.size_alloc, size_set, size_drew, size_drewN] at y6); obtain ⟨c7, f7, -⟩ := N1.all (w' := u2); obtain ⟨c8, f8, -⟩ := N2.all (w' := u2)))
    all_goals
      go_wp2_with fail
      go_meet
      have L1 := N1.to (w' := u2)
      have L2 := N2.to (w' := u2)
      have e12 : w.heap.size ≠ w.heap.size + 1 := by omega
      have e21 : w.heap.size + 1 ≠ w.heap.size := by omega
      exact ⟨_, _, _, _, _, _, _, _, _, _, _, _, _, _, _, _, (by first | with_reducible exact Loc.two4_first e12 L1 | with_reducible exact Loc.two4_last e12 L1), (by first | with_reducible exact Loc.two4_first e21 L2 | with_reducible exact Loc.two4_last e21 L2), (made3 w _ _ _ _).to, RatV.out h5, RatV.out h6, bel⟩
  case rest =>
    clear h1 h2
    obtain ⟨n1, A, m, c, n2, B, m', d, o1, C, p, e, o2, D, p', f, L1, L2, L3, h1, h2, hB⟩ := hcut
    obtain ⟨_, _, _, _, _, _, _, _, e1, h1, i1, i2⟩ := h1.op
    simp only [Value.agg.injEq, Array.mk.injEq, List.cons.injEq, Value.bool.injEq, Value.slice.injEq, and_true] at e1
    obtain ⟨rfl, ⟨rfl, rfl, rfl⟩, rfl, ⟨rfl, rfl, rfl⟩⟩ := e1
    obtain ⟨_, _, _, _, _, _, _, _, e1, h2, j1, j2⟩ := h2.op
    simp only [Value.agg.injEq, Array.mk.injEq, List.cons.injEq, Value.bool.injEq, Value.slice.injEq, and_true] at e1
    obtain ⟨rfl, ⟨rfl, rfl, rfl⟩, rfl, ⟨rfl, rfl, rfl⟩⟩ := e1
    have z1 := L1.lt
    have z2 := L2.lt
    have z3 := L3.lt
    go_wp2_with fail
    have HA := Lib.hid (len_mulI HX.out.1 HY.out.2)
    have HB := Lib.hid (len_mulI HY.out.1 HX.out.2)
    have HS := Lib.hid (len_addI HA.out (Nat.le_trans HB.out (by omega)))
    have HD := Lib.hid (len_mulI HX.out.2 HY.out.2)
    clear z1 z2 z3
    obtain ⟨w5, rfl⟩ : ∃ w5 : World, w5 = wc := ⟨wc, rfl⟩
    go_upto_region 3 with fail
    go_cut [5] (fun v W => ∃ (g : Nat) (b : Bool) (E : Option Addr) (r s : Nat), v = .pointer (some ⟨g, 0, none⟩) ∧ w.heap.size + 2 < g ∧ Loc W g 24 #[.bool b, .slice E r s] ∧ IntV W (fun b => w.heap.size ≤ b ∧ b < w.heap.size + 3) (.agg #[.bool b, .slice E r s]) (x.num * (y.den : Int) + y.num * (x.den : Int)) ∧ Below w5.heap.size w5 W)
    case first =>
      have z1 := Loc.lt L1
      have z2 := Loc.lt L2
      have z3 := Loc.lt L3
      go_wp2_with fail
      go_region_held3 (fun W => ((W.cell? ⟨w.heap.size, 0, none⟩ = some (.bool n1) ∧ W.cell? ⟨w.heap.size, 1, none⟩ = some (.slice A m c)) ∧ W.cell? ⟨w.heap.size, 2, none⟩ = some (.bool n2) ∧ W.cell? ⟨w.heap.size, 3, none⟩ = some (.slice B m' d)) ∧ (W.cell? ⟨w.heap.size + 1, 0, none⟩ = some (.bool o1) ∧ W.cell? ⟨w.heap.size + 1, 1, none⟩ = some (.slice C p e)) ∧ W.cell? ⟨w.heap.size + 1, 2, none⟩ = some (.bool o2) ∧ W.cell? ⟨w.heap.size + 1, 3, none⟩ = some (.slice D p' f))
        (exact ⟨⟨⟨Loc.c 0 L1, Loc.c 1 L1⟩, Loc.c 2 L1, Loc.c 3 L1⟩, ⟨Loc.c 0 L2, Loc.c 1 L2⟩, Loc.c 2 L2, Loc.c 3 L2⟩)
        (first
          | (go_at_call_of 80 (Value.agg #[Value.bool n1, Value.slice A m c]); refine (mul_any _ (fun _ => False) _ _ _ _ _ _ i1.to j2.to (Nat.le_trans HX.out.1 (by omega)) (Nat.le_trans HY.out.2 (by omega))).mono ?_; rintro e u1 ⟨w1, rfl, k1, hb1⟩; rw [sv_dig, sv_dig] at k1; obtain ⟨bw1, Aw1, mw1, kw1, rfl, k1⟩ := k1.op; have yu1 := hb1.size; (try simp only [World.size_alloc, size_set, size_drew, size_drewN] at yu1))
          | (go_at_call_of 80 (Value.agg #[Value.bool o1, Value.slice C p e]); refine (mul_any _ (fun _ => False) _ _ _ _ _ _ j1.to i2.to (Nat.le_trans HY.out.1 (by omega)) (Nat.le_trans HX.out.2 (by omega))).mono ?_; rintro e u2 ⟨w2, rfl, k2, hb2⟩; rw [sv_dig, sv_dig] at k2; obtain ⟨bw2, Aw2, mw2, kw2, rfl, k2⟩ := k2.op; have yu2 := hb2.size; (try simp only [World.size_alloc, size_set, size_drew, size_drewN] at yu2))
          | (go_at_call 81; refine (add_any _ (fun _ => False) _ _ _ _ _ _ k1.to k2.to (Nat.le_trans HA.out (by omega)) (Nat.le_trans HB.out (by omega))).mono ?_; rintro e u3 ⟨v6, rfl, k3, hb6⟩; rw [sv_dig, sv_dig] at k3; obtain ⟨b6, A6, m6, k6, rfl, k3⟩ := k3.op; have y6 := hb6.size; (try simp only [World.size_alloc, size_set, size_drew, size_drewN] at y6); (first
              | (have q := (made1 w5 #[.bool false, .slice none 0 0] 24).all (w' := u3); have h7 := (made1 w5 #[.bool false, .slice none 0 0] 24).to (w' := u3); obtain ⟨e7, g7, l7⟩ := q)
              | (have q := (made1 u1 #[.bool false, .slice none 0 0] 24).all (w' := u3); have h7 := (made1 u1 #[.bool false, .slice none 0 0] 24).to (w' := u3); obtain ⟨e7, g7, l7⟩ := q)
              | (have q := (made1 u2 #[.bool false, .slice none 0 0] 24).all (w' := u3); have h7 := (made1 u2 #[.bool false, .slice none 0 0] 24).to (w' := u3); obtain ⟨e7, g7, l7⟩ := q)
              | skip)))
      all_goals
        go_wp2_with fail
        go_meet
        first
          | (have q := Loc.fill2 (u := .bool b6) (v := .slice A6 m6 k6) h7; refine ⟨_, _, _, _, _, rfl, ?_, q, IntV.out k3, bel⟩; omega)
          | (refine ⟨_, _, _, _, _, rfl, ?_, made1 u3 _ _, IntV.out k3, bel⟩; omega)
    case rest =>
      obtain ⟨g, bg, E, r, s, rfl, hg, L5, i5, hB5⟩ := hcut
      have z1 := Loc.lt (Loc.to L1 : Loc wc _ _ _)
      have z2 := Loc.lt (Loc.to L2 : Loc wc _ _ _)
      have z3 := Loc.lt (Loc.to L3 : Loc wc _ _ _)
      have z5 := Loc.lt L5
      have y5 := hB5.size; (try simp only [World.size_alloc, size_set, size_drew, size_drewN] at y5)
      have y0 := hB.size; (try simp only [World.size_alloc, size_set, size_drew, size_drewN] at y0)
      go_wp2_with fail
      go_region_held3 (fun W => ((W.cell? ⟨w.heap.size, 2, none⟩ = some (.bool n2) ∧ W.cell? ⟨w.heap.size, 3, none⟩ = some (.slice B m' d)) ∧ (W.cell? ⟨w.heap.size + 1, 2, none⟩ = some (.bool o2) ∧ W.cell? ⟨w.heap.size + 1, 3, none⟩ = some (.slice D p' f))) ∧ W.cell? ⟨g, 0, none⟩ = some (.bool bg) ∧ W.cell? ⟨g, 1, none⟩ = some (.slice E r s))
        (exact ⟨⟨⟨Loc.c 2 L1, Loc.c 3 L1⟩, Loc.c 2 L2, Loc.c 3 L2⟩, Loc.c 0 L5, Loc.c 1 L5⟩)
        (first
          | (go_at_call_of 80 (Value.agg #[Value.bool n2, Value.slice B m' d]); refine (mul_any _ (fun _ => False) _ _ _ _ _ _ i2.to j2.to (Nat.le_trans HX.out.2 (by omega)) (Nat.le_trans HY.out.2 (by omega))).mono ?_; rintro e u1 ⟨w1, rfl, k1, hb1⟩; rw [sv_dig, sv_dig] at k1; obtain ⟨bw1, Aw1, mw1, kw1, rfl, k1⟩ := k1.op; have yu1 := hb1.size; (try simp only [World.size_alloc, size_set, size_drew, size_drewN] at yu1))
          | (go_at_call 35; refine (clean_rat _ (fun _ => False) _ (x + y) ⟨_, _, _, _, (ratR_of i5.to k1.to), Nat.le_trans HS.out (by omega), Nat.le_trans HD.out (by omega), by unfold rv; rw [sv_dig, sv_dig]; exact rat_add x y⟩).mono ?_; rintro e u2 ⟨v6, rfl, h6, hb6⟩; obtain ⟨b6, A6, m6, k6, b6', A6', m6', k6', rfl, h6, -, -⟩ := h6.op; have y6 := hb6.size; (try simp only [World.size_alloc, size_set, size_drew, size_drewN] at y6); obtain ⟨e5, g5, -⟩ := Loc.all L3 (w' := u2)))
      all_goals
        go_wp2_with fail
        refine bodyPost_ret (by simp [results, Try.results34, go_sem, e5, g5] <;> rfl) rfl ⟨_, rfl, h6.out, bel⟩
end Go.Proofs.Ytooheapikhdllaa

