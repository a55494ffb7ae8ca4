/- Contracts of the functions that the statements reach, part 5. -/
import Derived.Test.YtooheapikhdllaaRows
import Derived.Deep.QuietTactic
import Derived.BigQuiet
import Derived.RegionTactic
import Derived.BigRegion
import Derived.Deep.LoopGhost
import Derived.Deep.DeepCutAuto
import Derived.Laws.IdiomStrings
import Derived.Test.YtooheapikhdllaaM4
set_option linter.unusedSimpArgs false
set_option linter.unusedVariables false

/- Divide of the reference. -/
namespace Go.Proofs.Ytooheapikhdllaa
open Go.RowKit
attribute [local go_sem ↓] Go.wp_at_zero Go.wp_at_succ

theorem qF_ref (n1 n2 : Bool) (xs ys : List Nat) (hy : val ys ≠ 0) :
    qF (sv n1 xs) (sv n2 ys) = if (!n1 == n2) = true then (if val xs % val ys = 0 then -((val xs / val ys : Nat) : Int) else -((val xs / val ys : Nat) : Int) - 1) else ((val xs / val ys : Nat) : Int) := by
  have hyp : 0 < val ys := by omega
  unfold qF
  rw [sv_abs, sv_abs]
  rcases Nat.eq_zero_or_pos (val xs) with h0 | h0
  · have e : sv n1 xs = 0 := by unfold sv; rw [h0]; split <;> rfl
    rw [e, Int.sign_zero, Int.zero_mul, if_neg (by omega), h0, Nat.zero_div, Nat.zero_mod]
    split <;> simp
  · cases n1 <;> cases n2
    · rw [sv_false, sv_false, Int.sign_eq_one_of_pos (by omega), Int.sign_eq_one_of_pos (by omega)]; rfl
    · rw [sv_false, sv_true, Int.sign_eq_one_of_pos (by omega), Int.sign_eq_neg_one_of_neg (by omega)]; rfl
    · rw [sv_true, sv_false, Int.sign_eq_neg_one_of_neg (by omega), Int.sign_eq_one_of_pos (by omega)]; rfl
    · rw [sv_true, sv_true, Int.sign_eq_neg_one_of_neg (by omega), Int.sign_eq_neg_one_of_neg (by omega)]; rfl

set_option maxHeartbeats 2000000 in
theorem rdivide_zero (w : World) (X : Nat → Prop) (v1 v2 : Value) (n1 n2 : Bool) (xs ys : List Nat) (h1 : IntR w X v1 n1 xs) (h2 : IntR w X v2 n2 ys) (hz : val ys = 0) (hs1 : xs.length ≤ 100000000) (hs2 : ys.length ≤ 100000000) :
    Calls Try.prog 65 #[v1, v2] w fun e w' => e = .returned (.tuple #[.agg #[.bool false, .slice none 0 0], .agg #[.bool false, .slice none 0 0], .int .i64 1]) ∧ Below w.heap.size w w' := by
  obtain ⟨A, c, rfl, _, _, H1⟩ := h1.open_
  obtain ⟨B, d, rfl, _, _, H2⟩ := h2.open_
  have ht := trimL_dig H2.2
  rw [hz, dig_zero] at ht
  have HT := Lib.hid ht
  clear ht hz
  go_enter Try.func65, Try.ntmps65
  go_wp2_with fail
  obtain ⟨L2, L3, L4, L5, hB0, hsz0⟩ := locs4 (Below.refl _ ((((w.alloc (.cells #[.bool n1, .slice A xs.length c] 24)).alloc (.cells #[.bool n2, .slice B ys.length d] 24)).alloc (.cells #[.bool false, .slice none 0 0] 24)).alloc (.cells #[.bool false, .slice none 0 0] 24)))
  have K1 := (H1.weak (Y := fun _ => False) (fun _ _ h => h.elim)).below hB0
  have K2 := (H2.weak (Y := fun _ => False) (fun _ _ h => h.elim)).below hB0
  clear H1 H2 h1 h2
  generalize ((((w.alloc (.cells #[.bool n1, .slice A xs.length c] 24)).alloc (.cells #[.bool n2, .slice B ys.length d] 24)).alloc (.cells #[.bool false, .slice none 0 0] 24)).alloc (.cells #[.bool false, .slice none 0 0] 24)) = w0 at *
  have KS : Hid (∀ W, Below (w.heap.size + 2) w0 W → Loc W w.heap.size 24 #[.bool n1, .slice A xs.length c] ∧ Loc W (w.heap.size + 1) 24 #[.bool n2, .slice B ys.length d]) := fun W hW => ⟨L2.below' hW (by omega), L3.below' hW (by omega)⟩
  go_region_held3 (fun w' => (w'.cell? ⟨w.heap.size, 0, none⟩ = some (.bool n1) ∧ w'.cell? ⟨w.heap.size, 1, none⟩ = some (.slice A xs.length c)) ∧ w'.cell? ⟨w.heap.size + 1, 0, none⟩ = some (.bool n2) ∧ w'.cell? ⟨w.heap.size + 1, 1, none⟩ = some (.slice B ys.length d))
    (first | exact cells_of (KS.out _ (k2.mono (by omega))) | exact cells_of (KS.out _ (k1.mono (by omega))) | exact cells_of (KS.out _ (Below.refl _ _).drew) | go_keep)
    (first
      | (go_at_call_of 95 (Value.slice A xs.length c); refine (rtrim_any _ (fun _ => False) (.slice A xs.length c) xs (K1.below (Below.refl _ _).drew) (by omega)).mono ?_; rintro e wa ⟨va, rfl, ha, hka⟩; have k1 := below_undrew hka)
      | (go_at_call_of 95 (Value.slice B ys.length d); refine (rtrim_any _ (fun _ => False) (.slice B ys.length d) ys (K2.below k1) (by omega)).mono ?_; rintro e wb ⟨vb, rfl, hb, hkb⟩; have k2 := k1.trans (hkb.mono k1.size); rw [HT.out] at hb; obtain ⟨Ab, cb, rfl, _, _, hb⟩ := hb.open_; rw [List.length_nil] at *))
  all_goals
    have N4 := L4.below k2
    have N5 := L5.below k2
    have hk2 := k2.size
    have c4 := N4.cell
    have f4 := N4.frz
    have c5 := N5.cell
    have f5 := N5.frz
    have R4 := fill_box (u := .bool false) (v := .slice none 0 0) N4
    have R5 := fill_box (u := .bool false) (v := .slice none 0 0) (R4.2 N5 (by omega))
    have hB8 := ((((hB0.trans (k2.mono (by omega))).setCell (p := ⟨w.heap.size + 1 + 1, 0, none⟩) (by show w.heap.size ≤ w.heap.size + 1 + 1; omega) (.bool false)).setCell (p := ⟨w.heap.size + 1 + 1, 1, none⟩) (by show w.heap.size ≤ w.heap.size + 1 + 1; omega) (.slice none 0 0)).setCell (p := ⟨w.heap.size + 1 + 1 + 1, 0, none⟩) (by show w.heap.size ≤ w.heap.size + 1 + 1 + 1; omega) (.bool false)).setCell (p := ⟨w.heap.size + 1 + 1 + 1, 1, none⟩) (by show w.heap.size ≤ w.heap.size + 1 + 1 + 1; omega) (.slice none 0 0)
    have cc := R5.1.cell
    have cd := (R5.2 R4.1 (by omega)).cell
    clear KS R4 R5
    go_wp2_with fail
    refine bodyPost_ret (by simp [results, Try.results65, go_sem, cc, cd] <;> rfl) rfl ⟨rfl, hB8⟩

set_option maxHeartbeats 2000000 in
theorem rdivide_any (w : World) (X : Nat → Prop) (v1 v2 : Value) (n1 n2 : Bool) (xs ys : List Nat) (h1 : IntR w X v1 n1 xs) (h2 : IntR w X v2 n2 ys) (hz : val ys ≠ 0) (hs1 : xs.length ≤ 100000000) (hs2 : ys.length ≤ 100000000) :
    Calls Try.prog 65 #[v1, v2] w fun e w' => ∃ q r, e = .returned (.tuple #[q, r, .int .i64 0]) ∧ IntV w' (Old w) q (qF (sv n1 xs) (sv n2 ys)) ∧ IntV w' (Old w) r (sv n1 xs - qF (sv n1 xs) (sv n2 ys) * sv n2 ys) ∧ Below w.heap.size w w' := by
  obtain ⟨A, c, rfl, _, _, H1⟩ := h1.open_
  obtain ⟨B, d, rfl, _, _, H2⟩ := h2.open_
  have SL2 := Lib.hid (sv_len n2 ys H2.2)
  have l1 := trimL_len xs
  have l2 := trimL_len ys
  have c1 := can_trimL H1.2
  have c2 := can_trimL H2.2
  have l3 : 0 < (trimL ys).length := by rw [trimL_dig H2.2, dig_len_pos]; omega
  have HV1 := Lib.hid (val_trimL xs)
  have HV2 := Lib.hid (val_trimL ys)
  obtain ⟨nb, hnb⟩ : ∃ nb, (!n1 == n2) = nb := ⟨_, rfl⟩
  obtain ⟨Z, hZ⟩ : ∃ Z, qF (sv n1 xs) (sv n2 ys) = Z := ⟨_, rfl⟩
  have hq : Z = if nb = true then (if val xs % val ys = 0 then -((val xs / val ys : Nat) : Int) else -((val xs / val ys : Nat) : Int) - 1) else ((val xs / val ys : Nat) : Int) := by
    rw [← hZ, ← hnb]; exact qF_ref n1 n2 xs ys hz
  have HQ := Lib.hid hq
  rw [hZ]
  clear hZ hq hz
  have hzb : ((((trimL ys).length : Nat) : Int) == 0) = false := by rw [beq_eq_false_iff_ne]; omega
  go_enter Try.func65, Try.ntmps65
  go_wp2_with fail
  obtain ⟨L2, L3, L4, L5, hB0, hsz0⟩ := locs4 (Below.refl _ ((((w.alloc (.cells #[.bool n1, .slice A xs.length c] 24)).alloc (.cells #[.bool n2, .slice B ys.length d] 24)).alloc (.cells #[.bool false, .slice none 0 0] 24)).alloc (.cells #[.bool false, .slice none 0 0] 24)))
  have K1 := (H1.weak (Y := fun _ => False) (fun _ _ h => h.elim)).below hB0
  have K2 := (H2.weak (Y := fun _ => False) (fun _ _ h => h.elim)).below hB0
  clear H1 H2
  generalize ((((w.alloc (.cells #[.bool n1, .slice A xs.length c] 24)).alloc (.cells #[.bool n2, .slice B ys.length d] 24)).alloc (.cells #[.bool false, .slice none 0 0] 24)).alloc (.cells #[.bool false, .slice none 0 0] 24)) = w0 at *
  have KS : Hid (∀ W, Below (w.heap.size + 2) w0 W → Loc W w.heap.size 24 #[.bool n1, .slice A xs.length c] ∧ Loc W (w.heap.size + 1) 24 #[.bool n2, .slice B ys.length d]) := fun W hW => ⟨L2.below' hW (by omega), L3.below' hW (by omega)⟩
  go_region_held3 (fun w' => (w'.cell? ⟨w.heap.size, 0, none⟩ = some (.bool n1) ∧ w'.cell? ⟨w.heap.size, 1, none⟩ = some (.slice A xs.length c)) ∧ w'.cell? ⟨w.heap.size + 1, 0, none⟩ = some (.bool n2) ∧ w'.cell? ⟨w.heap.size + 1, 1, none⟩ = some (.slice B ys.length d))
    (first | exact cells_of (KS.out _ (k2.mono (by omega))) | exact cells_of (KS.out _ (k1.mono (by omega))) | exact cells_of (KS.out _ (Below.refl _ _).drew) | go_keep)
    (first
      | (go_at_call_of 95 (Value.slice A xs.length c); refine (rtrim_any _ (fun _ => False) (.slice A xs.length c) xs (K1.below (Below.refl _ _).drew) (by omega)).mono ?_; rintro e wa ⟨va, rfl, ha, hka⟩; have k1 := below_undrew hka)
      | (go_at_call_of 95 (Value.slice B ys.length d); refine (rtrim_any _ (fun _ => False) (.slice B ys.length d) ys (K2.below k1) (by omega)).mono ?_; rintro e wb ⟨vb, rfl, hb, hkb⟩; have k2 := k1.trans (hkb.mono k1.size); have ha2 := ha.below hkb; have hb0 := hb; obtain ⟨Ab, cb, rfl, _, _, hb⟩ := hb.open_))
  all_goals
    clear KS
    go_wp2_with fail
    refine (divWords_any _ (fun _ => False) _ _ (trimL xs) (trimL ys) (ha2.weak (fun _ _ h => h.elim)) (hb.weak (fun _ _ h => h.elim)) c2 l3 (by omega)).mono ?_
    rintro e w1 ⟨q1, r1, rfl, hq1, hr1, hb1⟩
    rw [HV1.out, HV2.out] at hq1 hr1
    have k3 := k2.trans (hb1.mono k2.size)
    have M2 := L2.below k3
    have M3 := L3.below k3
    have cx := M2.cell
    have cy := M3.cell
    have hlq := Nat.le_trans (dig_len_mono (Nat.div_le_self (val xs) (val ys))) (by rw [← HV1.out]; exact Nat.le_trans (dig_val_len c1.1) l1 : (dig (val xs)).length ≤ xs.length)
    go_wp2_with fail
    refine (made_any _ (fun _ => False) nb _ _ (hq1.weak (fun _ _ h => h.elim)) (by omega)).mono ?_
    rintro e w4 ⟨v3, rfl, h3, hb3⟩
    have k4 := k3.trans (hb3.mono k3.size)
    obtain ⟨b3, A3, m3, c3, rfl, h3⟩ := h3.op
    have hs0 := hb3.size
    have hs4 := k4.size
    have hs3 := k3.size
    have k5 := k4.trans ((below1 w4 (.cells #[.bool b3, .slice A3 m3 c3] 24)).mono k4.size)
    have N2 := L2.below k5
    have N3 := L3.below k5
    have N4 := L4.below k5
    have N5 := L5.below k5
    have N6 := Loc.new w4 #[.bool b3, .slice A3 m3 c3] 24
    have hq5 := (h3.weak (Y := fun b => b < w.heap.size + 1 + 1 + 1 + 1 ∨ b = w4.heap.size) (fun b h1 h2 => by show b < _; omega)).below (below1 w4 (.cells #[.bool b3, .slice A3 m3 c3] 24))
    have hr5 := (hr1.weak (Y := fun _ => False) (fun _ _ h => h.elim)).below ((hb3.trans ((below1 w4 (.cells #[.bool b3, .slice A3 m3 c3] 24)).mono hb3.size)))
    have hB5 := hB0.trans (k5.mono (by omega))
    obtain ⟨g6, hg6⟩ : ∃ g6, w4.heap.size = g6 := ⟨_, rfl⟩
    have hsg : w.heap.size + 1 + 1 + 1 < g6 := by have := L5.lt; omega
    obtain ⟨Ar, cr, rfl, _, _, hr5⟩ := hr5.open_
    simp only [hg6] at N6 hq5
    clear cx cy M2 M3 L2 L3 L4 L5 K1 K2 ha ha2 hb hb0 hka hkb k1 k2 k3 k4 k5 hq1 hr1 hb1 h3 hb3 hs0 hs4 hs3
    have cx := N2.cell
    have cy := N3.cell
    have hlr := dig_len_pos (val xs % val ys)
    have HLR := Lib.hid hlr
    have HLQ := Lib.hid hlq
    clear hlr hlq
    have hx5 := h1.below hB5
    have hy5 := h2.below hB5
    obtain ⟨rl, hrl⟩ : ∃ rl, (dig (val xs % val ys)).length = rl := ⟨_, rfl⟩
    rw [hrl] at HLR
    go_upto_region 6 with fail
    go_cut [45] (fun x W => ∃ bb : Bool, x = .bool bb ∧ bb = decide (nb = true ∧ val xs % val ys ≠ 0) ∧ W = w4.alloc (.cells #[.bool b3, .slice A3 m3 c3] 24))
    case first =>
      cases nb
      · go_wp2_with fail
        go_meet
        exact ⟨false, rfl, by simp, rfl⟩
      · go_wp2_with fail
        go_meet
        exact ⟨_, rfl, by rw [decide_eq_decide]; exact ⟨fun h => ⟨by first | rfl | trivial, by have := HLR.out.1 h; omega⟩, fun h => HLR.out.2 (by have := h.2; omega)⟩, rfl⟩
    case rest =>
      obtain ⟨bb, rfl, hbb, rfl⟩ := hcut
      have HBB := Lib.hid hbb
      clear hbb cx cy
      generalize w4.alloc (.cells #[.bool b3, .slice A3 m3 c3] 24) = w5 at *
      have hs5 := N6.lt
      go_upto_if 45 with fail
      go_cut [46] (fun _ W => ∃ (b : Bool) (D : Option Addr) (m k : Nat), Loc W w.heap.size 24 #[.bool n1, .slice A xs.length c] ∧ Loc W (w.heap.size + 1) 24 #[.bool n2, .slice B ys.length d] ∧ Loc W (w.heap.size + 1 + 1) 24 #[.bool false, .slice none 0 0] ∧ Loc W (w.heap.size + 1 + 1 + 1) 24 #[.bool false, .slice none 0 0] ∧
        Loc W g6 24 #[.bool b, .slice D m k] ∧ IntV W (fun b => b < w.heap.size + 1 + 1 + 1 + 1 ∨ b = g6) (.agg #[.bool b, .slice D m k]) Z ∧ Below w.heap.size w W)
      case first =>
        cases bb
        · have hc := of_decide_eq_false HBB.out.symm
          have hz2 : sv nb (dig (val xs / val ys)) = Z := by
            rw [HQ.out]
            cases nb
            · rw [sv_false, val_dig]; rfl
            · have hr0 : val xs % val ys = 0 := by
                rcases Nat.eq_zero_or_pos (val xs % val ys) with h | h
                · exact h
                · exact absurd ⟨rfl, by omega⟩ hc
              rw [sv_true, val_dig, if_pos rfl, if_pos hr0]
          rw [hz2] at hq5
          clear hz2 hc
          go_wp2_with fail
          go_meet
          exact ⟨_, _, _, _, N2, N3, N4, N5, N6, hq5, hB5⟩
        · have hc := of_decide_eq_true HBB.out.symm
          have hz2 := HQ.out
          rw [if_pos hc.1, if_neg hc.2] at hz2
          have HZ2 := Lib.hid hz2
          rw [hc.1, sv_true, val_dig] at hq5
          have hlq : (dig (-((val xs / val ys : Nat) : Int)).natAbs).length ≤ xs.length := by
            rw [Int.natAbs_neg, Int.natAbs_natCast]
            exact HLQ.out
          have HLQ2 := Lib.hid hlq
          clear hz2 hlq hc
          have HL1 : Hid ((dig (1 : Int).natAbs).length ≤ 100000000000) := by
            have h : (dig 1).length ≤ 1 := dig_len_le (by decide)
            exact Nat.le_trans h (by decide)
          have hof := fun w' => rof_any w' 1 (by decide) (by decide)
          go_wp2_with fail
          have d0 : ∀ i, w5.drew.cell? ⟨g6, i, none⟩ = #[Value.bool b3, Value.slice A3 m3 c3][i]? := N6.cell
          go_region_with (first
              | (go_at_call 98; refine (hof _).mono ?_; rintro e u1 ⟨v7, rfl, h7, hb7⟩; have k1 := below_undrew hb7; obtain ⟨b7, A7, m7, c7, rfl, h7⟩ := h7.op; have d4 := (N6.below k1).cell)
              | (go_at_call 97; refine (rsub_any _ (fun _ => False) _ _ _ _ _ _ ((hq5.weak (fun _ _ h => h.elim)).below k1) (h7.weak (fun _ _ h => h.elim)) (by have := HLQ2.out; omega) HL1.out).mono ?_; rintro e u2 ⟨v8, rfl, h8, hb8⟩; have k2 := k1.trans (hb8.mono k1.size); obtain ⟨b8, A8, m8, c8, rfl, h8⟩ := h8.op; have c4 := (N6.below k2).cell; have f4 := (N6.below k2).frz))
          all_goals
            rw [sv_dig, sv_dig, ← HZ2.out] at h8
            obtain ⟨R6, hfar⟩ := fill_box (u := .bool b8) (v := .slice A8 m8 c8) (N6.below k2)
            have R2 := hfar (N2.below k2) (by omega)
            have R3 := hfar (N3.below k2) (by omega)
            have R4 := hfar (N4.below k2) (by omega)
            have R5 := hfar (N5.below k2) (by omega)
            have hu1 := k1.size
            have hB8 := ((hB5.trans (k2.mono (by omega))).setCell (p := ⟨g6, 0, none⟩) (by show w.heap.size ≤ g6; omega) (.bool b8)).setCell (p := ⟨g6, 1, none⟩) (by show w.heap.size ≤ g6; omega) (.slice A8 m8 c8)
            have hkp : Keep (fun b => b < w.heap.size + 1 + 1 + 1 + 1 ∨ b = g6) u2 ((u2.setCell ⟨g6, 0, none⟩ (.bool b8)).setCell ⟨g6, 1, none⟩ (.slice A8 m8 c8)) := ((Keep.refl _ _).set (p := ⟨g6, 0, none⟩) (.inl (.inr rfl)) _).set (p := ⟨g6, 1, none⟩) (.inl (.inr rfl)) _
            have h9 := (h8.weak (Y := fun b => b < w.heap.size + 1 + 1 + 1 + 1 ∨ b = g6) (fun b h1 h2 => by show b < _; omega)).keep hkp
            clear c4 f4 d0 hkp
            go_wp2_with fail
            go_meet
            exact ⟨_, _, _, _, R2, R3, R4, R5, R6, h9, hB8⟩
      case rest =>
        obtain ⟨b9, D, m9, k9, Q2, Q3, Q4, Q5, Q6, hq9, hB9⟩ := hcut
        have hsz9 := Q6.lt
        have hx9 := h1.below hB9
        have hy9 := h2.below hB9
        have hzl : (dig Z.natAbs).length ≤ xs.length + 1 := by
          have hb : (dig ((val xs / val ys : Nat) : Int).natAbs).length ≤ xs.length := by
            rw [Int.natAbs_natCast]; exact HLQ.out
          have h0 : (dig (1 : Int).natAbs).length ≤ xs.length + 0 ∨ xs.length = 0 := by
            rcases Nat.eq_zero_or_pos xs.length with h | h
            · exact .inr h
            · exact .inl (Nat.le_trans (show (dig 1).length ≤ 1 from dig_len_le (by decide)) (by omega))
          rw [HQ.out]
          split
          · split
            · rw [Int.natAbs_neg]; omega
            · rcases h0 with h0 | h0
              · exact sub_len _ _ _ (by rw [Int.natAbs_neg]; exact hb) (by simpa using h0)
              · have hx0 : val xs = 0 := by
                  have := List.length_eq_zero_iff.1 h0
                  subst this; rfl
                rename_i hr
                exact absurd (by rw [hx0, Nat.zero_mod]) hr
          · omega
        have HZL := Lib.hid hzl
        have hpl : (dig (Z * sv n2 ys).natAbs).length ≤ xs.length + 1 + ys.length := by
          have h := len_mul (ws_dig Z.natAbs) (ws_dig (sv n2 ys).natAbs)
          rw [val_dig, val_dig, ← Int.natAbs_mul] at h
          have := SL2.out
          omega
        have HPL := Lib.hid hpl
        have KS : Hid (∀ W, Below (w.heap.size + 1 + 1) wc W → Below (g6 + 1) wc W → ((W.cell? ⟨w.heap.size, 0, none⟩ = some (.bool n1) ∧ W.cell? ⟨w.heap.size, 1, none⟩ = some (.slice A xs.length c)) ∧ W.cell? ⟨w.heap.size + 1, 0, none⟩ = some (.bool n2) ∧ W.cell? ⟨w.heap.size + 1, 1, none⟩ = some (.slice B ys.length d)) ∧ W.cell? ⟨g6, 0, none⟩ = some (.bool b9) ∧ W.cell? ⟨g6, 1, none⟩ = some (.slice D m9 k9)) := fun W hW hW2 => ⟨cells_of ⟨Q2.below' hW (by omega), Q3.below' hW (by omega)⟩, (Q6.below' hW2 (by omega)).cell 0, (Q6.below' hW2 (by omega)).cell 1⟩
        clear hzl hpl hq5 hB5 N2 N3 N4 N5 N6 h1 h2 hx5 hy5 hr5
        go_wp2_with fail
        go_region_held3 (fun W => ((W.cell? ⟨w.heap.size, 0, none⟩ = some (.bool n1) ∧ W.cell? ⟨w.heap.size, 1, none⟩ = some (.slice A xs.length c)) ∧ W.cell? ⟨w.heap.size + 1, 0, none⟩ = some (.bool n2) ∧ W.cell? ⟨w.heap.size + 1, 1, none⟩ = some (.slice B ys.length d)) ∧ W.cell? ⟨g6, 0, none⟩ = some (.bool b9) ∧ W.cell? ⟨g6, 1, none⟩ = some (.slice D m9 k9))
          (first | exact ⟨cells_of ⟨R5.2 (R4.2 (Q2.below k2) (by omega)) (by omega), R5.2 (R4.2 (Q3.below k2) (by omega)) (by omega)⟩, (R5.2 (R4.2 (Q6.below k2) (by omega)) (by omega)).cell 0, (R5.2 (R4.2 (Q6.below k2) (by omega)) (by omega)).cell 1⟩ | exact ⟨cells_of ⟨R4.2 (Q2.below k2) (by omega), R4.2 (Q3.below k2) (by omega)⟩, (R4.2 (Q6.below k2) (by omega)).cell 0, (R4.2 (Q6.below k2) (by omega)).cell 1⟩ | exact KS.out _ (k2.mono (by omega)) (k2.mono (by omega)) | exact KS.out _ (k1.mono (by omega)) (k1.mono (by omega)) | exact KS.out _ (Below.refl _ _).drew (Below.refl _ _).drew)
          (first
            | (go_at_call 83; refine (rmul_any _ (fun _ => False) _ _ _ _ _ _ ((hq9.weak (fun _ _ h => h.elim)).below (Below.refl _ _).drew) ((hy9.weak (fun _ _ h => h.elim)).below (Below.refl _ _).drew) (by have := HZL.out; omega) (by omega)).mono ?_; rintro e u1 ⟨v7, rfl, h7, hb7⟩; rw [sv_dig] at h7; have k1 := below_undrew hb7; obtain ⟨b7, A7, m7, c7, rfl, h7⟩ := h7.op)
            | (go_at_call 97; refine (rsub_any _ (fun _ => False) _ _ _ _ _ _ ((hx9.weak (fun _ _ h => h.elim)).below k1) (h7.weak (fun _ _ h => h.elim)) (by omega) (by have := HPL.out; omega)).mono ?_; rintro e u2 ⟨v8, rfl, h8, hb8⟩; rw [sv_dig] at h8; have k2 := k1.trans (hb8.mono k1.size); obtain ⟨b8, A8, m8, c8, rfl, h8⟩ := h8.op; have c4 := (Q4.below k2).cell; have f4 := (Q4.below k2).frz; have c5 := (Q5.below k2).cell; have f5 := (Q5.below k2).frz; have R4 := fill_box (u := .bool b9) (v := .slice D m9 k9) (Q4.below k2); have R5 := fill_box (u := .bool b8) (v := .slice A8 m8 c8) (R4.2 (Q5.below k2) (by omega))))
        all_goals
          have hu1 := k1.size
          have hkp : Keep (fun b => b < w.heap.size + 1 + 1 + 1 + 1 ∨ b = g6) u2 ((((u2.setCell ⟨w.heap.size + 1 + 1, 0, none⟩ (.bool b9)).setCell ⟨w.heap.size + 1 + 1, 1, none⟩ (.slice D m9 k9)).setCell ⟨w.heap.size + 1 + 1 + 1, 0, none⟩ (.bool b8)).setCell ⟨w.heap.size + 1 + 1 + 1, 1, none⟩ (.slice A8 m8 c8)) :=
            ((((Keep.refl _ _).set (p := ⟨w.heap.size + 1 + 1, 0, none⟩) (.inl (.inl (by show w.heap.size + 1 + 1 < w.heap.size + 1 + 1 + 1 + 1; omega))) _).set (p := ⟨w.heap.size + 1 + 1, 1, none⟩) (.inl (.inl (by show w.heap.size + 1 + 1 < w.heap.size + 1 + 1 + 1 + 1; omega))) _).set (p := ⟨w.heap.size + 1 + 1 + 1, 0, none⟩) (.inl (.inl (by show w.heap.size + 1 + 1 + 1 < w.heap.size + 1 + 1 + 1 + 1; omega))) _).set (p := ⟨w.heap.size + 1 + 1 + 1, 1, none⟩) (.inl (.inl (by show w.heap.size + 1 + 1 + 1 < w.heap.size + 1 + 1 + 1 + 1; omega))) _
          have hB8 := ((((hB9.trans (k2.mono (by omega))).setCell (p := ⟨w.heap.size + 1 + 1, 0, none⟩) (by show w.heap.size ≤ w.heap.size + 1 + 1; omega) (.bool b9)).setCell (p := ⟨w.heap.size + 1 + 1, 1, none⟩) (by show w.heap.size ≤ w.heap.size + 1 + 1; omega) (.slice D m9 k9)).setCell (p := ⟨w.heap.size + 1 + 1 + 1, 0, none⟩) (by show w.heap.size ≤ w.heap.size + 1 + 1 + 1; omega) (.bool b8)).setCell (p := ⟨w.heap.size + 1 + 1 + 1, 1, none⟩) (by show w.heap.size ≤ w.heap.size + 1 + 1 + 1; omega) (.slice A8 m8 c8)
          have hf1 := ((hq9.below k2).keep hkp).weak (Y := Old w) (fun b _ h => by have h : b < w.heap.size := h; omega)
          have hf2 := ((h8.weak (Y := fun b => b < w.heap.size + 1 + 1 + 1 + 1 ∨ b = g6) (fun b h1 h2 => by show b < _; omega)).keep hkp).weak (Y := Old w) (fun b _ h => by have h : b < w.heap.size := h; omega)
          have cc := R5.1.cell
          have cd := (R5.2 R4.1 (by omega)).cell
          clear KS hkp c4 f4 c5 f5 R4 R5
          go_wp2_with fail
          refine bodyPost_ret (by simp [results, Try.results65, go_sem, cc, cd] <;> rfl) rfl ⟨_, _, rfl, hf1, hf2, hB8⟩
end Go.Proofs.Ytooheapikhdllaa

/- rational.Sub; of the reference: isZero, zero, New, Clean, Of, Sign. -/
namespace Go.Proofs.Ytooheapikhdllaa
open Go.RowKit
attribute [local go_sem ↓] Go.wp_at_zero Go.wp_at_succ

set_option maxHeartbeats 2000000 in
theorem sub_rat (w : World) (X : Nat → Prop) (v1 v2 : Value) (x y : Rat) (h1 : RatL 10000000 w X v1 x) (h2 : RatL 10000000 w X v2 y) :
    Calls Try.prog 33 #[v1, v2] w fun e w' => ∃ v', e = .returned v' ∧ RatV w' (Old w) v' (x - y) ∧ Below w.heap.size w w' := by
  have HY := Lib.hid ((h2.rsz (by omega)).neg)
  have HE : Hid (x + -y = x - y) := (Rat.sub_eq_add_neg x y).symm
  obtain ⟨n1, A, m, c, n2, B, m', d, rfl, h1, -⟩ := h1.op
  obtain ⟨o1, C, p, e, o2, D, p', f, rfl, h2, -⟩ := h2.op
  go_enter Try.func33, Try.ntmps33
  go_wp2_with fail
  have L1 := made1 w #[.bool n1, .slice A m c, .bool n2, .slice B m' d] 27
  have L2 := made2 w (.cells #[.bool n1, .slice A m c, .bool n2, .slice B m' d] 27) #[.bool o1, .slice C p e, .bool o2, .slice D p' f] 27
  have L3 := made3 w (.cells #[.bool n1, .slice A m c, .bool n2, .slice B m' d] 27) (.cells #[.bool o1, .slice C p e, .bool o2, .slice D p' f] 27) #[.bool false, .slice none 0 0, .bool false, .slice none 0 0] 27
  go_region_held3 (fun W => ((W.cell? ⟨w.heap.size, 0, none⟩ = some (.bool n1) ∧ W.cell? ⟨w.heap.size, 1, none⟩ = some (.slice A m c)) ∧ W.cell? ⟨w.heap.size, 2, none⟩ = some (.bool n2) ∧ W.cell? ⟨w.heap.size, 3, none⟩ = some (.slice B m' d)) ∧ (W.cell? ⟨w.heap.size + 1, 0, none⟩ = some (.bool o1) ∧ W.cell? ⟨w.heap.size + 1, 1, none⟩ = some (.slice C p e)) ∧ W.cell? ⟨w.heap.size + 1, 2, none⟩ = some (.bool o2) ∧ W.cell? ⟨w.heap.size + 1, 3, none⟩ = some (.slice D p' f))
    (exact ⟨⟨⟨Loc.c 0 L1, Loc.c 1 L1⟩, Loc.c 2 L1, Loc.c 3 L1⟩, ⟨Loc.c 0 L2, Loc.c 1 L2⟩, Loc.c 2 L2, Loc.c 3 L2⟩)
    (first
      | (go_at_call 45; refine (neg_rat _ (fun _ => False) _ y (h2.mono (by omega)).to).mono ?_; rintro e u1 ⟨v5, rfl, h5, hb5⟩; obtain ⟨b5, A5, m5, k5, b5', A5', m5', k5', rfl, h5, -, -⟩ := h5.op; have y5 := hb5.size; (try simp only [World.size_alloc, size_set, size_drew, size_drewN] at y5))
      | (go_at_call 34; refine (add_rat _ (fun _ => False) _ _ x (-y) h1.to (h5.len HY.out).to).mono ?_; rintro e u2 ⟨v6, rfl, h6, hb6⟩; rw [HE.out] at h6; obtain ⟨b6, A6, m6, k6, b6', A6', m6', k6', rfl, h6, -, -⟩ := h6.op; have y6 := hb6.size; (try simp only [World.size_alloc, size_set, size_drew, size_drewN] at y6); obtain ⟨e5, g5, -⟩ := Loc.all L3 (w' := u2)))
  all_goals
    go_wp2_with fail
    refine bodyPost_ret (by simp [results, Try.results33, go_sem, e5, g5] <;> rfl) rfl ⟨_, rfl, h6.out, bel⟩

set_option maxHeartbeats 1000000 in
theorem rsmallI (w : World) (n : Int) (h0 : -9223372036854775808 ≤ n) (h1 : n ≤ 9223372036854775807) :
    Calls Try.prog 68 #[.int .i64 n] w fun e w' => ∃ v', e = .returned v' ∧ IntV w' (Old w) v' n ∧ Below w.heap.size w w' := by
  go_enter Try.func68, Try.ntmps68
  go_wp2_with fail
  refine (rof_any _ n h0 h1).mono ?_
  rintro e w1 ⟨v1, rfl, i1, hb1⟩
  obtain ⟨b1, A1, m1, c1, rfl, i1⟩ := i1.op
  have z1 := sz1 hb1
  obtain ⟨e4, g4, -⟩ := (made1 w #[.bool false, .slice none 0 0] 24).all (w' := w1)
  go_wp2_with fail
  refine bodyPost_ret (by simp [results, Try.results68, go_sem, e4, g4] <;> rfl) rfl ⟨_, rfl, i1.out, bel⟩

theorem field_words (w : World) (b : Bool) (A : Option Addr) (n c : Nat) : (Instr.field 24 (.agg #[.bool b, .slice A n c]) 1).run Try.prog w = .ok (.slice A n c) w := by kernel_rfl
attribute [local go_sem] field_words
theorem dig_len_zero (z : Int) : (dig z.natAbs).length = 0 ↔ z = 0 := by
  have := dig_len_pos z.natAbs
  omega

set_option maxHeartbeats 1000000 in
theorem isZero_any (w : World) (X : Nat → Prop) (v : Value) (neg : Bool) (xs : List Nat) (h : IntR w X v neg xs) (hsz : xs.length ≤ 100000000) :
    Calls Try.prog 61 #[v] w fun e w' => e = .returned (.bool (decide (sv neg xs = 0))) ∧ Below w.heap.size w w' := by
  obtain ⟨A, c, rfl, h⟩ := h.op
  obtain ⟨z, hz⟩ : ∃ z, sv neg xs = z := ⟨_, rfl⟩
  rw [hz]
  have HZ := Lib.hid hz
  have HSZ := Lib.hid hsz
  clear hz hsz
  go_enter Try.func61, Try.ntmps61
  go_wp2_with fail
  refine (rclean_any _ (fun _ => False) _ neg xs h.to (by have := HSZ.out; omega)).mono ?_
  rintro e w1 ⟨v1, rfl, i1, hb1⟩
  rw [HZ.out] at i1
  obtain ⟨b1, A1, m1, c1, rfl, i1, -, HM⟩ := i1.opb
  have hd := dig_len_zero z
  rw [← HM.out] at hd
  by_cases hm : m1 = 0
  · subst hm
    have hz0 : z = 0 := hd.1 rfl
    subst hz0
    clear hd
    go_wp2_with fail
    go_ret
    exact ⟨rfl, bel⟩
  · have hz0 : z ≠ 0 := fun h => hm (hd.2 h)
    have hb : ((m1 : Int) == 0) = false := by rw [beq_eq_false_iff_ne]; omega
    have HZ0 := Lib.hid (decide_eq_false hz0)
    clear hd hz0 hm
    go_wp2_with fail
    go_ret
    exact ⟨by rw [HZ0.out]; rfl, bel⟩

set_option maxHeartbeats 1000000 in
theorem rzero_rat (w : World) :
    Calls Try.prog 62 #[] w fun e w' => ∃ v', e = .returned v' ∧ RatV w' (Old w) v' 0 ∧ Below w.heap.size w w' := by
  go_enter Try.func62, Try.ntmps62
  go_wp2_with fail
  refine (rsmallI _ 0 (by decide) (by decide)).mono ?_
  rintro e w1 ⟨v1, rfl, h1, hb1⟩
  obtain ⟨b1, A1, m1, c1, rfl, h1⟩ := h1.op
  have z1 := sz1 hb1
  go_wp2_with fail
  refine (rsmallI _ 1 (by decide) (by decide)).mono ?_
  rintro e w2 ⟨v2, rfl, h2, hb2⟩
  obtain ⟨b2, A2, m2, c2, rfl, h2⟩ := h2.op
  have z2 := hb2.size
  obtain ⟨c5, f5, l5⟩ := (made1 w #[.bool false, .slice none 0 0, .bool false, .slice none 0 0] 27).all (w' := w2)
  go_wp2_with fail
  refine bodyPost_ret (by simp [results, Try.results62, go_sem, c5, f5, l5] <;> rfl) rfl ⟨_, rfl, RatV.of h1.out h2.out, bel⟩
end Go.Proofs.Ytooheapikhdllaa

/- New of the reference. -/
namespace Go.Proofs.Ytooheapikhdllaa
open Go.RowKit
attribute [local go_sem ↓] Go.wp_at_zero Go.wp_at_succ

set_option maxHeartbeats 4000000 in
theorem rnew_zero (w : World) (X : Nat → Prop) (v1 v2 : Value) (n1 n2 : Bool) (xs ys : List Nat) (h1 : IntR w X v1 n1 xs) (h2 : IntR w X v2 n2 ys) (hz : val ys = 0) (hs1 : xs.length ≤ 10000000) (hs2 : ys.length ≤ 10000000) :
    Calls Try.prog 16 #[v1, v2] w fun e w' => e = .returned (.tuple #[.agg #[.bool false, .slice none 0 0, .bool false, .slice none 0 0], .int .i64 3]) ∧ Below w.heap.size w w' := by
  have HL2 := Lib.hid (sv_len n2 ys h2.ws)
  obtain ⟨A, c, rfl, h1⟩ := h1.op
  obtain ⟨B, d, rfl, h2⟩ := h2.op
  have HZ : Hid (sv n2 ys = 0) := (sv_zero_iff n2 ys).2 hz
  clear hz
  have L2 := made2 w (.cells #[.bool n1, .slice A xs.length c] 24) #[.bool n2, .slice B ys.length d] 24
  have L3 := made3 w (.cells #[.bool n1, .slice A xs.length c] 24) (.cells #[.bool n2, .slice B ys.length d] 24) #[.bool false, .slice none 0 0, .bool false, .slice none 0 0] 27
  go_enter Try.func16, Try.ntmps16
  go_wp2_with fail
  refine (rclean_any _ (fun _ => False) _ n1 xs h1.to (by omega)).mono ?_
  rintro e w1 ⟨v3, rfl, i1, hb1⟩
  obtain ⟨b3, A3, m3, c3, rfl, i1⟩ := i1.op
  obtain ⟨z1, z2, z3⟩ := sz3 hb1
  obtain ⟨e2, f2, -⟩ := Loc.all L2 (w' := w1)
  go_wp2_with fail
  refine (rclean_any _ (fun _ => False) _ n2 ys h2.to (by omega)).mono ?_
  rintro e w2 ⟨v4, rfl, i2, hb2⟩
  obtain ⟨b4, A4, m4, c4, rfl, i2⟩ := i2.op
  have y2 := hb2.size; (try simp only [World.size_alloc, size_set, size_drew, size_drewN] at y2)
  clear e2 f2
  go_wp2_with fail
  refine (isZero_any _ (fun _ => False) _ _ _ i2.to (Nat.le_trans HL2.out (by omega))).mono ?_
  rintro e w3 ⟨he, hb3⟩
  rw [sv_dig, HZ.out] at he
  subst he
  have y3 := hb3.size; (try simp only [World.size_alloc, size_set, size_drew, size_drewN] at y3)
  obtain ⟨e5, g5, -⟩ := Loc.all L3 (w' := w3)
  go_wp2_with fail
  refine bodyPost_ret (by simp [results, Try.results16, go_sem, e5, g5] <;> rfl) rfl ⟨rfl, bel⟩

set_option maxHeartbeats 8000000 in
theorem rnew_any (w : World) (X : Nat → Prop) (v1 v2 : Value) (n1 n2 : Bool) (xs ys : List Nat) (h1 : IntR w X v1 n1 xs) (h2 : IntR w X v2 n2 ys) (hz : val ys ≠ 0) (hs1 : xs.length ≤ 10000000) (hs2 : ys.length ≤ 10000000) :
    Calls Try.prog 16 #[v1, v2] w fun e w' => ∃ v', e = .returned (.tuple #[v', .int .i64 0]) ∧ RatV w' (Old w) v' (Rat.divInt (sv n1 xs) (sv n2 ys)) ∧ Below w.heap.size w w' := by
  have HL1 := Lib.hid (Nat.le_trans (sv_len n1 xs h1.ws) hs1)
  have HL2 := Lib.hid (Nat.le_trans (sv_len n2 ys h2.ws) hs2)
  obtain ⟨A, c, rfl, h1⟩ := h1.op
  obtain ⟨B, d, rfl, h2⟩ := h2.op
  have hd0 : sv n2 ys ≠ 0 := fun h => hz ((sv_zero_iff n2 ys).1 h)
  obtain ⟨N, hN⟩ : ∃ z, sv n1 xs = z := ⟨_, rfl⟩
  obtain ⟨D, hD⟩ : ∃ z, sv n2 ys = z := ⟨_, rfl⟩
  rw [hD] at hd0 HL2
  rw [hN] at HL1
  have HN := Lib.hid hN
  have HD := Lib.hid hD
  have HD0 := Lib.hid (decide_eq_false hd0)
  obtain ⟨q, hq⟩ : ∃ q, Rat.divInt (sv n1 xs) (sv n2 ys) = q := ⟨_, rfl⟩
  rw [hq]
  rw [hN, hD] at hq
  have HQ := Lib.hid hq
  clear hq hz hN hD
  have L2 := made2 w (.cells #[.bool n1, .slice A xs.length c] 24) #[.bool n2, .slice B ys.length d] 24
  have L3 := made3 w (.cells #[.bool n1, .slice A xs.length c] 24) (.cells #[.bool n2, .slice B ys.length d] 24) #[.bool false, .slice none 0 0, .bool false, .slice none 0 0] 27
  go_enter Try.func16, Try.ntmps16
  go_wp2_with fail
  refine (rclean_any _ (fun _ => False) _ n1 xs h1.to (by omega)).mono ?_
  rintro e w1 ⟨v3, rfl, i1, hb1⟩
  rw [HN.out] at i1
  obtain ⟨b3, A3, m3, c3, rfl, i1⟩ := i1.op
  obtain ⟨z1, z2, z3⟩ := sz3 hb1
  obtain ⟨e2, f2, -⟩ := Loc.all L2 (w' := w1)
  go_wp2_with fail
  have L6 := made1 w1 #[.bool b3, .slice A3 m3 c3] 24
  refine (rclean_any _ (fun _ => False) _ n2 ys h2.to (by omega)).mono ?_
  rintro e w2 ⟨v4, rfl, i2, hb2⟩
  rw [HD.out] at i2
  obtain ⟨b4, A4, m4, c4, rfl, i2, HB4, -⟩ := i2.opb
  have y2 := hb2.size; (try simp only [World.size_alloc, size_set, size_drew, size_drewN] at y2)
  clear e2 f2
  go_wp2_with fail
  have L7 := made1 w2 #[.bool b4, .slice A4 m4 c4] 24
  refine (isZero_any _ (fun _ => False) _ _ _ i2.to (Nat.le_trans HL2.out (by omega))).mono ?_
  rintro e w3 ⟨he, hb3⟩
  rw [sv_dig, HD0.out] at he
  subst he
  have y3 := hb3.size; (try simp only [World.size_alloc, size_set, size_drew, size_drewN] at y3)
  obtain ⟨e6, f6, -⟩ := Loc.all L6 (w' := w3)
  go_wp2_with fail
  refine (isZero_any _ (fun _ => False) _ _ _ i1.to (Nat.le_trans HL1.out (by omega))).mono ?_
  rintro e w4 ⟨he, hb4⟩
  rw [sv_dig] at he
  have y4 := hb4.size; (try simp only [World.size_alloc, size_set, size_drew, size_drewN] at y4)
  by_cases hn0 : N = 0
  · rw [decide_eq_true hn0] at he
    subst he
    have hq0 := HQ.out
    rw [hn0, Rat.zero_divInt] at hq0
    subst hq0
    clear hn0 e6 f6
    go_wp2_with fail
    refine (rzero_rat _).mono ?_
    rintro e w5 ⟨v5, rfl, h5, hb5⟩
    obtain ⟨b5, A5, m5, c5, b5', A5', m5', c5', rfl, h5, -, -⟩ := h5.op
    have y5 := hb5.size; (try simp only [World.size_alloc, size_set, size_drew, size_drewN] at y5)
    obtain ⟨e5, g5, -⟩ := Loc.all L3 (w' := w5)
    go_wp2_with fail
    refine bodyPost_ret (by simp [results, Try.results16, go_sem, e5, g5] <;> rfl) rfl ⟨_, rfl, h5.out, bel⟩
  · rw [decide_eq_false hn0] at he
    subst he
    have HN0 := Lib.hid hn0
    have HDN := Lib.hid hd0
    clear hn0 hd0 e6 f6
    obtain ⟨e7, f7, -⟩ := Loc.all L7 (w' := w4)
    obtain ⟨e6, f6, -⟩ := Loc.all L6 (w' := w4)
    go_upto_if 26 with fail
    go_cut [26] (fun _ W => ∃ (b : Bool) (C : Option Addr) (m k : Nat) (b' : Bool) (C' : Option Addr) (m' k' : Nat) (us vs : Int), Loc W w1.heap.size 24 #[.bool b, .slice C m k] ∧ Loc W w2.heap.size 24 #[.bool b', .slice C' m' k'] ∧ Loc W (w.heap.size + 1 + 1) 27 #[.bool false, .slice none 0 0, .bool false, .slice none 0 0] ∧
      IntV W (fun b => w.heap.size + 2 = b ∨ w1.heap.size = b ∨ w2.heap.size = b) (.agg #[.bool b, .slice C m k]) us ∧ IntV W (fun b => w.heap.size + 2 = b ∨ w1.heap.size = b ∨ w2.heap.size = b) (.agg #[.bool b', .slice C' m' k']) vs ∧
      Hid (us = (if D < 0 then -N else N) ∧ vs = (if D < 0 then -D else D)) ∧ Below w.heap.size w W)
    case first =>
      have hb4 := HB4.out
      by_cases hneg : D < 0
      · rw [decide_eq_true hneg] at hb4
        subst hb4
        have HNEG := Lib.hid hneg
        clear hneg
        go_wp2_with fail
        refine (rneg_any _ (fun _ => False) _ _ _ i1.to (Nat.le_trans HL1.out (by omega))).mono ?_
        rintro e u1 ⟨v5, rfl, j1, hb5⟩
        rw [sv_dig] at j1
        obtain ⟨b5, A5, m5, k5, rfl, j1⟩ := j1.op
        have y5 := hb5.size; (try simp only [World.size_alloc, size_set, size_drew, size_drewN] at y5)
        clear e6 f6 e7 f7
        obtain ⟨e6, f6, -⟩ := Loc.all L6 (w' := u1)
        obtain ⟨e7, f7, -⟩ := Loc.all L7 (w' := u1)
        have n67 : w1.heap.size ≠ w2.heap.size := by omega
        have n76 : w2.heap.size ≠ w1.heap.size := by omega
        go_wp2_with fail
        refine (rneg_any _ (fun _ => False) _ _ _ i2.to (Nat.le_trans HL2.out (by omega))).mono ?_
        rintro e u2 ⟨v6, rfl, j2, hb6⟩
        rw [sv_dig] at j2
        obtain ⟨b6, A6, m6, k6, rfl, j2⟩ := j2.op
        have y6 := hb6.size; (try simp only [World.size_alloc, size_set, size_drew, size_drewN] at y6)
        have M6 := Loc.fill2 (u := .bool b5) (v := .slice A5 m5 k5) (Loc.to L6 (w' := u1))
        obtain ⟨e8, f8, -⟩ := Loc.all L7 (w' := u2)
        go_wp2_with fail
        go_meet
        exact ⟨_, _, _, _, _, _, _, _, _, _, Loc.to M6, Loc.fill2 (Loc.to L7 (w' := u2)), Loc.to L3, IntV.out j1, IntV.out j2, ⟨by rw [if_pos HNEG.out], by rw [if_pos HNEG.out]⟩, bel⟩
      · rw [decide_eq_false hneg] at hb4
        subst hb4
        have HNEG := Lib.hid hneg
        clear hneg
        go_wp2_with fail
        go_meet
        exact ⟨_, _, _, _, _, _, _, _, _, _, Loc.to L6, Loc.to L7, Loc.to L3, IntV.out i1, IntV.out i2, ⟨by rw [if_neg (by have := HNEG.out; omega)], by rw [if_neg (by have := HNEG.out; omega)]⟩, bel⟩
    case rest =>
      obtain ⟨b, C, m, k, b', C', m', k', us, vs, M6, M7, M4, i1, i2, HV, hB⟩ := hcut
      have hn1 : us.natAbs = N.natAbs := by rw [HV.out.1]; split <;> omega
      have hn2 : vs.natAbs = D.natAbs := by rw [HV.out.2]; split <;> omega
      have hu0 : us.natAbs ≠ 0 := by have := HN0.out; omega
      have hGp : 0 < Nat.gcd us.natAbs vs.natAbs := Nat.gcd_pos_of_pos_left _ (by omega)
      have hGl : (dig ((Nat.gcd us.natAbs vs.natAbs : Nat) : Int).natAbs).length ≤ 100000000 := by
        rw [Int.natAbs_natCast]; exact Nat.le_trans (dig_len_mono (Nat.gcd_le_left _ (by omega))) (by rw [hn1]; exact Nat.le_trans HL1.out (by omega))
      have hf := new_fields N D HDN.out HN0.out
      rw [← hn1, ← hn2, ← HV.out.1, ← HV.out.2, HQ.out] at hf
      obtain ⟨G, hG⟩ : ∃ G, Nat.gcd us.natAbs vs.natAbs = G := ⟨_, rfl⟩
      rw [hG] at hf hGl hGp
      have HG := Lib.hid hG
      have HF := Lib.hid hf
      have HLU : Hid ((dig us.natAbs).length ≤ 100000000) := by rw [hn1]; exact Nat.le_trans HL1.out (by omega)
      have HLV : Hid ((dig vs.natAbs).length ≤ 100000000) := by rw [hn2]; exact Nat.le_trans HL2.out (by omega)
      have HGV : Hid (val (dig ((G : Nat) : Int).natAbs) ≠ 0) := by show _ ≠ _; rw [val_dig, Int.natAbs_natCast]; omega
      have HGL := Lib.hid hGl
      have q4 := Loc.lt M4
      have q6 := Loc.lt M6
      have q7 := Loc.lt M7
      have n46 : w.heap.size + 1 + 1 < w1.heap.size := z3
      have n47 : w.heap.size + 1 + 1 < w2.heap.size := by omega
      clear hG hf hn1 hn2 hu0 hGp hGl e6 f6 e7 f7 z1 z2 z3 y2 y3 y4 hb1 hb2 hb3 hb4 L2 L3 L6 L7
      obtain ⟨e6, f6, -⟩ := Loc.all M6 (w' := wc)
      obtain ⟨e7, f7, -⟩ := Loc.all M7 (w' := wc)
      go_wp2_with fail
      refine (rgcd_any _ (fun _ => False) _ _ _ _ _ _ i1.to i2.to (Nat.le_trans HLU.out (by omega)) (Nat.le_trans HLV.out (by omega))).mono ?_
      rintro e w5 ⟨v5, rfl, h5, hb5⟩
      rw [val_dig, val_dig, HG.out] at h5
      obtain ⟨b5, A5, m5, k5, rfl, h5⟩ := h5.op
      have y5 := hb5.size; (try simp only [World.size_alloc, size_set, size_drew, size_drewN] at y5)
      clear e6 f6 e7 f7
      obtain ⟨e6, f6, l6⟩ := Loc.all M6 (w' := w5)
      have M8 := made1 w5 #[.bool b5, .slice A5 m5 k5] 24
      go_wp2_with fail
      refine (rdivide_any _ (fun _ => False) _ _ _ _ _ _ i1.to h5.to HGV.out HLU.out HGL.out).mono ?_
      rintro e w6 ⟨v6, r6, rfl, h6, j6, hb6⟩
      rw [sv_dig, sv_dig, HF.out.1] at h6
      obtain ⟨b6, A6, m6, k6, rfl, h6⟩ := h6.op
      obtain ⟨c6, C6, o6, l6, rfl, j6⟩ := j6.op
      have y6 := hb6.size; (try simp only [World.size_alloc, size_set, size_drew, size_drewN] at y6)
      clear e6 f6
      obtain ⟨e7, f7, l7⟩ := Loc.all M7 (w' := w6)
      obtain ⟨e8, f8, l8⟩ := Loc.all M8 (w' := w6)
      have M9 := made1 w6 #[.bool b6, .slice A6 m6 k6] 24
      go_wp2_with fail
      refine (rdivide_any _ (fun _ => False) _ _ _ _ _ _ i2.to h5.to HGV.out HLV.out HGL.out).mono ?_
      rintro e w7 ⟨v7, r7, rfl, h7, j7, hb7⟩
      rw [sv_dig, sv_dig, HF.out.2] at h7
      obtain ⟨b7, A7, m7, k7, rfl, h7⟩ := h7.op
      obtain ⟨c7, C7, o7, l7, rfl, j7⟩ := j7.op
      have y7 := hb7.size; (try simp only [World.size_alloc, size_set, size_drew, size_drewN] at y7)
      clear e7 f7 e8 f8
      obtain ⟨e9, f9, l9⟩ := Loc.all M9 (w' := w7)
      obtain ⟨e5, f5, l5⟩ := Loc.all M4 (w' := w7)
      have l51 : w.heap.size + 1 < w7.heap.size := by omega
      have l52 : w.heap.size < w7.heap.size := by omega
      go_wp2_with fail
      refine bodyPost_ret (by simp [results, Try.results16, go_sem, e5, f5, l5, l51, l52] <;> rfl) rfl ⟨_, rfl, RatV.of h6.out h7.out, bel⟩
end Go.Proofs.Ytooheapikhdllaa

/- Of the reference: Clean, Of, Sign, Neg, Mul. -/
namespace Go.Proofs.Ytooheapikhdllaa
open Go.RowKit
attribute [local go_sem ↓] Go.wp_at_zero Go.wp_at_succ

theorem IntV.neg_eq {w : World} {X : Nat → Prop} {b : Bool} {s : Value} {z : Int} (h : IntV w X (.agg #[.bool b, s]) z) : b = decide (z < 0) := by
  obtain ⟨A, c, e, _⟩ := IntR.open_ h
  simp only [Value.agg.injEq, Array.mk.injEq, List.cons.injEq, Value.bool.injEq, and_true] at e
  exact e.1

set_option maxHeartbeats 2000000 in
theorem rclean_rat (w : World) (X : Nat → Prop) (v : Value) (q : Rat) (h : RatL 10000000 w X v q) :
    Calls Try.prog 24 #[v] w fun e w' => ∃ v', e = .returned v' ∧ RatV w' (Old w) v' q ∧ Below w.heap.size w w' := by
  obtain ⟨n1, A, m, c, n2, B, m', d, rfl, -, xs, ys, i1, i2, l1, l2, HE⟩ := h.op
  clear h
  by_cases hz : val ys = 0
  · have hq0 : q = 0 := by rw [← HE.out]; unfold rv; rw [(sv_zero_iff n2 ys).2 hz, Rat.divInt_zero]
    subst hq0
    go_enter Try.func24, Try.ntmps24
    go_wp2_with fail
    refine (rnew_zero _ (fun _ => False) _ _ n1 n2 xs ys i1.to i2.to hz l1 l2).mono ?_
    rintro e w1 ⟨rfl, hb1⟩
    obtain ⟨z1, z2⟩ := sz2 hb1
    go_wp2_with fail
    refine (rzero_rat _).mono ?_
    rintro e w2 ⟨v2, rfl, h2, hb2⟩
    obtain ⟨b2, A2, m2, c2, b3, A3, m3, c3, rfl, h2, -, -⟩ := h2.op
    have y2 := hb2.size; (try simp only [World.size_alloc, size_set, size_drew, size_drewN] at y2)
    obtain ⟨e4, g4, -⟩ := (made2 w _ #[.bool false, .slice none 0 0, .bool false, .slice none 0 0] 27).all (w' := w2)
    go_wp2_with fail
    refine bodyPost_ret (by simp [results, Try.results24, go_sem, e4, g4] <;> rfl) rfl ⟨_, rfl, h2.out, bel⟩
  · go_enter Try.func24, Try.ntmps24
    go_wp2_with fail
    refine (rnew_any _ (fun _ => False) _ _ n1 n2 xs ys i1.to i2.to hz l1 l2).mono ?_
    rintro e w1 ⟨v2, rfl, h2, hb1⟩
    have hq : Rat.divInt (sv n1 xs) (sv n2 ys) = q := HE.out
    rw [hq] at h2
    clear hq
    obtain ⟨z1, z2⟩ := sz2 hb1
    obtain ⟨b2, A2, m2, c2, b3, A3, m3, c3, rfl, h2, -, -⟩ := h2.op
    obtain ⟨e4, g4, -⟩ := (made2 w _ #[.bool false, .slice none 0 0, .bool false, .slice none 0 0] 27).all (w' := w1)
    go_wp2_with fail
    refine bodyPost_ret (by simp [results, Try.results24, go_sem, e4, g4, z1, z2] <;> rfl) rfl ⟨_, rfl, h2.out, bel⟩

set_option maxHeartbeats 2000000 in
theorem rratof_zero (w : World) (n : Int) (h0 : -9223372036854775808 ≤ n) (h1 : n ≤ 9223372036854775807) :
    Calls Try.prog 19 #[.int .i64 n, .int .i64 0] w fun e w' => e = .returned (.tuple #[.agg #[.bool false, .slice none 0 0, .bool false, .slice none 0 0], .int .i64 3]) ∧ Below w.heap.size w w' := by
  have HN := Lib.hid (dig_i64 n h0 h1)
  go_enter Try.func19, Try.ntmps19
  go_wp2_with fail
  refine (rsmallI _ n h0 h1).mono ?_
  rintro e w1 ⟨v1, rfl, i1, hb1⟩
  obtain ⟨b1, A1, m1, c1, rfl, i1⟩ := i1.op
  have z1 := sz1 hb1
  go_wp2_with fail
  refine (rsmallI _ 0 (by decide) (by decide)).mono ?_
  rintro e w2 ⟨v2, rfl, i2, hb2⟩
  obtain ⟨b2, A2, m2, c2, rfl, i2⟩ := i2.op
  have y2 := hb2.size; (try simp only [World.size_alloc, size_set, size_drew, size_drewN] at y2)
  go_wp2_with fail
  refine (rnew_zero _ (fun _ => False) _ _ _ _ _ _ i1.to i2.to (by rw [val_dig]; rfl) (Nat.le_trans HN.out (by omega)) (Nat.le_trans (dig_i64 0 (by decide) (by decide)) (by omega))).mono ?_
  rintro e w3 ⟨rfl, hb3⟩
  have y3 := hb3.size; (try simp only [World.size_alloc, size_set, size_drew, size_drewN] at y3)
  obtain ⟨e4, g4, -⟩ := (made1 w #[.bool false, .slice none 0 0, .bool false, .slice none 0 0] 27).all (w' := w3)
  go_wp2_with fail
  refine bodyPost_ret (by simp [results, Try.results19, go_sem, e4, g4] <;> rfl) rfl ⟨rfl, bel⟩

set_option maxHeartbeats 2000000 in
theorem rratof_any (w : World) (n d : Int) (hd : d ≠ 0) (h0 : -9223372036854775808 ≤ n) (h1 : n ≤ 9223372036854775807) (h2 : -9223372036854775808 ≤ d) (h3 : d ≤ 9223372036854775807) :
    Calls Try.prog 19 #[.int .i64 n, .int .i64 d] w fun e w' => ∃ v', e = .returned (.tuple #[v', .int .i64 0]) ∧ RatV w' (Old w) v' (Rat.divInt n d) ∧ Below w.heap.size w w' := by
  have HN := Lib.hid (dig_i64 n h0 h1)
  have HD := Lib.hid (dig_i64 d h2 h3)
  go_enter Try.func19, Try.ntmps19
  go_wp2_with fail
  refine (rsmallI _ n h0 h1).mono ?_
  rintro e w1 ⟨v1, rfl, i1, hb1⟩
  obtain ⟨b1, A1, m1, c1, rfl, i1⟩ := i1.op
  have z1 := sz1 hb1
  go_wp2_with fail
  refine (rsmallI _ d h2 h3).mono ?_
  rintro e w2 ⟨v2, rfl, i2, hb2⟩
  obtain ⟨b2, A2, m2, c2, rfl, i2⟩ := i2.op
  have y2 := hb2.size; (try simp only [World.size_alloc, size_set, size_drew, size_drewN] at y2)
  go_wp2_with fail
  refine (rnew_any _ (fun _ => False) _ _ _ _ _ _ i1.to i2.to (by rw [val_dig]; omega) (Nat.le_trans HN.out (by omega)) (Nat.le_trans HD.out (by omega))).mono ?_
  rintro e w3 ⟨v3, rfl, h3, hb3⟩
  rw [sv_dig, sv_dig] at h3
  have y3 := hb3.size; (try simp only [World.size_alloc, size_set, size_drew, size_drewN] at y3)
  obtain ⟨b2, A2, m2, c2, b3, A3, m3, c3, rfl, h3, -, -⟩ := h3.op
  obtain ⟨e4, g4, -⟩ := (made1 w #[.bool false, .slice none 0 0, .bool false, .slice none 0 0] 27).all (w' := w3)
  go_wp2_with fail
  refine bodyPost_ret (by simp [results, Try.results19, go_sem, e4, g4] <;> rfl) rfl ⟨_, rfl, h3.out, bel⟩

set_option maxHeartbeats 2000000 in
theorem rsign_rat (w : World) (X : Nat → Prop) (v : Value) (q : Rat) (h : RatL 10000000 w X v q) :
    Calls Try.prog 47 #[v] w fun e w' => e = .returned (.int .i64 q.num.sign) ∧ Below w.heap.size w w' := by
  have HR := Lib.hid (h.rsz (by omega))
  obtain ⟨n1, A, m, c, n2, B, m', d, rfl, h, -⟩ := h.op
  obtain ⟨s, hs⟩ : ∃ s, q.num.sign = s := ⟨_, rfl⟩
  rw [hs]
  have HS := Lib.hid hs
  clear hs
  go_enter Try.func47, Try.ntmps47
  go_wp2_with fail
  refine (rclean_rat _ (fun _ => False) _ q h.to).mono ?_
  rintro e w1 ⟨v1, rfl, h1, hb1⟩
  obtain ⟨b2, A2, m2, c2, b3, A3, m3, c3, rfl, h1, j1, j2⟩ := h1.op
  have z1 := sz1 hb1
  have M := made1 w1 #[.bool b2, .slice A2 m2 c2, .bool b3, .slice A3 m3 c3] 27
  have HB := Lib.hid j1.neg_eq
  go_wp2_with fail
  refine (isZero_any _ (fun _ => False) _ _ _ j1.to (Nat.le_trans HR.out.1 (by omega))).mono ?_
  rintro e w2 ⟨he, hb2⟩
  rw [sv_dig] at he
  by_cases hz : q.num = 0
  · rw [decide_eq_true hz] at he
    subst he
    have hs0 : s = 0 := by rw [← HS.out, hz]; rfl
    subst hs0
    clear hz
    go_wp2_with fail
    go_ret
    exact ⟨rfl, bel⟩
  · rw [decide_eq_false hz] at he
    subst he
    obtain ⟨e6, f6, -⟩ := Loc.all M (w' := w2)
    have hb := HB.out
    rcases Int.lt_or_lt_of_ne hz with hl | hl
    · rw [decide_eq_true hl] at hb
      subst hb
      have hs0 : s = -1 := by rw [← HS.out]; exact Int.sign_eq_neg_one_of_neg hl
      subst hs0
      clear hz hl
      go_wp2_with fail
      go_ret
      exact ⟨rfl, bel⟩
    · rw [decide_eq_false (by omega)] at hb
      subst hb
      have hs0 : s = 1 := by rw [← HS.out]; exact Int.sign_eq_one_of_pos hl
      subst hs0
      clear hz hl
      go_wp2_with fail
      go_ret
      exact ⟨rfl, bel⟩

set_option maxHeartbeats 4000000 in
theorem rneg_rat (w : World) (X : Nat → Prop) (v : Value) (q : Rat) (h : RatL 10000000 w X v q) :
    Calls Try.prog 46 #[v] w fun e w' => ∃ v', e = .returned v' ∧ RatV w' (Old w) v' (-q) ∧ Below w.heap.size w w' := by
  have HR := Lib.hid (h.rsz (by omega))
  have HV : Hid (val (dig ((q.den : Nat) : Int).natAbs) ≠ 0) := by show _ ≠ _; rw [val_dig, Int.natAbs_natCast]; exact q.den_nz
  have HE : Hid (Rat.divInt (-q.num) (q.den : Int) = -q) := by show _ = _; rw [← Rat.neg_num, ← Rat.neg_den, Rat.num_divInt_den]
  obtain ⟨n1, A, m, c, n2, B, m', d, rfl, h, -⟩ := h.op
  go_enter Try.func46, Try.ntmps46
  go_wp2_with fail
  refine (rclean_rat _ (fun _ => False) _ q h.to).mono ?_
  rintro e w1 ⟨v1, rfl, h1, hb1⟩
  obtain ⟨b2, A2, m2, c2, b3, A3, m3, c3, rfl, h1, j1, j2⟩ := h1.op
  obtain ⟨z1, z2⟩ := sz2 hb1
  have L1 := made2 w (.cells #[.bool n1, .slice A m c, .bool n2, .slice B m' d] 27) #[.bool false, .slice none 0 0, .bool false, .slice none 0 0] 27
  have M := made1 w1 #[.bool b2, .slice A2 m2 c2, .bool b3, .slice A3 m3 c3] 27
  go_wp2_with fail
  go_region_held3 (fun W => (W.cell? ⟨w1.heap.size, 0, none⟩ = some (.bool b2) ∧ W.cell? ⟨w1.heap.size, 1, none⟩ = some (.slice A2 m2 c2)) ∧ W.cell? ⟨w1.heap.size, 2, none⟩ = some (.bool b3) ∧ W.cell? ⟨w1.heap.size, 3, none⟩ = some (.slice A3 m3 c3))
    (exact ⟨⟨Loc.c 0 M, Loc.c 1 M⟩, Loc.c 2 M, Loc.c 3 M⟩)
    (first
      | (go_at_call 63; refine (rneg_any _ (fun _ => False) _ _ _ j1.to (Nat.le_trans HR.out.1 (by omega))).mono ?_; rintro e u1 ⟨v5, rfl, h5, hb5⟩; rw [sv_dig] at h5; obtain ⟨b5, A5, m5, k5, rfl, h5⟩ := h5.op; have y5 := hb5.size; (try simp only [World.size_alloc, size_set, size_drew, size_drewN] at y5))
      | (go_at_call 16; refine (rnew_any _ (fun _ => False) _ _ _ _ _ _ h5.to j2.to HV.out (by rw [Int.natAbs_neg]; exact HR.out.1) HR.out.2).mono ?_; rintro e u2 ⟨v6, rfl, h6, hb6⟩; rw [sv_dig, sv_dig, HE.out] at h6; obtain ⟨b6, A6, m6, k6, b6', A6', m6', k6', rfl, h6, -, -⟩ := h6.op; have y6 := hb6.size; (try simp only [World.size_alloc, size_set, size_drew, size_drewN] at y6); obtain ⟨e5, g5, l5⟩ := Loc.all L1 (w' := u2); have l52 : w.heap.size < u2.heap.size := (by omega); (first
            | (have q7 := (made2 w1 (.cells #[.bool b2, .slice A2 m2 c2, .bool b3, .slice A3 m3 c3] 27) #[.bool false, .slice none 0 0, .bool false, .slice none 0 0] 27).all (w' := u2); obtain ⟨e7, g7, l7⟩ := q7; have n7 : w.heap.size + 1 ≠ w1.heap.size + 1 := (by omega); have n8 : w.heap.size ≠ w1.heap.size := by omega)
            | (have q7 := (made1 u1 #[.bool false, .slice none 0 0, .bool false, .slice none 0 0] 27).all (w' := u2); obtain ⟨e7, g7, l7⟩ := q7; have n7 : w.heap.size + 1 ≠ u1.heap.size := by omega)
            | skip)))
  all_goals
    go_wp2_with fail
    refine bodyPost_ret (by simp [results, Try.results46, go_sem, *] <;> rfl) rfl ⟨_, rfl, h6.out, bel⟩
end Go.Proofs.Ytooheapikhdllaa

/- Of the reference: Mul, Add, Sub, Divide, Compare. -/
namespace Go.Proofs.Ytooheapikhdllaa
open Go.RowKit
attribute [local go_sem ↓] Go.wp_at_zero Go.wp_at_succ

theorem den_mul_ne (x y : Rat) : Hid (val (dig (((x.den : Nat) : Int) * ((y.den : Nat) : Int)).natAbs) ≠ 0) := by
  show _ ≠ _
  rw [val_dig, Int.natAbs_mul]
  exact Nat.mul_ne_zero (by have := x.den_nz; omega) (by have := y.den_nz; omega)

set_option maxHeartbeats 4000000 in
theorem rmul_rat (w : World) (X : Nat → Prop) (v1 v2 : Value) (x y : Rat) (h1 : RatL 1000000 w X v1 x) (h2 : RatL 1000000 w X v2 y) :
    Calls Try.prog 44 #[v1, v2] w fun e w' => ∃ v', e = .returned v' ∧ RatV w' (Old w) v' (x * y) ∧ Below w.heap.size w w' := by
  have HX := Lib.hid (h1.rsz (by omega))
  have HY := Lib.hid (h2.rsz (by omega))
  have HV := den_mul_ne x y
  have HE : Hid (Rat.divInt (x.num * y.num) ((x.den : Int) * (y.den : Int)) = x * y) := rat_mul x y
  obtain ⟨n1, A, m, c, n2, B, m', d, rfl, h1, -⟩ := h1.op
  obtain ⟨o1, C, p, e, o2, D, p', f, rfl, h2, -⟩ := h2.op
  have L2 := made2 w (.cells #[.bool n1, .slice A m c, .bool n2, .slice B m' d] 27) #[.bool o1, .slice C p e, .bool o2, .slice D p' f] 27
  have L3 := made3 w (.cells #[.bool n1, .slice A m c, .bool n2, .slice B m' d] 27) (.cells #[.bool o1, .slice C p e, .bool o2, .slice D p' f] 27) #[.bool false, .slice none 0 0, .bool false, .slice none 0 0] 27
  go_enter Try.func44, Try.ntmps44
  go_wp2_with fail
  refine (rclean_rat _ (fun _ => False) _ x (h1.mono (by omega)).to).mono ?_
  rintro e w1 ⟨v3, rfl, h3, hb1⟩
  obtain ⟨b3, A3, m3, c3, b3', A3', m3', c3', rfl, h3, i1, i2⟩ := h3.op
  obtain ⟨z1, z2, z3⟩ := sz3 hb1
  obtain ⟨e2, f2, -⟩ := Loc.all L2 (w' := w1)
  have M1 := made1 w1 #[.bool b3, .slice A3 m3 c3, .bool b3', .slice A3' m3' c3'] 27
  go_wp2_with fail
  refine (rclean_rat _ (fun _ => False) _ y (h2.mono (by omega)).to).mono ?_
  rintro e w2 ⟨v4, rfl, h4, hb2⟩
  obtain ⟨b4, A4, m4, c4, b4', A4', m4', c4', rfl, h4, j1, j2⟩ := h4.op
  have y2 := hb2.size; (try simp only [World.size_alloc, size_set, size_drew, size_drewN] at y2)
  have M2 := made1 w2 #[.bool b4, .slice A4 m4 c4, .bool b4', .slice A4' m4' c4'] 27
  clear e2 f2
  go_wp2_with fail
  go_region_held3 (fun W => ((W.cell? ⟨w1.heap.size, 0, none⟩ = some (.bool b3) ∧ W.cell? ⟨w1.heap.size, 1, none⟩ = some (.slice A3 m3 c3)) ∧ W.cell? ⟨w1.heap.size, 2, none⟩ = some (.bool b3') ∧ W.cell? ⟨w1.heap.size, 3, none⟩ = some (.slice A3' m3' c3')) ∧ (W.cell? ⟨w2.heap.size, 0, none⟩ = some (.bool b4) ∧ W.cell? ⟨w2.heap.size, 1, none⟩ = some (.slice A4 m4 c4)) ∧ W.cell? ⟨w2.heap.size, 2, none⟩ = some (.bool b4') ∧ W.cell? ⟨w2.heap.size, 3, none⟩ = some (.slice A4' m4' c4'))
    (exact ⟨⟨⟨Loc.c 0 M1, Loc.c 1 M1⟩, Loc.c 2 M1, Loc.c 3 M1⟩, ⟨Loc.c 0 M2, Loc.c 1 M2⟩, Loc.c 2 M2, Loc.c 3 M2⟩)
    (first
      | (go_at_call_of 83 (Value.agg #[Value.bool b3, Value.slice A3 m3 c3]); refine (rmul_any _ (fun _ => False) _ _ _ _ _ _ i1.to j1.to (Nat.le_trans HX.out.1 (by omega)) (Nat.le_trans HY.out.1 (by omega))).mono ?_; rintro e u1 ⟨v5, rfl, k1, hb5⟩; rw [sv_dig, sv_dig] at k1; obtain ⟨b5, A5, m5, c5, rfl, k1⟩ := k1.op; have y5 := hb5.size; (try simp only [World.size_alloc, size_set, size_drew, size_drewN] at y5))
      | (go_at_call_of 83 (Value.agg #[Value.bool b3', Value.slice A3' m3' c3']); refine (rmul_any _ (fun _ => False) _ _ _ _ _ _ i2.to j2.to (Nat.le_trans HX.out.2 (by omega)) (Nat.le_trans HY.out.2 (by omega))).mono ?_; rintro e u2 ⟨v6, rfl, k2, hb6⟩; rw [sv_dig, sv_dig] at k2; obtain ⟨b6, A6, m6, c6, rfl, k2⟩ := k2.op; have y6 := hb6.size; (try simp only [World.size_alloc, size_set, size_drew, size_drewN] at y6))
      | (go_at_call 16; refine (rnew_any _ (fun _ => False) _ _ _ _ _ _ k1.to k2.to HV.out (Nat.le_trans (len_mulI HX.out.1 HY.out.1) (by omega)) (Nat.le_trans (len_mulI HX.out.2 HY.out.2) (by omega))).mono ?_; rintro e u3 ⟨v7, rfl, h7, hb7⟩; rw [sv_dig, sv_dig, HE.out] at h7; obtain ⟨b7, A7, m7, c7, b7', A7', m7', c7', rfl, h7, -, -⟩ := h7.op; have y7 := hb7.size; (try simp only [World.size_alloc, size_set, size_drew, size_drewN] at y7); obtain ⟨e5, g5, l5⟩ := Loc.all L3 (w' := u3); have l51 : w.heap.size + 1 < u3.heap.size := (by omega); have l52 : w.heap.size < u3.heap.size := (by omega); (first
          | (have q7 := (made2 w2 (.cells #[.bool b4, .slice A4 m4 c4, .bool b4', .slice A4' m4' c4'] 27) #[.bool false, .slice none 0 0, .bool false, .slice none 0 0] 27).all (w' := u3); obtain ⟨e7, g7, l7⟩ := q7; have n7 : w.heap.size + 1 + 1 ≠ w2.heap.size + 1 := (by omega); have n8 : w.heap.size + 1 ≠ w2.heap.size := (by omega))
          | (have q7 := (made1 u1 #[.bool false, .slice none 0 0, .bool false, .slice none 0 0] 27).all (w' := u3); obtain ⟨e7, g7, l7⟩ := q7; have n7 : w.heap.size + 1 + 1 ≠ u1.heap.size := (by omega))
          | (have q7 := (made1 u2 #[.bool false, .slice none 0 0, .bool false, .slice none 0 0] 27).all (w' := u3); obtain ⟨e7, g7, l7⟩ := q7; have n7 : w.heap.size + 1 + 1 ≠ u2.heap.size := (by omega))
          | skip)))
  all_goals
    go_wp2_with fail
    refine bodyPost_ret (by simp [results, Try.results44, go_sem, *] <;> rfl) rfl ⟨_, rfl, h7.out, bel⟩
end Go.Proofs.Ytooheapikhdllaa

/- Of the reference: Add, Sub, Divide, Compare; printed by gen_rat11.py. -/
namespace Go.Proofs.Ytooheapikhdllaa
open Go.RowKit
attribute [local go_sem ↓] Go.wp_at_zero Go.wp_at_succ

set_option maxHeartbeats 4000000 in
theorem radd_rat (w : World) (X : Nat → Prop) (v1 v2 : Value) (x y : Rat) (h1 : RatL 1000000 w X v1 x) (h2 : RatL 1000000 w X v2 y) :
    Calls Try.prog 39 #[v1, v2] w fun e w' => ∃ v', e = .returned v' ∧ RatV w' (Old w) v' (x + y) ∧ Below w.heap.size w w' := by
  have HX := Lib.hid (h1.rsz (by omega))
  have HY := Lib.hid (h2.rsz (by omega))
  have HV := den_mul_ne x y
  have HE : Hid (Rat.divInt (x.num * (y.den : Int) + y.num * (x.den : Int)) ((x.den : Int) * (y.den : Int)) = x + y) := rat_add x y
  have HA := Lib.hid (len_mulI HX.out.1 HY.out.2)
  have HB := Lib.hid (len_mulI HY.out.1 HX.out.2)
  have HS := Lib.hid (len_addI HA.out (Nat.le_trans HB.out (by omega)))
  obtain ⟨n1, A, m, c, n2, B, m', d, rfl, h1, -⟩ := h1.op
  obtain ⟨o1, C, p, e, o2, D, p', f, rfl, h2, -⟩ := h2.op
  have L1 := made1 w #[.bool n1, .slice A m c, .bool n2, .slice B m' d] 27
  have L2 := made2 w (.cells #[.bool n1, .slice A m c, .bool n2, .slice B m' d] 27) #[.bool o1, .slice C p e, .bool o2, .slice D p' f] 27
  have L3 := made3 w (.cells #[.bool n1, .slice A m c, .bool n2, .slice B m' d] 27) (.cells #[.bool o1, .slice C p e, .bool o2, .slice D p' f] 27) #[.bool false, .slice none 0 0, .bool false, .slice none 0 0] 27
  go_enter Try.func39, Try.ntmps39
  go_wp2_with fail
  refine (rclean_rat _ (fun _ => False) _ x (h1.mono (by omega)).to).mono ?_
  rintro e w1 ⟨v3, rfl, h3, hb1⟩
  obtain ⟨b3, A3, m3, c3, b3', A3', m3', c3', rfl, h3, i1, i2⟩ := h3.op
  obtain ⟨z1, z2, z3⟩ := sz3 hb1
  obtain ⟨e2, f2, -⟩ := Loc.all L2 (w' := w1)
  have M1 := made1 w1 #[.bool b3, .slice A3 m3 c3, .bool b3', .slice A3' m3' c3'] 27
  go_wp2_with fail
  refine (rclean_rat _ (fun _ => False) _ y (h2.mono (by omega)).to).mono ?_
  rintro e w2 ⟨v4, rfl, h4, hb2⟩
  obtain ⟨b4, A4, m4, c4, b4', A4', m4', c4', rfl, h4, j1, j2⟩ := h4.op
  have y2 := hb2.size; (try simp only [World.size_alloc, size_set, size_drew, size_drewN] at y2)
  have M2 := made1 w2 #[.bool b4, .slice A4 m4 c4, .bool b4', .slice A4' m4' c4'] 27
  clear e2 f2
  go_upto_region 4 with fail
  go_cut [7] (fun v W => ∃ (g : Nat) (b : Bool) (E : Option Addr) (r s : Nat), v = .pointer (some ⟨g, 0, none⟩) ∧ w2.heap.size < g ∧ Loc W g 24 #[.bool b, .slice E r s] ∧ IntV W (fun b => w.heap.size + 2 = b) (.agg #[.bool b, .slice E r s]) (x.num * (y.den : Int) + y.num * (x.den : Int)) ∧ Below (w2.alloc (.cells #[.bool b4, .slice A4 m4 c4, .bool b4', .slice A4' m4' c4'] 27)).heap.size (w2.alloc (.cells #[.bool b4, .slice A4 m4 c4, .bool b4', .slice A4' m4' c4'] 27)) W)
  case first =>
    go_wp2_with fail
    go_region_held3 (fun W => ((W.cell? ⟨w1.heap.size, 0, none⟩ = some (.bool b3) ∧ W.cell? ⟨w1.heap.size, 1, none⟩ = some (.slice A3 m3 c3)) ∧ W.cell? ⟨w1.heap.size, 2, none⟩ = some (.bool b3') ∧ W.cell? ⟨w1.heap.size, 3, none⟩ = some (.slice A3' m3' c3')) ∧ (W.cell? ⟨w2.heap.size, 0, none⟩ = some (.bool b4) ∧ W.cell? ⟨w2.heap.size, 1, none⟩ = some (.slice A4 m4 c4)) ∧ W.cell? ⟨w2.heap.size, 2, none⟩ = some (.bool b4') ∧ W.cell? ⟨w2.heap.size, 3, none⟩ = some (.slice A4' m4' c4'))
      (exact ⟨⟨⟨Loc.c 0 M1, Loc.c 1 M1⟩, Loc.c 2 M1, Loc.c 3 M1⟩, ⟨Loc.c 0 M2, Loc.c 1 M2⟩, Loc.c 2 M2, Loc.c 3 M2⟩)
      (first
        | (go_at_call_of 83 (Value.agg #[Value.bool b3, Value.slice A3 m3 c3]); refine (rmul_any _ (fun _ => False) _ _ _ _ _ _ i1.to j2.to (Nat.le_trans HX.out.1 (by omega)) (Nat.le_trans HY.out.2 (by omega))).mono ?_; rintro e u1 ⟨v5, rfl, k1, hb5⟩; rw [sv_dig, sv_dig] at k1; obtain ⟨b5, A5, m5, c5, rfl, k1⟩ := k1.op; have y5 := hb5.size; (try simp only [World.size_alloc, size_set, size_drew, size_drewN] at y5))
        | (go_at_call_of 83 (Value.agg #[Value.bool b4, Value.slice A4 m4 c4]); refine (rmul_any _ (fun _ => False) _ _ _ _ _ _ j1.to i2.to (Nat.le_trans HY.out.1 (by omega)) (Nat.le_trans HX.out.2 (by omega))).mono ?_; rintro e u2 ⟨v6, rfl, k2, hb6⟩; rw [sv_dig, sv_dig] at k2; obtain ⟨b6, A6, m6, c6, rfl, k2⟩ := k2.op; have y6 := hb6.size; (try simp only [World.size_alloc, size_set, size_drew, size_drewN] at y6))
        | (go_at_call 82; refine (radd_any _ (fun _ => False) _ _ _ _ _ _ k1.to k2.to (Nat.le_trans HA.out (by omega)) (Nat.le_trans HB.out (by omega))).mono ?_; rintro e u3 ⟨v7, rfl, k3, hb7⟩; rw [sv_dig, sv_dig] at k3; obtain ⟨b7, A7, m7, c7, rfl, k3⟩ := k3.op; have y7 := hb7.size; (try simp only [World.size_alloc, size_set, size_drew, size_drewN] at y7); (first
          | (have q7 := (made2 w2 (.cells #[.bool b4, .slice A4 m4 c4, .bool b4', .slice A4' m4' c4'] 27) #[.bool false, .slice none 0 0] 24).all (w' := u3); have h7 := (made2 w2 (.cells #[.bool b4, .slice A4 m4 c4, .bool b4', .slice A4' m4' c4'] 27) #[.bool false, .slice none 0 0] 24).to (w' := u3); obtain ⟨e7, g7, l7⟩ := q7)
          | (have q7 := (made1 u1 #[.bool false, .slice none 0 0] 24).all (w' := u3); have h7 := (made1 u1 #[.bool false, .slice none 0 0] 24).to (w' := u3); obtain ⟨e7, g7, l7⟩ := q7)
          | (have q7 := (made1 u2 #[.bool false, .slice none 0 0] 24).all (w' := u3); have h7 := (made1 u2 #[.bool false, .slice none 0 0] 24).to (w' := u3); obtain ⟨e7, g7, l7⟩ := q7)
          | skip)))
    all_goals
      go_wp2_with fail
      go_meet
      first
        | (have q := Loc.fill2 (u := .bool b7) (v := .slice A7 m7 c7) h7; refine ⟨_, _, _, _, _, rfl, ?_, q, IntV.out k3, bel⟩; omega)
        | (refine ⟨_, _, _, _, _, rfl, ?_, made1 u3 _ _, IntV.out k3, bel⟩; omega)
  case rest =>
    obtain ⟨g, bg, E, r, s, rfl, hg, M3, k3, hB5⟩ := hcut
    have y8 := hB5.size; (try simp only [World.size_alloc, size_set, size_drew, size_drewN] at y8)
    have q3 := Loc.lt M3
    go_wp2_with fail
    go_region_held3 (fun W => ((W.cell? ⟨w1.heap.size, 2, none⟩ = some (.bool b3') ∧ W.cell? ⟨w1.heap.size, 3, none⟩ = some (.slice A3' m3' c3')) ∧ (W.cell? ⟨w2.heap.size, 2, none⟩ = some (.bool b4') ∧ W.cell? ⟨w2.heap.size, 3, none⟩ = some (.slice A4' m4' c4'))) ∧ W.cell? ⟨g, 0, none⟩ = some (.bool bg) ∧ W.cell? ⟨g, 1, none⟩ = some (.slice E r s))
      (exact ⟨⟨⟨Loc.c 2 M1, Loc.c 3 M1⟩, Loc.c 2 M2, Loc.c 3 M2⟩, Loc.c 0 M3, Loc.c 1 M3⟩)
      (first
        | (go_at_call_of 83 (Value.agg #[Value.bool b3', Value.slice A3' m3' c3']); refine (rmul_any _ (fun _ => False) _ _ _ _ _ _ i2.to j2.to (Nat.le_trans HX.out.2 (by omega)) (Nat.le_trans HY.out.2 (by omega))).mono ?_; rintro e u1 ⟨v5, rfl, k1, hb5⟩; rw [sv_dig, sv_dig] at k1; obtain ⟨b5, A5, m5, c5, rfl, k1⟩ := k1.op; have y5 := hb5.size; (try simp only [World.size_alloc, size_set, size_drew, size_drewN] at y5))
        | (go_at_call 16; refine (rnew_any _ (fun _ => False) _ _ _ _ _ _ k3.to k1.to HV.out (Nat.le_trans HS.out (by omega)) (Nat.le_trans (len_mulI HX.out.2 HY.out.2) (by omega))).mono ?_; rintro e u3 ⟨v7, rfl, h8, hb7⟩; rw [sv_dig, sv_dig, HE.out] at h8; obtain ⟨b7, A7, m7, c7, b7', A7', m7', c7', rfl, h8, -, -⟩ := h8.op; have y7 := hb7.size; (try simp only [World.size_alloc, size_set, size_drew, size_drewN] at y7); obtain ⟨e5, g5, l5⟩ := Loc.all L3 (w' := u3); have l51 : w.heap.size + 1 < u3.heap.size := (by omega); have l52 : w.heap.size < u3.heap.size := (by omega); (first
          | (have q7 := (made1 wc #[.bool false, .slice none 0 0, .bool false, .slice none 0 0] 27).all (w' := u3); have h7 := (made1 wc #[.bool false, .slice none 0 0, .bool false, .slice none 0 0] 27).to (w' := u3); obtain ⟨e7, g7, l7⟩ := q7; have n70 : w.heap.size + 1 + 1 ≠ wc.heap.size := (by omega))
          | (have q7 := (made1 u1 #[.bool false, .slice none 0 0, .bool false, .slice none 0 0] 27).all (w' := u3); have h7 := (made1 u1 #[.bool false, .slice none 0 0, .bool false, .slice none 0 0] 27).to (w' := u3); obtain ⟨e7, g7, l7⟩ := q7; have n70 : w.heap.size + 1 + 1 ≠ u1.heap.size := (by omega))
          | skip)))
    all_goals
      go_wp2_with fail
      refine bodyPost_ret (by simp [results, Try.results39, go_sem, *] <;> rfl) rfl ⟨_, rfl, h8.out, bel⟩
end Go.Proofs.Ytooheapikhdllaa

/- Of the reference: Sub, Divide, Compare; printed by gen_rat11.py. -/
namespace Go.Proofs.Ytooheapikhdllaa
open Go.RowKit
attribute [local go_sem ↓] Go.wp_at_zero Go.wp_at_succ

set_option maxHeartbeats 4000000 in
theorem rsub_rat (w : World) (X : Nat → Prop) (v1 v2 : Value) (x y : Rat) (h1 : RatL 1000000 w X v1 x) (h2 : RatL 1000000 w X v2 y) :
    Calls Try.prog 42 #[v1, v2] w fun e w' => ∃ v', e = .returned v' ∧ RatV w' (Old w) v' (x - y) ∧ Below w.heap.size w w' := by
  have HX := Lib.hid (h1.rsz (by omega))
  have HY := Lib.hid (h2.rsz (by omega))
  have HE : Hid (x + -y = x - y) := (Rat.sub_eq_add_neg x y).symm
  obtain ⟨n1, A, m, c, n2, B, m', d, rfl, h1, -⟩ := h1.op
  obtain ⟨o1, C, p, e, o2, D, p', f, rfl, h2, -⟩ := h2.op
  have L1 := made1 w #[.bool n1, .slice A m c, .bool n2, .slice B m' d] 27
  have L2 := made2 w (.cells #[.bool n1, .slice A m c, .bool n2, .slice B m' d] 27) #[.bool o1, .slice C p e, .bool o2, .slice D p' f] 27
  have L3 := made3 w (.cells #[.bool n1, .slice A m c, .bool n2, .slice B m' d] 27) (.cells #[.bool o1, .slice C p e, .bool o2, .slice D p' f] 27) #[.bool false, .slice none 0 0, .bool false, .slice none 0 0] 27
  go_enter Try.func42, Try.ntmps42
  go_wp2_with fail
  go_region_held3 (fun W => ((W.cell? ⟨w.heap.size, 0, none⟩ = some (.bool n1) ∧ W.cell? ⟨w.heap.size, 1, none⟩ = some (.slice A m c)) ∧ W.cell? ⟨w.heap.size, 2, none⟩ = some (.bool n2) ∧ W.cell? ⟨w.heap.size, 3, none⟩ = some (.slice B m' d)) ∧ (W.cell? ⟨w.heap.size + 1, 0, none⟩ = some (.bool o1) ∧ W.cell? ⟨w.heap.size + 1, 1, none⟩ = some (.slice C p e)) ∧ W.cell? ⟨w.heap.size + 1, 2, none⟩ = some (.bool o2) ∧ W.cell? ⟨w.heap.size + 1, 3, none⟩ = some (.slice D p' f))
    (exact ⟨⟨⟨Loc.c 0 L1, Loc.c 1 L1⟩, Loc.c 2 L1, Loc.c 3 L1⟩, ⟨Loc.c 0 L2, Loc.c 1 L2⟩, Loc.c 2 L2, Loc.c 3 L2⟩)
    (first
      | (go_at_call 46; refine (rneg_rat _ (fun _ => False) _ y (h2.mono (by omega)).to).mono ?_; rintro e u1 ⟨v5, rfl, h5, hb5⟩; obtain ⟨b5, A5, m5, k5, b5', A5', m5', k5', rfl, h5, -, -⟩ := h5.op; have y5 := hb5.size; (try simp only [World.size_alloc, size_set, size_drew, size_drewN] at y5))
      | (go_at_call 39; refine (radd_rat _ (fun _ => False) _ _ x (-y) h1.to (h5.len HY.out.neg).to).mono ?_; rintro e u2 ⟨v6, rfl, h6, hb6⟩; rw [HE.out] at h6; obtain ⟨b6, A6, m6, k6, b6', A6', m6', k6', rfl, h6, -, -⟩ := h6.op; have y6 := hb6.size; (try simp only [World.size_alloc, size_set, size_drew, size_drewN] at y6); obtain ⟨e5, g5, -⟩ := Loc.all L3 (w' := u2)))
  all_goals
    go_wp2_with fail
    refine bodyPost_ret (by simp [results, Try.results42, go_sem, e5, g5] <;> rfl) rfl ⟨_, rfl, h6.out, bel⟩

set_option maxHeartbeats 4000000 in
theorem rdivide_rat_zero (w : World) (X : Nat → Prop) (v1 v2 : Value) (x y : Rat) (h1 : RatL 1000000 w X v1 x) (h2 : RatL 1000000 w X v2 y) (hy : y = 0) :
    Calls Try.prog 41 #[v1, v2] w fun e w' => e = .returned (.tuple #[.agg #[.bool false, .slice none 0 0, .bool false, .slice none 0 0], .int .i64 3]) ∧ Below w.heap.size w w' := by
  have HX := Lib.hid (h1.rsz (by omega))
  have HY := Lib.hid (h2.rsz (by omega))
  have HV : Hid (val (dig (((x.den : Nat) : Int) * y.num).natAbs) = 0) := by show _ = _; rw [val_dig, hy]; simp
  clear hy
  have HE : Hid (Rat.divInt (x.num * (y.den : Int)) ((x.den : Int) * y.num) = x / y) := rat_div x y
  obtain ⟨n1, A, m, c, n2, B, m', d, rfl, h1, -⟩ := h1.op
  obtain ⟨o1, C, p, e, o2, D, p', f, rfl, h2, -⟩ := h2.op
  have L1 := made1 w #[.bool n1, .slice A m c, .bool n2, .slice B m' d] 27
  have L2 := made2 w (.cells #[.bool n1, .slice A m c, .bool n2, .slice B m' d] 27) #[.bool o1, .slice C p e, .bool o2, .slice D p' f] 27
  have L3 := made3 w (.cells #[.bool n1, .slice A m c, .bool n2, .slice B m' d] 27) (.cells #[.bool o1, .slice C p e, .bool o2, .slice D p' f] 27) #[.bool false, .slice none 0 0, .bool false, .slice none 0 0] 27
  go_enter Try.func41, Try.ntmps41
  go_wp2_with fail
  refine (rclean_rat _ (fun _ => False) _ x (h1.mono (by omega)).to).mono ?_
  rintro e w1 ⟨v3, rfl, h3, hb1⟩
  obtain ⟨b3, A3, m3, c3, b3', A3', m3', c3', rfl, h3, i1, i2⟩ := h3.op
  obtain ⟨z1, z2, z3⟩ := sz3 hb1
  obtain ⟨e2, f2, -⟩ := Loc.all L2 (w' := w1)
  have M1 := made1 w1 #[.bool b3, .slice A3 m3 c3, .bool b3', .slice A3' m3' c3'] 27
  go_wp2_with fail
  refine (rclean_rat _ (fun _ => False) _ y (h2.mono (by omega)).to).mono ?_
  rintro e w2 ⟨v4, rfl, h4, hb2⟩
  obtain ⟨b4, A4, m4, c4, b4', A4', m4', c4', rfl, h4, j1, j2⟩ := h4.op
  have y2 := hb2.size; (try simp only [World.size_alloc, size_set, size_drew, size_drewN] at y2)
  have M2 := made1 w2 #[.bool b4, .slice A4 m4 c4, .bool b4', .slice A4' m4' c4'] 27
  clear e2 f2
  go_wp2_with fail
  go_region_held3 (fun W => ((W.cell? ⟨w1.heap.size, 0, none⟩ = some (.bool b3) ∧ W.cell? ⟨w1.heap.size, 1, none⟩ = some (.slice A3 m3 c3)) ∧ W.cell? ⟨w1.heap.size, 2, none⟩ = some (.bool b3') ∧ W.cell? ⟨w1.heap.size, 3, none⟩ = some (.slice A3' m3' c3')) ∧ (W.cell? ⟨w2.heap.size, 0, none⟩ = some (.bool b4) ∧ W.cell? ⟨w2.heap.size, 1, none⟩ = some (.slice A4 m4 c4)) ∧ W.cell? ⟨w2.heap.size, 2, none⟩ = some (.bool b4') ∧ W.cell? ⟨w2.heap.size, 3, none⟩ = some (.slice A4' m4' c4'))
    (exact ⟨⟨⟨Loc.c 0 M1, Loc.c 1 M1⟩, Loc.c 2 M1, Loc.c 3 M1⟩, ⟨Loc.c 0 M2, Loc.c 1 M2⟩, Loc.c 2 M2, Loc.c 3 M2⟩)
    (first
      | (go_at_call_of 83 (Value.agg #[Value.bool b3, Value.slice A3 m3 c3]); refine (rmul_any _ (fun _ => False) _ _ _ _ _ _ i1.to j2.to (Nat.le_trans HX.out.1 (by omega)) (Nat.le_trans HY.out.2 (by omega))).mono ?_; rintro e u1 ⟨v5, rfl, k1, hb5⟩; rw [sv_dig, sv_dig] at k1; obtain ⟨b5, A5, m5, c5, rfl, k1⟩ := k1.op; have y5 := hb5.size; (try simp only [World.size_alloc, size_set, size_drew, size_drewN] at y5))
      | (go_at_call_of 83 (Value.agg #[Value.bool b3', Value.slice A3' m3' c3']); refine (rmul_any _ (fun _ => False) _ _ _ _ _ _ i2.to j1.to (Nat.le_trans HX.out.2 (by omega)) (Nat.le_trans HY.out.1 (by omega))).mono ?_; rintro e u2 ⟨v6, rfl, k2, hb6⟩; rw [sv_dig, sv_dig] at k2; obtain ⟨b6, A6, m6, c6, rfl, k2⟩ := k2.op; have y6 := hb6.size; (try simp only [World.size_alloc, size_set, size_drew, size_drewN] at y6))
      | (go_at_call 16; refine (rnew_zero _ (fun _ => False) _ _ _ _ _ _ k1.to k2.to HV.out (Nat.le_trans (len_mulI HX.out.1 HY.out.2) (by omega)) (Nat.le_trans (len_mulI HX.out.2 HY.out.1) (by omega))).mono ?_; rintro e u3 ⟨rfl, hb7⟩; have y7 := hb7.size; (try simp only [World.size_alloc, size_set, size_drew, size_drewN] at y7); obtain ⟨e5, g5, l5⟩ := Loc.all L3 (w' := u3)))
  all_goals
    go_wp2_with fail
    refine bodyPost_ret (by simp [results, Try.results41, go_sem, e5, g5] <;> rfl) rfl ⟨rfl, bel⟩

set_option maxHeartbeats 4000000 in
theorem rdivide_rat_any (w : World) (X : Nat → Prop) (v1 v2 : Value) (x y : Rat) (h1 : RatL 1000000 w X v1 x) (h2 : RatL 1000000 w X v2 y) (hy : y ≠ 0) :
    Calls Try.prog 41 #[v1, v2] w fun e w' => ∃ v', e = .returned (.tuple #[v', .int .i64 0]) ∧ RatV w' (Old w) v' (x / y) ∧ Below w.heap.size w w' := by
  have HX := Lib.hid (h1.rsz (by omega))
  have HY := Lib.hid (h2.rsz (by omega))
  have HV : Hid (val (dig (((x.den : Nat) : Int) * y.num).natAbs) ≠ 0) := by
    show _ ≠ _
    rw [val_dig, Int.natAbs_mul]
    have h1 := x.den_nz
    have h2 : y.num ≠ 0 := fun h => hy (Rat.num_eq_zero.1 h)
    exact Nat.mul_ne_zero (by omega) (by omega)
  clear hy
  have HE : Hid (Rat.divInt (x.num * (y.den : Int)) ((x.den : Int) * y.num) = x / y) := rat_div x y
  obtain ⟨n1, A, m, c, n2, B, m', d, rfl, h1, -⟩ := h1.op
  obtain ⟨o1, C, p, e, o2, D, p', f, rfl, h2, -⟩ := h2.op
  have L1 := made1 w #[.bool n1, .slice A m c, .bool n2, .slice B m' d] 27
  have L2 := made2 w (.cells #[.bool n1, .slice A m c, .bool n2, .slice B m' d] 27) #[.bool o1, .slice C p e, .bool o2, .slice D p' f] 27
  have L3 := made3 w (.cells #[.bool n1, .slice A m c, .bool n2, .slice B m' d] 27) (.cells #[.bool o1, .slice C p e, .bool o2, .slice D p' f] 27) #[.bool false, .slice none 0 0, .bool false, .slice none 0 0] 27
  go_enter Try.func41, Try.ntmps41
  go_wp2_with fail
  refine (rclean_rat _ (fun _ => False) _ x (h1.mono (by omega)).to).mono ?_
  rintro e w1 ⟨v3, rfl, h3, hb1⟩
  obtain ⟨b3, A3, m3, c3, b3', A3', m3', c3', rfl, h3, i1, i2⟩ := h3.op
  obtain ⟨z1, z2, z3⟩ := sz3 hb1
  obtain ⟨e2, f2, -⟩ := Loc.all L2 (w' := w1)
  have M1 := made1 w1 #[.bool b3, .slice A3 m3 c3, .bool b3', .slice A3' m3' c3'] 27
  go_wp2_with fail
  refine (rclean_rat _ (fun _ => False) _ y (h2.mono (by omega)).to).mono ?_
  rintro e w2 ⟨v4, rfl, h4, hb2⟩
  obtain ⟨b4, A4, m4, c4, b4', A4', m4', c4', rfl, h4, j1, j2⟩ := h4.op
  have y2 := hb2.size; (try simp only [World.size_alloc, size_set, size_drew, size_drewN] at y2)
  have M2 := made1 w2 #[.bool b4, .slice A4 m4 c4, .bool b4', .slice A4' m4' c4'] 27
  clear e2 f2
  go_wp2_with fail
  go_region_held3 (fun W => ((W.cell? ⟨w1.heap.size, 0, none⟩ = some (.bool b3) ∧ W.cell? ⟨w1.heap.size, 1, none⟩ = some (.slice A3 m3 c3)) ∧ W.cell? ⟨w1.heap.size, 2, none⟩ = some (.bool b3') ∧ W.cell? ⟨w1.heap.size, 3, none⟩ = some (.slice A3' m3' c3')) ∧ (W.cell? ⟨w2.heap.size, 0, none⟩ = some (.bool b4) ∧ W.cell? ⟨w2.heap.size, 1, none⟩ = some (.slice A4 m4 c4)) ∧ W.cell? ⟨w2.heap.size, 2, none⟩ = some (.bool b4') ∧ W.cell? ⟨w2.heap.size, 3, none⟩ = some (.slice A4' m4' c4'))
    (exact ⟨⟨⟨Loc.c 0 M1, Loc.c 1 M1⟩, Loc.c 2 M1, Loc.c 3 M1⟩, ⟨Loc.c 0 M2, Loc.c 1 M2⟩, Loc.c 2 M2, Loc.c 3 M2⟩)
    (first
      | (go_at_call_of 83 (Value.agg #[Value.bool b3, Value.slice A3 m3 c3]); refine (rmul_any _ (fun _ => False) _ _ _ _ _ _ i1.to j2.to (Nat.le_trans HX.out.1 (by omega)) (Nat.le_trans HY.out.2 (by omega))).mono ?_; rintro e u1 ⟨v5, rfl, k1, hb5⟩; rw [sv_dig, sv_dig] at k1; obtain ⟨b5, A5, m5, c5, rfl, k1⟩ := k1.op; have y5 := hb5.size; (try simp only [World.size_alloc, size_set, size_drew, size_drewN] at y5))
      | (go_at_call_of 83 (Value.agg #[Value.bool b3', Value.slice A3' m3' c3']); refine (rmul_any _ (fun _ => False) _ _ _ _ _ _ i2.to j1.to (Nat.le_trans HX.out.2 (by omega)) (Nat.le_trans HY.out.1 (by omega))).mono ?_; rintro e u2 ⟨v6, rfl, k2, hb6⟩; rw [sv_dig, sv_dig] at k2; obtain ⟨b6, A6, m6, c6, rfl, k2⟩ := k2.op; have y6 := hb6.size; (try simp only [World.size_alloc, size_set, size_drew, size_drewN] at y6))
      | (go_at_call 16; refine (rnew_any _ (fun _ => False) _ _ _ _ _ _ k1.to k2.to HV.out (Nat.le_trans (len_mulI HX.out.1 HY.out.2) (by omega)) (Nat.le_trans (len_mulI HX.out.2 HY.out.1) (by omega))).mono ?_; rintro e u3 ⟨v7, rfl, h8, hb7⟩; rw [sv_dig, sv_dig, HE.out] at h8; obtain ⟨b7, A7, m7, c7, b7', A7', m7', c7', rfl, h8, -, -⟩ := h8.op; have y7 := hb7.size; (try simp only [World.size_alloc, size_set, size_drew, size_drewN] at y7); obtain ⟨e5, g5, l5⟩ := Loc.all L3 (w' := u3)))
  all_goals
    go_wp2_with fail
    refine bodyPost_ret (by simp [results, Try.results41, go_sem, e5, g5] <;> rfl) rfl ⟨_, rfl, h8.out, bel⟩

set_option maxHeartbeats 4000000 in
theorem rcompare_rat (w : World) (X : Nat → Prop) (v1 v2 : Value) (x y : Rat) (h1 : RatL 1000000 w X v1 x) (h2 : RatL 1000000 w X v2 y) :
    Calls Try.prog 31 #[v1, v2] w fun e w' => e = .returned (.int .i64 (rcmp x y)) ∧ Below w.heap.size w w' := by
  have HX := Lib.hid (h1.rsz (by omega))
  have HY := Lib.hid (h2.rsz (by omega))
  obtain ⟨n1, A, m, c, n2, B, m', d, rfl, h1, -⟩ := h1.op
  obtain ⟨o1, C, p, e, o2, D, p', f, rfl, h2, -⟩ := h2.op
  have L1 := made1 w #[.bool n1, .slice A m c, .bool n2, .slice B m' d] 27
  have L2 := made2 w (.cells #[.bool n1, .slice A m c, .bool n2, .slice B m' d] 27) #[.bool o1, .slice C p e, .bool o2, .slice D p' f] 27
  go_enter Try.func31, Try.ntmps31
  go_wp2_with fail
  refine (rsub_rat _ (fun _ => False) _ _ x y h1.to h2.to).mono ?_
  rintro e w1 ⟨v3, rfl, h3, hb1⟩
  obtain ⟨b3, A3, m3, c3, b3', A3', m3', c3', rfl, h3, -, -⟩ := h3.op
  obtain ⟨z1, z2⟩ := sz2 hb1
  have HR : Rsz 10000000 (x - y) := by
    rw [Rat.sub_eq_add_neg]
    exact (HX.out.add HY.out.neg).mono (by omega)
  go_wp2_with fail
  refine (rsign_rat _ (fun _ => False) _ (x - y) (h3.len HR).to).mono ?_
  rintro e w2 ⟨rfl, hb2⟩
  have y2 := hb2.size; (try simp only [World.size_alloc, size_set, size_drew, size_drewN] at y2)
  go_wp2_with fail
  go_ret
  exact ⟨rfl, bel⟩
end Go.Proofs.Ytooheapikhdllaa

/- Equality of fields: sameInt and Same of the reference, identical and same of the program. -/
namespace Go.Proofs.Ytooheapikhdllaa
open Go.RowKit
attribute [local go_sem ↓] Go.wp_at_zero Go.wp_at_succ

set_option maxHeartbeats 1000000 in
theorem rsameInt_any (w : World) (X : Nat → Prop) (v1 v2 : Value) (n1 n2 : Bool) (xs ys : List Nat) (h1 : IntR w X v1 n1 xs) (h2 : IntR w X v2 n2 ys) :
    Calls Try.prog 66 #[v1, v2] w fun e w' => e = .returned (.bool (sameR n1 xs n2 ys)) ∧ Below w.heap.size w w' := by
  obtain ⟨A, c, rfl, _, _, H1⟩ := h1.open_
  obtain ⟨B, d, rfl, _, _, H2⟩ := h2.open_
  have hm1 := H1.lt_max
  have hm2 := H2.lt_max
  by_cases hn : n1 = n2
  · subst hn
    by_cases hl : xs.length = ys.length
    · have hlb : ((xs.length : Int) != (ys.length : Int)) = false := by simp [hl]
      have HL := Lib.hid hl
      have hl1 : xs.length ≤ ys.length := by omega
      have hl2 : ys.length ≤ xs.length := by omega
      clear hl
      go_enter Try.func66, Try.ntmps66
      go_wp2_with fail
      go_loopw [5] (fun i wr => ∃ (k n : Nat), k ≤ xs.length ∧ i = .int .i64 k ∧ xs.take k = ys.take k ∧ wr = ((w.alloc (.cells #[.bool n1, .slice A xs.length c] 24)).alloc (.cells #[.bool n1, .slice B ys.length d] 24)).drewN n) (fun i _ => xs.length - (intOf i).toNat)
      case atStart => exact ⟨0, 0, by omega, rfl, by simp, rfl⟩
      case round =>
        obtain ⟨k, n, hk, rfl, htk, rfl⟩ := hrel
        have Htk := Lib.hid htk
        clear htk
        by_cases hlt : k < xs.length
        · have hq : k < ys.length := by omega
          obtain ⟨a, rfl, ha, _, hca⟩ := H1.at_ hlt
          obtain ⟨b, rfl, hb, _, hcb⟩ := H2.at_ hq
          have ea : ((w.alloc (.cells #[.bool n1, .slice (some a) xs.length c] 24)).alloc (.cells #[.bool n1, .slice (some b) ys.length d] 24)).cell? (a.add k) = some (.int .u32 ((xs[k] : Nat) : Int)) := ((below2 w _ _).cell (by rw [addr_block]; exact ha)).trans hca
          have eb : ((w.alloc (.cells #[.bool n1, .slice (some a) xs.length c] 24)).alloc (.cells #[.bool n1, .slice (some b) ys.length d] 24)).cell? (b.add k) = some (.int .u32 ((ys[k] : Nat) : Int)) := ((below2 w _ _).cell (by rw [addr_block]; exact hb)).trans hcb
          have ip : (k : Int) < (xs.length : Int) := by omega
          have iq : (k : Int) < (ys.length : Int) := by omega
          by_cases he : xs[k] = ys[k]
          · have hbb : (((xs[k] : Nat) : Int) != ((ys[k] : Nat) : Int)) = false := by simp [he]
            have HE := Lib.hid he
            clear he
            go_wp2_with fail
            go_quiet (fail)
            go_wp2_with fail
            go_roundw
            case rel => exact ⟨k + 1, n + nq, by omega, by go_num, by rw [List.take_succ_eq_append_getElem hlt, List.take_succ_eq_append_getElem hq, HE.out, Htk.out], rfl⟩
            case measure => simp [intOf] <;> omega
          · have hbb : (((xs[k] : Nat) : Int) != ((ys[k] : Nat) : Int)) = true := by simp; omega
            have hs : sameR n1 xs n1 ys = false := by unfold sameR; simp; intro e; subst e; exact he rfl
            have HS := Lib.hid hs
            clear hs
            go_wp2_with fail
            go_quiet (fail)
            go_wp2_with fail
            go_ret
            exact ⟨ret_eq (bool_eq HS.out.symm), below_drewN (below_drewN (below2 _ _ _) _) _⟩
        · obtain rfl : k = xs.length := by omega
          go_wp2_with fail
          go_ret
          refine ⟨ret_eq (bool_eq ?_), below_drewN (below2 _ _ _) _⟩
          have h := Htk.out
          rw [List.take_length, List.take_of_length_le (by omega)] at h
          simp [sameR, h]
    · have hlb : ((xs.length : Int) != (ys.length : Int)) = true := by simp; omega
      have hs : sameR n1 xs n1 ys = false := by unfold sameR; simp; intro e; subst e; exact hl rfl
      have HS := Lib.hid hs
      clear hs
      cases n1
      all_goals
        go_enter Try.func66, Try.ntmps66
        go_wp2_with fail
        go_ret
        exact ⟨ret_eq (bool_eq HS.out.symm), below2 _ _ _⟩
  · have hs : sameR n1 xs n2 ys = false := by unfold sameR; simp [hn]
    have HS := Lib.hid hs
    clear hs
    cases n1 <;> cases n2
    all_goals first | exact absurd rfl hn | skip
    all_goals
      clear hn
      go_enter Try.func66, Try.ntmps66
      go_wp2_with fail
      go_ret
      exact ⟨ret_eq (bool_eq HS.out.symm), below2 _ _ _⟩

set_option maxHeartbeats 1000000 in
theorem identical_any (w : World) (X : Nat → Prop) (v1 v2 : Value) (n1 n2 : Bool) (xs ys : List Nat) (h1 : IntR w X v1 n1 xs) (h2 : IntR w X v2 n2 ys) :
    Calls Try.prog 112 #[v1, v2] w fun e w' => e = .returned (.bool (sameR n1 xs n2 ys)) ∧ Below w.heap.size w w' := by
  obtain ⟨A, c, rfl, _, _, H1⟩ := h1.open_
  obtain ⟨B, d, rfl, _, _, H2⟩ := h2.open_
  have hm1 := H1.lt_max
  have hm2 := H2.lt_max
  by_cases hn : n1 = n2
  · subst hn
    by_cases hl : xs.length = ys.length
    · have hlb : ((xs.length : Int) != (ys.length : Int)) = false := by simp [hl]
      have HL := Lib.hid hl
      have hl1 : xs.length ≤ ys.length := by omega
      have hl2 : ys.length ≤ xs.length := by omega
      clear hl
      go_enter Try.func112, Try.ntmps112
      go_wp2_with fail
      go_loop [24] (fun i => ∃ k : Nat, k ≤ xs.length ∧ i = .int .i64 k ∧ xs.take k = ys.take k) (fun i => xs.length - (intOf i).toNat)
      case atStart => exact ⟨0, by omega, rfl, by simp⟩
      case round =>
        obtain ⟨k, hk, rfl, htk⟩ := hrel
        have Htk := Lib.hid htk
        clear htk
        by_cases hlt : k < xs.length
        · have hq : k < ys.length := by omega
          obtain ⟨a, rfl, ha, _, hca⟩ := H1.at_ hlt
          obtain ⟨b, rfl, hb, _, hcb⟩ := H2.at_ hq
          have ea : ((w.alloc (.cells #[.bool n1, .slice (some a) xs.length c] 24)).alloc (.cells #[.bool n1, .slice (some b) ys.length d] 24)).cell? (a.add k) = some (.int .u32 ((xs[k] : Nat) : Int)) := ((below2 w _ _).cell (by rw [addr_block]; exact ha)).trans hca
          have eb : ((w.alloc (.cells #[.bool n1, .slice (some a) xs.length c] 24)).alloc (.cells #[.bool n1, .slice (some b) ys.length d] 24)).cell? (b.add k) = some (.int .u32 ((ys[k] : Nat) : Int)) := ((below2 w _ _).cell (by rw [addr_block]; exact hb)).trans hcb
          have ip : (k : Int) < (xs.length : Int) := by omega
          have iq : (k : Int) < (ys.length : Int) := by omega
          by_cases he : xs[k] = ys[k]
          · have hbb : (((ys[k] : Nat) : Int) != ((xs[k] : Nat) : Int)) = false := by simp [he]
            have HE := Lib.hid he
            clear he
            go_wp2_with fail
            go_round
            case rel => exact ⟨k + 1, by omega, by go_num, by rw [List.take_succ_eq_append_getElem hlt, List.take_succ_eq_append_getElem hq, HE.out, Htk.out]⟩
            case measure => simp [intOf] <;> omega
          · have hbb : (((ys[k] : Nat) : Int) != ((xs[k] : Nat) : Int)) = true := by simp; omega
            have hs : sameR n1 xs n1 ys = false := by unfold sameR; simp; intro e; subst e; exact he rfl
            have HS := Lib.hid hs
            clear hs
            go_wp2_with fail
            go_ret
            exact ⟨ret_eq (bool_eq HS.out.symm), below2 _ _ _⟩
        · obtain rfl : k = xs.length := by omega
          go_wp2_with fail
          go_ret
          refine ⟨ret_eq (bool_eq ?_), below2 _ _ _⟩
          have h := Htk.out
          rw [List.take_length, List.take_of_length_le (by omega)] at h
          simp [sameR, h]
    · have hlb : ((xs.length : Int) != (ys.length : Int)) = true := by simp; omega
      have hs : sameR n1 xs n1 ys = false := by unfold sameR; simp; intro e; subst e; exact hl rfl
      have HS := Lib.hid hs
      clear hs
      cases n1
      all_goals
        go_enter Try.func112, Try.ntmps112
        go_wp2_with fail
        go_ret
        exact ⟨ret_eq (bool_eq HS.out.symm), below2 _ _ _⟩
  · have hs : sameR n1 xs n2 ys = false := by unfold sameR; simp [hn]
    have HS := Lib.hid hs
    clear hs
    cases n1 <;> cases n2
    all_goals first | exact absurd rfl hn | skip
    all_goals
      clear hn
      go_enter Try.func112, Try.ntmps112
      go_wp2_with fail
      go_ret
      exact ⟨ret_eq (bool_eq HS.out.symm), below2 _ _ _⟩

theorem same_num_den (x y : Rat) : (decide (x.num = y.num) && decide ((x.den : Int) = (y.den : Int))) = decide (x = y) := by
  rw [Bool.eq_iff_iff]
  simp only [Bool.and_eq_true, decide_eq_true_eq]
  constructor
  · rintro ⟨h1, h2⟩; exact Rat.ext h1 (by omega)
  · rintro rfl; exact ⟨rfl, rfl⟩

set_option maxHeartbeats 1000000 in
theorem rsame_any (w : World) (X : Nat → Prop) (v1 v2 : Value) (n1 n2 o1 o2 : Bool) (xs ys us vs : List Nat) (h1 : RatR w X v1 n1 xs n2 ys) (h2 : RatR w X v2 o1 us o2 vs) :
    Calls Try.prog 17 #[v1, v2] w fun e w' => e = .returned (.bool (sameR n1 xs o1 us && sameR n2 ys o2 vs)) ∧ Below w.heap.size w w' := by
  obtain ⟨A, c, B, d, rfl, i1, i2⟩ := h1
  obtain ⟨C, p, D, f, rfl, j1, j2⟩ := h2
  obtain ⟨b, hb⟩ : ∃ b, sameR n1 xs o1 us = b := ⟨_, rfl⟩
  obtain ⟨b', hb'⟩ : ∃ b, sameR n2 ys o2 vs = b := ⟨_, rfl⟩
  rw [hb, hb']
  have HB := Lib.hid hb
  have HB' := Lib.hid hb'
  clear hb hb'
  have L1 := made1 w #[.bool n1, .slice A xs.length c, .bool n2, .slice B ys.length d] 27
  have L2 := made2 w (.cells #[.bool n1, .slice A xs.length c, .bool n2, .slice B ys.length d] 27) #[.bool o1, .slice C us.length p, .bool o2, .slice D vs.length f] 27
  go_enter Try.func17, Try.ntmps17
  go_wp2_with fail
  refine (rsameInt_any _ (fun _ => False) _ _ n1 o1 xs us i1.to j1.to).mono ?_
  rintro e w1 ⟨he, hb1⟩
  rw [HB.out] at he
  subst he
  obtain ⟨e1, f1, -⟩ := Loc.all L1 (w' := w1)
  obtain ⟨e2, f2, -⟩ := Loc.all L2 (w' := w1)
  have y1 := hb1.size; (try simp only [World.size_alloc, size_set, size_drew, size_drewN] at y1)
  cases b
  · go_wp2_with fail
    go_ret
    exact ⟨rfl, bel⟩
  · go_wp2_with fail
    refine (rsameInt_any _ (fun _ => False) _ _ n2 o2 ys vs i2.to j2.to).mono ?_
    rintro e w2 ⟨he, hb2⟩
    rw [HB'.out] at he
    subst he
    have y2 := hb2.size; (try simp only [World.size_alloc, size_set, size_drew, size_drewN] at y2)
    go_wp2_with fail
    go_ret
    exact ⟨rfl, bel⟩
theorem rsame_V (w : World) (X Y : Nat → Prop) (v1 v2 : Value) (x y : Rat) (h1 : RatV w X v1 x) (h2 : RatV w Y v2 y) :
    Calls Try.prog 17 #[v1, v2] w fun e w' => e = .returned (.bool (decide (x = y))) ∧ Below w.heap.size w w' :=
  (rsame_any w (fun _ => False) v1 v2 _ _ _ _ _ _ _ _ (h1.weak (fun _ _ h => h.elim)) (h2.weak (fun _ _ h => h.elim))).mono fun e w' h => by rw [sameR_V, sameR_V, same_num_den] at h; exact h

set_option maxHeartbeats 1000000 in
theorem psame_any (w : World) (X : Nat → Prop) (v1 v2 : Value) (n1 n2 o1 o2 : Bool) (xs ys us vs : List Nat) (h1 : RatR w X v1 n1 xs n2 ys) (h2 : RatR w X v2 o1 us o2 vs) :
    Calls Try.prog 85 #[v1, v2] w fun e w' => e = .returned (.bool (sameR n1 xs o1 us && sameR n2 ys o2 vs)) ∧ Below w.heap.size w w' := by
  obtain ⟨A, c, B, d, rfl, i1, i2⟩ := h1
  obtain ⟨C, p, D, f, rfl, j1, j2⟩ := h2
  obtain ⟨b, hb⟩ : ∃ b, sameR n1 xs o1 us = b := ⟨_, rfl⟩
  obtain ⟨b', hb'⟩ : ∃ b, sameR n2 ys o2 vs = b := ⟨_, rfl⟩
  rw [hb, hb']
  have HB := Lib.hid hb
  have HB' := Lib.hid hb'
  clear hb hb'
  have L1 := made1 w #[.bool n1, .slice A xs.length c, .bool n2, .slice B ys.length d] 27
  have L2 := made2 w (.cells #[.bool n1, .slice A xs.length c, .bool n2, .slice B ys.length d] 27) #[.bool o1, .slice C us.length p, .bool o2, .slice D vs.length f] 27
  go_enter Try.func85, Try.ntmps85
  go_wp2_with fail
  refine (identical_any _ (fun _ => False) _ _ n1 o1 xs us i1.to j1.to).mono ?_
  rintro e w1 ⟨he, hb1⟩
  rw [HB.out] at he
  subst he
  obtain ⟨e1, f1, -⟩ := Loc.all L1 (w' := w1)
  obtain ⟨e2, f2, -⟩ := Loc.all L2 (w' := w1)
  have y1 := hb1.size; (try simp only [World.size_alloc, size_set, size_drew, size_drewN] at y1)
  cases b
  · go_wp2_with fail
    go_ret
    exact ⟨rfl, bel⟩
  · go_wp2_with fail
    refine (identical_any _ (fun _ => False) _ _ n2 o2 ys vs i2.to j2.to).mono ?_
    rintro e w2 ⟨he, hb2⟩
    rw [HB'.out] at he
    subst he
    have y2 := hb2.size; (try simp only [World.size_alloc, size_set, size_drew, size_drewN] at y2)
    go_wp2_with fail
    go_ret
    exact ⟨rfl, bel⟩
theorem psame_V (w : World) (X Y : Nat → Prop) (v1 v2 : Value) (x y : Rat) (h1 : RatV w X v1 x) (h2 : RatV w Y v2 y) :
    Calls Try.prog 85 #[v1, v2] w fun e w' => e = .returned (.bool (decide (x = y))) ∧ Below w.heap.size w w' :=
  (psame_any w (fun _ => False) v1 v2 _ _ _ _ _ _ _ _ (h1.weak (fun _ _ h => h.elim)) (h2.weak (fun _ _ h => h.elim))).mono fun e w' h => by rw [sameR_V, sameR_V, same_num_den] at h; exact h
end Go.Proofs.Ytooheapikhdllaa

/- slices.Reverse at []byte. -/
namespace Go.Proofs.Ytooheapikhdllaa
open Go.RowKit

set_option maxHeartbeats 1000000 in
theorem reverse_any (w : World) (base e g n cap : Nat) (xs : List Nat) (h : w.ownsRow base 5 1 (.slice (some ⟨g, 0, none⟩) n cap) n (nums .u8 xs)) (hl : xs.length = n) (hm : n ≤ 1000000000000) :
    Calls Try.prog 100 #[.slice (some ⟨g, 0, none⟩) n cap] w fun e w' => e = .returned (.tuple #[]) ∧ w'.ownsRow base 5 1 (.slice (some ⟨g, 0, none⟩) n cap) n (nums .u8 xs.reverse) ∧ w.grownBy w' (some g) := by
  have HL := Lib.hid hl
  have hl1 : xs.length ≤ n := by omega
  have hl2 : n ≤ xs.length := by omega
  clear hl
  go_enter Try.func100, Try.ntmps100
  go_wp2_with fail
  go_loopw [2, 3] (fun i j wr => ∃ (k : Nat) (ys : List Nat), k + k ≤ n + 1 ∧ i = .int .i64 k ∧ j = .int .i64 ((n : Int) - 1 - k) ∧ ys.length = n ∧ wr.ownsRow base 5 1 (.slice (some ⟨g, 0, none⟩) n cap) n (nums .u8 ys) ∧ w.grownBy wr (some g) ∧
      (∀ t, (h : t < ys.length) → ys[t] = if t < k ∨ n ≤ t + k then xs.getD (n - 1 - t) 0 else xs.getD t 0)) (fun i _ _ => n - (intOf i).toNat)
  case atStart => exact ⟨0, xs, by omega, rfl, by simp, HL.out, h, World.grownBy.refl _ _, fun t ht => by rw [if_neg (by omega)]; simp [ht]⟩
  case round =>
    obtain ⟨k, ys, hk, rfl, rfl, hyl, hown, hg, hys⟩ := hrel
    have HY := Lib.hid hyl
    have hyl2 : n ≤ ys.length := by omega
    have HYS := Lib.hid hys
    clear hyl hys
    by_cases hlt : k + k + 1 < n
    · obtain ⟨j, hj⟩ : ∃ j, j = n - 1 - k := ⟨_, rfl⟩
      have ej : (n : Int) - 1 - (k : Int) = (j : Int) := by omega
      rw [ej]
      have h1 : k < j := by omega
      have h2 : j < n := by omega
      have HJ := Lib.hid hj
      clear hj ej
      have ca : wr.cell? ⟨g, k, none⟩ = some (.int .u8 ((ys[k] : Nat) : Int)) := (hown.cellAt k (by omega)).trans (nums_get _)
      have cb : wr.cell? ⟨g, j, none⟩ = some (.int .u8 ((ys[j] : Nat) : Int)) := (hown.cellAt j (by omega)).trans (nums_get _)
      have fa := hown.frozenAt k
      have fb := hown.frozenAt j
      go_wp2_with fail
      go_region
      all_goals
        go_wp2_with fail
        go_roundw
        case rel =>
          have s1 := (hown.stored k (.int .u8 (ys[j] : Nat))).1
          have s2 := (s1.stored j (.int .u8 (ys[k] : Nat))).1
          rw [nums_set, nums_set] at s2
          refine ⟨k + 1, (ys.set k ys[j]).set j ys[k], by omega, by go_num, by have := HJ.out; exact int_eq (by omega), by simpa using HY.out, s2, grown_drew (grown_set (grown_set hg _ _) _ _), fun t ht => ?_⟩
          have hj := HJ.out
          have hn := HY.out
          simp only [List.length_set] at ht
          have e1 := HYS.out t ht
          have e2 := HYS.out k (by omega)
          have e3 := HYS.out j (by omega)
          rw [if_neg (by omega)] at e2 e3
          rw [List.getElem_set, List.getElem_set, e1, e2, e3]
          by_cases h1 : j = t
          · subst h1
            rw [if_pos rfl, if_pos (by omega)]
            congr 1; omega
          · rw [if_neg h1]
            by_cases h2 : k = t
            · subst h2
              rw [if_pos rfl, if_pos (by omega)]
              congr 1
            · rw [if_neg h2]
              by_cases h3 : t < k ∨ n ≤ t + k
              · rw [if_pos h3, if_pos (by omega)]
              · rw [if_neg h3, if_neg (by omega)]
        case measure => simp only [intOf]; omega
    · go_wp2_with fail
      go_end0
      refine ⟨rfl, ?_, hg⟩
      have e : ys = xs.reverse := by
        have hn := HY.out
        have hx := HL.out
        apply List.ext_getElem
        · simp; omega
        · intro t h1 h2
          rw [HYS.out t h1, List.getElem_reverse]
          by_cases h3 : t < k ∨ n ≤ t + k
          · rw [if_pos h3, List.getD_eq_getElem?_getD, List.getElem?_eq_getElem (by omega)]
            simp only [Option.getD_some]
            congr 1; omega
          · rw [if_neg h3, List.getD_eq_getElem?_getD, List.getElem?_eq_getElem (by omega)]
            simp only [Option.getD_some]
            congr 1; omega
      rw [← e]
      exact hown
end Go.Proofs.Ytooheapikhdllaa

/- Text of package integer. -/
namespace Go.Proofs.Ytooheapikhdllaa
open Go.RowKit

theorem info_u8 : (Try.prog.info? 5).map (fun i => (i.zero, i.size, i.bytes)) = some (some (.int .u8 0), 1, 1) := by kernel_rfl

/-- string(b), b an owned row of bytes. -/
theorem conv_own {w : World} {base g n cap : Nat} {xs : List Nat} (h : w.ownsRow base 5 1 (.slice (some ⟨g, 0, none⟩) n cap) n (nums .u8 xs)) (hx : ∀ x ∈ xs, x < 256) (hl : xs.length = n) :
    (convert 84 9 (.slice (some ⟨g, 0, none⟩) n cap)).run Try.prog w = .ok (.string ⟨(bytesOf xs).toArray⟩) w := by
  have h1 := run_convert_bytes_back (P := Try.prog) w 84 9 5 ⟨g, 0, none⟩ cap (bytesOf xs) Try.underlying84 Try.underlying5 Try.underlying9 (fun j hj => by
    have hj' : j < xs.length := by simpa using hj
    have hadd : (⟨g, 0, none⟩ : Addr).add j = ⟨g, j, none⟩ := by unfold Addr.add; split <;> simp_all
    rw [hadd, h.cellAt j (by omega), nums_get hj', bytesOf_get xs j hj' hx])
  rw [bytesOf_length, hl] at h1
  exact h1

set_option maxHeartbeats 4000000 in
theorem text_any (w : World) (X : Nat → Prop) (v : Value) (neg : Bool) (xs : List Nat) (h : IntR w X v neg xs) (hsz : xs.length ≤ 1000000000) :
    Calls Try.prog 69 #[v] w fun e w' => e = .returned (.string ⟨(textB (sv neg xs)).toArray⟩) ∧ Below w.heap.size w w' := by
  obtain ⟨A, c, rfl, h1, h2, H⟩ := h.open_
  have hcan := can_trimL H.2
  have hval := val_trimL xs
  have hlen := trimL_len xs
  by_cases h0 : trimL xs = []
  · have ht : textB (sv neg xs) = [48] := by
      have : val xs = 0 := by rw [← hval, h0]; rfl
      unfold textB sv; rw [this]; cases neg <;> simp
    have HT := Lib.hid ht
    have HN := Lib.hid h0
    clear ht h0 hval hlen hcan
    go_enter Try.func69, Try.ntmps69
    go_wp2_with fail
    refine (trim_any _ X _ xs (H.below (below1 _ _))).mono ?_
    rintro e w' ⟨v1, rfl, hv1, rfl⟩
    rw [HN.out] at hv1
    obtain ⟨A1, c1, rfl, _, _, _⟩ := hv1.open_
    go_wp2_with fail
    go_ret
    exact ⟨ret_eq (by rw [HT.out]; rfl), below1 _ _⟩
  · have hl : 0 < (trimL xs).length := List.length_pos_iff.2 h0
    have hlb : (((trimL xs).length : Int) == 0) = false := by rw [beq_eq_false_iff_ne]; omega
    have hpos : 0 < val xs := by rw [← hval]; exact hcan.pos h0
    have HV := Lib.hid hval
    have HP := Lib.hid hpos
    clear hval h0 hpos
    go_enter Try.func69, Try.ntmps69
    go_wp2_with fail
    refine (trim_any _ X _ xs (H.below (below1 _ _))).mono ?_
    rintro e w' ⟨v1, rfl, hv1, rfl⟩
    obtain ⟨A1, c1, rfl, _, _, H1⟩ := hv1.open_
    go_wp2_with fail
    go_loopg [3, 4] (val xs + 1) (fun gk wv o wr => ∃ (ws ds : List Nat), Words wr (fun b => o.ownBlock = some b) wv ws ∧ Can ws ∧ ws.length ≤ xs.length ∧ wr.ownsRow (w.heap.size + 1) 5 1 o ds.length (nums .u8 (chars ds)) ∧ Ds ds ∧
      dval ds + 10 ^ ds.length * val ws = val xs ∧ ds.length ≤ 11 * xs.length + 9 ∧ (ds = [] → ws ≠ []) ∧ gk = val ws + 1 ∧ Below (w.heap.size + 1) (w.alloc (.cells #[.bool neg, .slice A xs.length c] 24)) wr)
    case atStart => exact ⟨trimL xs, [], H1.weak (by simp [Value.ownBlock]), hcan, hlen, World.ownsRow_nil _ _ _ _, by simp [Ds], by simpa using HV.out, by simp, fun _ => by intro e; rw [e] at hl; simp at hl, by rw [HV.out], Below.refl _ _⟩
    case round =>
      obtain ⟨ws, ds, hw, hcw, hwl, hown, hds, hval, hdl, hne, hgk, hbr⟩ := hrel
      clear hlb hl
      have HD := Lib.hid hval
      have HG := Lib.hid hgk
      have HC := Lib.hid hcw
      have HNE := Lib.hid hne
      have hsz1 := hbr.size
      clear hval hgk hcw hne
      obtain ⟨A2, c2, rfl, _, _, hw⟩ := hw.open_
      by_cases hlt : 0 < ws.length
      · have hb10 : ds.length ≤ 11 * xs.length := by
          refine pow10_bound _ _ (Nat.lt_of_le_of_lt ?_ (val_lt H.2))
          have h1 := HC.out.pos (List.length_pos_iff.1 hlt)
          have h2 := HD.out
          have : 10 ^ ds.length * 1 ≤ 10 ^ ds.length * val ws := Nat.mul_le_mul_left _ h1
          omega
        go_wp2_with fail
        refine (short_any _ _ _ ws 1000000000 hw (by omega) (by omega) (by omega)).mono ?_
        rintro e w2 ⟨vq, qs, r, rfl, hq, hqv, hrv, hql, hb2⟩
        have HQ := Lib.hid hqv
        have HR := Lib.hid hrv
        have HL := Lib.hid hql
        clear hqv hrv hql
        obtain ⟨A3, c3, rfl, _, _, hq⟩ := hq.open_
        go_wp2_with fail
        refine (trim_any _ _ _ qs hq).mono ?_
        rintro e w' ⟨v3, rfl, h3, rfl⟩
        obtain ⟨A4, c4, rfl, _, _, h3⟩ := h3.open_
        have h3w : Words w2 (fun b => u4.ownBlock = some b) (.slice A4 (trimL qs).length c4) (trimL qs) := h3.weak fun b _ hb => (hown.lt b hb).2
        have hown2 := ownsRow_below hown hb2
        have hbr2 : Below (w.heap.size + 1) (w.alloc (.cells #[.bool neg, .slice A xs.length c] 24)) w2 := hbr.trans (hb2.mono (by simpa using hsz1))
        have hcan3 := can_trimL hq.2
        have hval3 := val_trimL qs
        have hlen3 := trimL_len qs
        have HV3 := Lib.hid hval3
        have HC3 := Lib.hid hcan3
        clear hval3 hcan3 hb2 hown hbr hw hq h3
        generalize trimL qs = ts at *
        go_wp2_with fail
        go_loopw [4, 6, 23] (fun ov rv iv wx => ∃ (j : Nat) (es : List Nat) (r' : Nat), j ≤ 9 ∧ iv = .int .i64 j ∧ rv = .int .u32 r' ∧ r' < 10 ^ (9 - j) ∧ Words wx (fun b => ov.ownBlock = some b) (.slice A4 ts.length c4) ts ∧
          wx.ownsRow (w.heap.size + 1) 5 1 ov es.length (nums .u8 (chars es)) ∧ Ds es ∧ dval es + 10 ^ es.length * r' = dval ds + 10 ^ ds.length * r ∧ es.length = ds.length + j ∧
          Below (w.heap.size + 1) (w.alloc (.cells #[.bool neg, .slice A xs.length c] 24)) wx) (fun _ _ iv _ => 9 - (intOf iv).toNat)
        case atStart => exact ⟨0, ds, r, by omega, rfl, rfl, by have := HR.out; omega, h3w, hown2, hds, rfl, rfl, hbr2⟩
        case round =>
          obtain ⟨j, es, r', hj, rfl, rfl, hr', hwx, hownx, hes, hev, hel, hbx⟩ := hrel
          have HE := Lib.hid hev
          have HL2 := Lib.hid hel
          have HR2 := Lib.hid hr'
          have hel1 : es.length ≤ 11 * xs.length + 9 := by omega
          have r1 : r' < 1000000000 := Nat.lt_of_lt_of_le hr' (by have : 10 ^ (9 - j) ≤ 10 ^ 9 := Nat.pow_le_pow_right (by omega) (by omega); omega)
          have hszx := hbx.size
          clear hev hel hr' hown2 h3w hbr2
          by_cases hj9 : j < 9
          · go_wp2_with (at_builtin; refine wpList_push _ rfl _ _ rfl Try.underlying84 info_u8 rfl (w.heap.size + 1) _ _ _ rfl (hownx.alloc _) _ _ rfl (heap_alloc_new _ _) rfl (by omega) (by unfold maxLen; omega) (by simp at hszx ⊢; omega) ?_)
            intro v5 w5 hown5 hg5 hat5
            go_wp2_with fail
            go_roundw
            case rel =>
              rw [nums_snoc' _ _ _ (48 + r' % 10) (by omega), chars_snoc] at hown5
              have hlt' : r' / 10 < 10 ^ (9 - (j + 1)) := by
                rw [Nat.div_lt_iff_lt_mul (by omega)]
                have h1 := HR2.out
                rw [show 9 - j = 9 - (j + 1) + 1 from by omega, Nat.pow_succ] at h1
                exact h1
              exact ⟨j + 1, es ++ [r' % 10], r' / 10, by omega, by go_num, by go_num, hlt', hwx.push hg5 (by simpa using hat5), by simpa using hown5, Ds.append.2 ⟨hes, by simp [Ds]; omega⟩, digit_step ds es r' _ HE.out, by simp; have := HL2.out; omega, below_own (hbx.alloc (by simpa using hszx) _) (hownx.alloc _) hg5 (Nat.le_refl _) (by simp at hszx ⊢; omega)⟩
            case measure => simp only [intOf]; omega
          · obtain rfl : j = 9 := by omega
            have hr0 : r' = 0 := by have := HR2.out; simp at this; exact this
            subst hr0
            have hsum : dval es + 10 ^ es.length * val ts = val xs := by
              have e1 : dval es = dval ds + 10 ^ ds.length * r := by have := HE.out; simpa using this
              rw [chunk_step ds es r (val ts) (val ws) e1 HL2.out (by rw [HV3.out, HQ.out, HR.out]; omega)]
              exact HD.out
            have hdec : val ts < val ws := by rw [HV3.out, HQ.out]; have := HC.out.pos (List.length_pos_iff.1 hlt); omega
            have HS := Lib.hid hsum
            clear hsum
            go_wp2_with fail
            go_roundg (val ts + 1)
            case measure => rw [HG.out]; omega
            case rel => exact ⟨ts, es, hwx, HC3.out, by have := HL.out; omega, hownx, hes, HS.out, by omega, fun e => by have := HL2.out; rw [e] at this; simp at this, rfl, hbx⟩
      · obtain rfl : ws = [] := List.eq_nil_of_length_eq_zero (by omega)
        have hds0 : ds ≠ [] := fun e => HNE.out e rfl
        have hdp : 0 < ds.length := List.length_pos_iff.2 hds0
        have hdv : dval ds = val xs := by have := HD.out; simpa using this
        have HDV := Lib.hid hdv
        obtain ⟨g, cap, hou, hgb, hglt⟩ := hown.form hdp
        subst hou
        have hcap := (ownsRow_cap hown).1
        have La : Loc wr w.heap.size 24 #[.bool neg, .slice A xs.length c] := Loc.below' (Loc.new w _ _) hbr (by omega)
        have cc := La.cell
        have hbr' : Below w.heap.size w wr := (below1 _ _).trans (hbr.mono (by omega))
        clear hds0 hdv hw
        go_wp2_with fail
        go_loop [4] (fun o => ∃ k : Nat, 1 ≤ k ∧ k ≤ ds.length ∧ (∀ j, k ≤ j → (h : j < ds.length) → ds[j] = 0) ∧ o = .slice (some ⟨g, 0, none⟩) k cap) (fun o => match o with | .slice _ n _ => n | _ => 0)
        case atStart => exact ⟨ds.length, by omega, Nat.le_refl _, fun j h1 h2 => absurd h2 (by omega), rfl⟩
        case round =>
          obtain ⟨k, hk1, hk, hz, rfl⟩ := hrel
          have Hz := Lib.hid hz
          clear hz
          by_cases hs : ∃ (h1 : 1 < k), ds[k - 1] = 0
          · obtain ⟨hk2, hx⟩ := hs
            have ck : wr.cell? ⟨g, k - 1, none⟩ = some (.int .u8 (((chars ds)[k - 1]'(by simp; omega) : Nat) : Int)) := (hown.cellAt (k - 1) (by omega)).trans (nums_get _)
            rw [chars_get ds (k - 1) (by omega), hx] at ck
            have HX := Lib.hid hx
            clear hx
            go_wp2_with fail
            exact ⟨⟨k - 1, by omega, by omega, fun j h1 h2 => if e : j = k - 1 then by subst e; exact HX.out else Hz.out j (by omega) h2, rfl⟩, by omega⟩
          · have hdec : ds.take k = decR (val xs) := by
              rw [← HDV.out]
              exact decR_strip ds k hds hk hk1 Hz.out (fun h1 h2 h3 => hs ⟨h1, h3⟩) (by rw [HDV.out]; exact HP.out)
            have hcut := ownsRow_cut hown hk
            rw [nums_take, chars_take] at hcut
            have hkl : (chars (ds.take k)).length = k := by simp; omega
            have hch : ∀ x ∈ chars (ds.take k), x < 256 := chars_lt (hds.take k)
            have HK := Lib.hid hkl
            have HDEC := Lib.hid hdec
            clear hkl hdec hown
            rcases Nat.lt_or_ge 1 k with hk2 | hk2
            all_goals
              try (have ck : wr.cell? ⟨g, k - 1, none⟩ = some (.int .u8 (((chars (ds.take k))[k - 1]'(by have := HK.out; omega) : Nat) : Int)) := (hcut.cellAt (k - 1) (by omega)).trans (nums_get _); rw [chars_get _ (k - 1) (by simp; omega), List.getElem_take] at ck; have hb : (((48 + ds[k - 1] : Nat) : Int) == 48) = false := by rw [beq_eq_false_iff_ne]; have : ds[k - 1] ≠ 0 := fun e => hs ⟨hk2, e⟩; omega)
              clear hs
            all_goals
              cases neg
              case false =>
                go_wp2_with fail
                refine (reverse_any wr (w.heap.size + 1) 0 g k cap _ hcut HK.out (by omega)).mono ?_
                rintro e w9 ⟨rfl, ho9, hg9⟩
                have hcv := conv_own ho9 (fun x hx => hch x (List.mem_reverse.1 hx)) (by simp; have := HK.out; simp at this; omega)
                go_wp2_with fail
                go_ret
                refine ⟨ret_eq ?_, hbr'.grown hg9 hbr'.size (by intro b hb; injection hb with hb; omega)⟩
                rw [sv_false, textB_pos _ HP.out, ← HDEC.out]
                rfl
              case true =>
                go_wp2_with (at_builtin; refine wpList_push _ rfl _ _ rfl Try.underlying84 info_u8 rfl (w.heap.size + 1) _ _ _ rfl (hcut.alloc _) _ _ rfl (heap_alloc_new _ _) rfl (by omega) (by unfold maxLen; omega) (by simp at hsz1 ⊢; omega) ?_)
                intro v5 w5 hown5 hg5 hat5
                have hb5 := below_own (hbr'.alloc hbr'.size _) (hcut.alloc _) hg5 (by omega) (by have := hbr'.size; simp; omega)
                rw [nums_snoc' _ _ 45 45 rfl] at hown5
                obtain ⟨g5, cap5, hv5, hgb5, hglt5⟩ := hown5.form (by omega)
                subst hv5
                go_wp2_with fail
                refine (reverse_any w5 (w.heap.size + 1) 0 g5 (k + 1) cap5 _ hown5 (by simp; have := HK.out; simp at this; omega) (by omega)).mono ?_
                rintro e w9 ⟨rfl, ho9, hg9⟩
                have hcv := conv_own ho9 (fun x hx => by rcases List.mem_append.1 (List.mem_reverse.1 hx) with h | h; exact hch x h; simp at h; omega) (by simp; have := HK.out; simp at this; omega)
                go_wp2_with fail
                go_ret
                refine ⟨ret_eq ?_, hb5.grown hg9 hb5.size (by intro b hb; injection hb with hb; omega)⟩
                rw [sv_true, textB_neg _ HP.out, ← HDEC.out, List.reverse_append]
                rfl
end Go.Proofs.Ytooheapikhdllaa

/- The contracts at canonical integers. -/
namespace Go.Proofs.Ytooheapikhdllaa
open Go.RowKit

theorem validR_V (z : Int) : validR (decide (z < 0)) (dig z.natAbs) = true := by
  unfold validR
  split
  · rename_i h
    rw [dig_nil_iff] at h
    simp; omega
  · have := (can_dig z.natAbs).2 ‹_›
    simpa using this

theorem valid_V (w : World) (X : Nat → Prop) (v : Value) (z : Int) (h : IntV w X v z) :
    Calls Try.prog 84 #[v] w fun e w' => e = .returned (.bool true) ∧ Below w.heap.size w w' :=
  (valid_any w X v _ _ h).mono fun e w' h => by rw [validR_V] at h; exact h

theorem fits_in {n : Int} (h0 : -9223372036854775808 ≤ n) (h1 : n ≤ 9223372036854775807) : smallI n = n ∧ fits n = true := by
  have : fits n = true := by unfold fits; simp; omega
  exact ⟨by simp [smallI, this], this⟩

theorem text_V (w : World) (X : Nat → Prop) (v : Value) (z : Int) (h : IntV w X v z) (hsz : (dig z.natAbs).length ≤ 1000000000) :
    Calls Try.prog 69 #[v] w fun e w' => e = .returned (.string ⟨(textB z).toArray⟩) ∧ Below w.heap.size w w' :=
  (text_any w X v _ _ h hsz).mono fun e w' h => by rw [sv_dig] at h; exact h

theorem sign_V (w : World) (X : Nat → Prop) (v : Value) (z : Int) (h : IntV w X v z) :
    Calls Try.prog 55 #[v] w fun e w' => e = .returned (.int .i64 z.sign) ∧ Below w.heap.size w w' :=
  (sign_any w X v _ _ h).mono fun e w' h => by rw [sv_dig] at h; exact h
end Go.Proofs.Ytooheapikhdllaa

