/- Divide of the reference. -/
import Derived.Test.YtlbgnndjacagkaaRows
import Derived.Test.YtlbgnndjacagkaaDiv1
import Derived.Test.YtlbgnndjacagkaaRef4
namespace Go.Proofs.Ytlbgnndjacagkaa
open Go.RowKit
attribute [local go_sem ↓] Go.wp_at_zero Go.wp_at_succ

theorem qF_ref (n1 n2 : Bool) (xs ys : List Nat) (hy : val ys ≠ 0) :
    qF (sv n1 xs) (sv n2 ys) = if (!n1 == n2) = true then (if val xs % val ys = 0 then -((val xs / val ys : Nat) : Int) else -((val xs / val ys : Nat) : Int) - 1) else ((val xs / val ys : Nat) : Int) := by
  have hyp : 0 < val ys := by omega
  unfold qF
  rw [sv_abs, sv_abs]
  rcases Nat.eq_zero_or_pos (val xs) with h0 | h0
  · have e : sv n1 xs = 0 := by unfold sv; rw [h0]; split <;> rfl
    rw [e, Int.sign_zero, Int.zero_mul, if_neg (by omega), h0, Nat.zero_div, Nat.zero_mod]
    split <;> simp
  · cases n1 <;> cases n2
    · rw [sv_false, sv_false, Int.sign_eq_one_of_pos (by omega), Int.sign_eq_one_of_pos (by omega)]; rfl
    · rw [sv_false, sv_true, Int.sign_eq_one_of_pos (by omega), Int.sign_eq_neg_one_of_neg (by omega)]; rfl
    · rw [sv_true, sv_false, Int.sign_eq_neg_one_of_neg (by omega), Int.sign_eq_one_of_pos (by omega)]; rfl
    · rw [sv_true, sv_true, Int.sign_eq_neg_one_of_neg (by omega), Int.sign_eq_neg_one_of_neg (by omega)]; rfl

set_option maxHeartbeats 2000000 in
theorem rdivide_zero (w : World) (X : Nat → Prop) (v1 v2 : Value) (n1 n2 : Bool) (xs ys : List Nat) (h1 : IntR w X v1 n1 xs) (h2 : IntR w X v2 n2 ys) (hz : val ys = 0) (hs1 : xs.length ≤ 100000000) (hs2 : ys.length ≤ 100000000) :
    Calls Try.prog 46 #[v1, v2] w fun e w' => e = .returned (.tuple #[.agg #[.bool false, .slice none 0 0], .agg #[.bool false, .slice none 0 0], .int .i64 1]) ∧ Below w.heap.size w w' := by
  obtain ⟨A, c, rfl, _, _, H1⟩ := h1.open_
  obtain ⟨B, d, rfl, _, _, H2⟩ := h2.open_
  have ht := trimL_dig H2.2
  rw [hz, dig_zero] at ht
  have HT := Lib.hid ht
  clear ht hz
  go_enter Try.func46, Try.ntmps46
  go_wp2_with fail
  obtain ⟨L2, L3, L4, L5, hB0, hsz0⟩ := locs4 (Below.refl _ ((((w.alloc (.cells #[.bool n1, .slice A xs.length c] 24)).alloc (.cells #[.bool n2, .slice B ys.length d] 24)).alloc (.cells #[.bool false, .slice none 0 0] 24)).alloc (.cells #[.bool false, .slice none 0 0] 24)))
  have K1 := (H1.weak (Y := fun _ => False) (fun _ _ h => h.elim)).below hB0
  have K2 := (H2.weak (Y := fun _ => False) (fun _ _ h => h.elim)).below hB0
  clear H1 H2 h1 h2
  generalize ((((w.alloc (.cells #[.bool n1, .slice A xs.length c] 24)).alloc (.cells #[.bool n2, .slice B ys.length d] 24)).alloc (.cells #[.bool false, .slice none 0 0] 24)).alloc (.cells #[.bool false, .slice none 0 0] 24)) = w0 at *
  have KS : Hid (∀ W, Below (w.heap.size + 2) w0 W → Loc W w.heap.size 24 #[.bool n1, .slice A xs.length c] ∧ Loc W (w.heap.size + 1) 24 #[.bool n2, .slice B ys.length d]) := fun W hW => ⟨L2.below' hW (by omega), L3.below' hW (by omega)⟩
  go_region_held3 (fun w' => (w'.cell? ⟨w.heap.size, 0, none⟩ = some (.bool n1) ∧ w'.cell? ⟨w.heap.size, 1, none⟩ = some (.slice A xs.length c)) ∧ w'.cell? ⟨w.heap.size + 1, 0, none⟩ = some (.bool n2) ∧ w'.cell? ⟨w.heap.size + 1, 1, none⟩ = some (.slice B ys.length d))
    (first | exact cells_of (KS.out _ (k2.mono (by omega))) | exact cells_of (KS.out _ (k1.mono (by omega))) | exact cells_of (KS.out _ (Below.refl _ _).drew) | go_keep)
    (first
      | (go_at_call_of 51 (Value.slice A xs.length c); refine (rtrim_any _ (fun _ => False) (.slice A xs.length c) xs (K1.below (Below.refl _ _).drew) (by omega)).mono ?_; rintro e wa ⟨va, rfl, ha, hka⟩; have k1 := below_undrew hka)
      | (go_at_call_of 51 (Value.slice B ys.length d); refine (rtrim_any _ (fun _ => False) (.slice B ys.length d) ys (K2.below k1) (by omega)).mono ?_; rintro e wb ⟨vb, rfl, hb, hkb⟩; have k2 := k1.trans (hkb.mono k1.size); rw [HT.out] at hb; obtain ⟨Ab, cb, rfl, _, _, hb⟩ := hb.open_; rw [List.length_nil] at *))
  all_goals
    have N4 := L4.below k2
    have N5 := L5.below k2
    have hk2 := k2.size
    have c4 := N4.cell
    have f4 := N4.frz
    have c5 := N5.cell
    have f5 := N5.frz
    have R4 := fill_box (u := .bool false) (v := .slice none 0 0) N4
    have R5 := fill_box (u := .bool false) (v := .slice none 0 0) (R4.2 N5 (by omega))
    have hB8 := ((((hB0.trans (k2.mono (by omega))).setCell (p := ⟨w.heap.size + 1 + 1, 0, none⟩) (by show w.heap.size ≤ w.heap.size + 1 + 1; omega) (.bool false)).setCell (p := ⟨w.heap.size + 1 + 1, 1, none⟩) (by show w.heap.size ≤ w.heap.size + 1 + 1; omega) (.slice none 0 0)).setCell (p := ⟨w.heap.size + 1 + 1 + 1, 0, none⟩) (by show w.heap.size ≤ w.heap.size + 1 + 1 + 1; omega) (.bool false)).setCell (p := ⟨w.heap.size + 1 + 1 + 1, 1, none⟩) (by show w.heap.size ≤ w.heap.size + 1 + 1 + 1; omega) (.slice none 0 0)
    have cc := R5.1.cell
    have cd := (R5.2 R4.1 (by omega)).cell
    clear KS R4 R5
    go_wp2_with fail
    refine bodyPost_ret (by simp [results, Try.results46, go_sem, cc, cd] <;> rfl) rfl ⟨rfl, hB8⟩

set_option maxHeartbeats 2000000 in
theorem rdivide_any (w : World) (X : Nat → Prop) (v1 v2 : Value) (n1 n2 : Bool) (xs ys : List Nat) (h1 : IntR w X v1 n1 xs) (h2 : IntR w X v2 n2 ys) (hz : val ys ≠ 0) (hs1 : xs.length ≤ 100000000) (hs2 : ys.length ≤ 100000000) :
    Calls Try.prog 46 #[v1, v2] w fun e w' => ∃ q r, e = .returned (.tuple #[q, r, .int .i64 0]) ∧ IntV w' (Old w) q (qF (sv n1 xs) (sv n2 ys)) ∧ IntV w' (Old w) r (sv n1 xs - qF (sv n1 xs) (sv n2 ys) * sv n2 ys) ∧ Below w.heap.size w w' := by
  obtain ⟨A, c, rfl, _, _, H1⟩ := h1.open_
  obtain ⟨B, d, rfl, _, _, H2⟩ := h2.open_
  have SL2 := Lib.hid (sv_len n2 ys H2.2)
  have l1 := trimL_len xs
  have l2 := trimL_len ys
  have c1 := can_trimL H1.2
  have c2 := can_trimL H2.2
  have l3 : 0 < (trimL ys).length := by rw [trimL_dig H2.2, dig_len_pos]; omega
  have HV1 := Lib.hid (val_trimL xs)
  have HV2 := Lib.hid (val_trimL ys)
  obtain ⟨nb, hnb⟩ : ∃ nb, (!n1 == n2) = nb := ⟨_, rfl⟩
  obtain ⟨Z, hZ⟩ : ∃ Z, qF (sv n1 xs) (sv n2 ys) = Z := ⟨_, rfl⟩
  have hq : Z = if nb = true then (if val xs % val ys = 0 then -((val xs / val ys : Nat) : Int) else -((val xs / val ys : Nat) : Int) - 1) else ((val xs / val ys : Nat) : Int) := by
    rw [← hZ, ← hnb]; exact qF_ref n1 n2 xs ys hz
  have HQ := Lib.hid hq
  rw [hZ]
  clear hZ hq hz
  have hzb : ((((trimL ys).length : Nat) : Int) == 0) = false := by rw [beq_eq_false_iff_ne]; omega
  go_enter Try.func46, Try.ntmps46
  go_wp2_with fail
  obtain ⟨L2, L3, L4, L5, hB0, hsz0⟩ := locs4 (Below.refl _ ((((w.alloc (.cells #[.bool n1, .slice A xs.length c] 24)).alloc (.cells #[.bool n2, .slice B ys.length d] 24)).alloc (.cells #[.bool false, .slice none 0 0] 24)).alloc (.cells #[.bool false, .slice none 0 0] 24)))
  have K1 := (H1.weak (Y := fun _ => False) (fun _ _ h => h.elim)).below hB0
  have K2 := (H2.weak (Y := fun _ => False) (fun _ _ h => h.elim)).below hB0
  clear H1 H2
  generalize ((((w.alloc (.cells #[.bool n1, .slice A xs.length c] 24)).alloc (.cells #[.bool n2, .slice B ys.length d] 24)).alloc (.cells #[.bool false, .slice none 0 0] 24)).alloc (.cells #[.bool false, .slice none 0 0] 24)) = w0 at *
  have KS : Hid (∀ W, Below (w.heap.size + 2) w0 W → Loc W w.heap.size 24 #[.bool n1, .slice A xs.length c] ∧ Loc W (w.heap.size + 1) 24 #[.bool n2, .slice B ys.length d]) := fun W hW => ⟨L2.below' hW (by omega), L3.below' hW (by omega)⟩
  go_region_held3 (fun w' => (w'.cell? ⟨w.heap.size, 0, none⟩ = some (.bool n1) ∧ w'.cell? ⟨w.heap.size, 1, none⟩ = some (.slice A xs.length c)) ∧ w'.cell? ⟨w.heap.size + 1, 0, none⟩ = some (.bool n2) ∧ w'.cell? ⟨w.heap.size + 1, 1, none⟩ = some (.slice B ys.length d))
    (first | exact cells_of (KS.out _ (k2.mono (by omega))) | exact cells_of (KS.out _ (k1.mono (by omega))) | exact cells_of (KS.out _ (Below.refl _ _).drew) | go_keep)
    (first
      | (go_at_call_of 51 (Value.slice A xs.length c); refine (rtrim_any _ (fun _ => False) (.slice A xs.length c) xs (K1.below (Below.refl _ _).drew) (by omega)).mono ?_; rintro e wa ⟨va, rfl, ha, hka⟩; have k1 := below_undrew hka)
      | (go_at_call_of 51 (Value.slice B ys.length d); refine (rtrim_any _ (fun _ => False) (.slice B ys.length d) ys (K2.below k1) (by omega)).mono ?_; rintro e wb ⟨vb, rfl, hb, hkb⟩; have k2 := k1.trans (hkb.mono k1.size); have ha2 := ha.below hkb; have hb0 := hb; obtain ⟨Ab, cb, rfl, _, _, hb⟩ := hb.open_))
  all_goals
    clear KS
    go_wp2_with fail
    refine (divWords_any _ (fun _ => False) _ _ (trimL xs) (trimL ys) (ha2.weak (fun _ _ h => h.elim)) (hb.weak (fun _ _ h => h.elim)) c2 l3 (by omega)).mono ?_
    rintro e w1 ⟨q1, r1, rfl, hq1, hr1, hb1⟩
    rw [HV1.out, HV2.out] at hq1 hr1
    have k3 := k2.trans (hb1.mono k2.size)
    have M2 := L2.below k3
    have M3 := L3.below k3
    have cx := M2.cell
    have cy := M3.cell
    have hlq := Nat.le_trans (dig_len_mono (Nat.div_le_self (val xs) (val ys))) (by rw [← HV1.out]; exact Nat.le_trans (dig_val_len c1.1) l1 : (dig (val xs)).length ≤ xs.length)
    go_wp2_with fail
    refine (made_any _ (fun _ => False) nb _ _ (hq1.weak (fun _ _ h => h.elim)) (by omega)).mono ?_
    rintro e w4 ⟨v3, rfl, h3, hb3⟩
    have k4 := k3.trans (hb3.mono k3.size)
    obtain ⟨b3, A3, m3, c3, rfl, h3⟩ := h3.op
    have hs0 := hb3.size
    have hs4 := k4.size
    have hs3 := k3.size
    have k5 := k4.trans ((below1 w4 (.cells #[.bool b3, .slice A3 m3 c3] 24)).mono k4.size)
    have N2 := L2.below k5
    have N3 := L3.below k5
    have N4 := L4.below k5
    have N5 := L5.below k5
    have N6 := Loc.new w4 #[.bool b3, .slice A3 m3 c3] 24
    have hq5 := (h3.weak (Y := fun b => b < w.heap.size + 1 + 1 + 1 + 1 ∨ b = w4.heap.size) (fun b h1 h2 => by show b < _; omega)).below (below1 w4 (.cells #[.bool b3, .slice A3 m3 c3] 24))
    have hr5 := (hr1.weak (Y := fun _ => False) (fun _ _ h => h.elim)).below ((hb3.trans ((below1 w4 (.cells #[.bool b3, .slice A3 m3 c3] 24)).mono hb3.size)))
    have hB5 := hB0.trans (k5.mono (by omega))
    obtain ⟨g6, hg6⟩ : ∃ g6, w4.heap.size = g6 := ⟨_, rfl⟩
    have hsg : w.heap.size + 1 + 1 + 1 < g6 := by have := L5.lt; omega
    obtain ⟨Ar, cr, rfl, _, _, hr5⟩ := hr5.open_
    simp only [hg6] at N6 hq5
    clear cx cy M2 M3 L2 L3 L4 L5 K1 K2 ha ha2 hb hb0 hka hkb k1 k2 k3 k4 k5 hq1 hr1 hb1 h3 hb3 hs0 hs4 hs3
    have cx := N2.cell
    have cy := N3.cell
    have hlr := dig_len_pos (val xs % val ys)
    have HLR := Lib.hid hlr
    have HLQ := Lib.hid hlq
    clear hlr hlq
    have hx5 := h1.below hB5
    have hy5 := h2.below hB5
    obtain ⟨rl, hrl⟩ : ∃ rl, (dig (val xs % val ys)).length = rl := ⟨_, rfl⟩
    rw [hrl] at HLR
    go_upto_region 6 with fail
    go_cut [45] (fun x W => ∃ bb : Bool, x = .bool bb ∧ bb = decide (nb = true ∧ val xs % val ys ≠ 0) ∧ W = w4.alloc (.cells #[.bool b3, .slice A3 m3 c3] 24))
    case first =>
      cases nb
      · go_wp2_with fail
        go_meet
        exact ⟨false, rfl, by simp, rfl⟩
      · go_wp2_with fail
        go_meet
        exact ⟨_, rfl, by rw [decide_eq_decide]; exact ⟨fun h => ⟨by first | rfl | trivial, by have := HLR.out.1 h; omega⟩, fun h => HLR.out.2 (by have := h.2; omega)⟩, rfl⟩
    case rest =>
      obtain ⟨bb, rfl, hbb, rfl⟩ := hcut
      have HBB := Lib.hid hbb
      clear hbb cx cy
      generalize w4.alloc (.cells #[.bool b3, .slice A3 m3 c3] 24) = w5 at *
      have hs5 := N6.lt
      go_upto_if 45 with fail
      go_cut [46] (fun _ W => ∃ (b : Bool) (D : Option Addr) (m k : Nat), Loc W w.heap.size 24 #[.bool n1, .slice A xs.length c] ∧ Loc W (w.heap.size + 1) 24 #[.bool n2, .slice B ys.length d] ∧ Loc W (w.heap.size + 1 + 1) 24 #[.bool false, .slice none 0 0] ∧ Loc W (w.heap.size + 1 + 1 + 1) 24 #[.bool false, .slice none 0 0] ∧
        Loc W g6 24 #[.bool b, .slice D m k] ∧ IntV W (fun b => b < w.heap.size + 1 + 1 + 1 + 1 ∨ b = g6) (.agg #[.bool b, .slice D m k]) Z ∧ Below w.heap.size w W)
      case first =>
        cases bb
        · have hc := of_decide_eq_false HBB.out.symm
          have hz2 : sv nb (dig (val xs / val ys)) = Z := by
            rw [HQ.out]
            cases nb
            · rw [sv_false, val_dig]; rfl
            · have hr0 : val xs % val ys = 0 := by
                rcases Nat.eq_zero_or_pos (val xs % val ys) with h | h
                · exact h
                · exact absurd ⟨rfl, by omega⟩ hc
              rw [sv_true, val_dig, if_pos rfl, if_pos hr0]
          rw [hz2] at hq5
          clear hz2 hc
          go_wp2_with fail
          go_meet
          exact ⟨_, _, _, _, N2, N3, N4, N5, N6, hq5, hB5⟩
        · have hc := of_decide_eq_true HBB.out.symm
          have hz2 := HQ.out
          rw [if_pos hc.1, if_neg hc.2] at hz2
          have HZ2 := Lib.hid hz2
          rw [hc.1, sv_true, val_dig] at hq5
          have hlq : (dig (-((val xs / val ys : Nat) : Int)).natAbs).length ≤ xs.length := by
            rw [Int.natAbs_neg, Int.natAbs_natCast]
            exact HLQ.out
          have HLQ2 := Lib.hid hlq
          clear hz2 hlq hc
          have HL1 : Hid ((dig (1 : Int).natAbs).length ≤ 100000000000) := by
            have h : (dig 1).length ≤ 1 := dig_len_le (by decide)
            exact Nat.le_trans h (by decide)
          have hof := fun w' => rof_any w' 1 (by decide) (by decide)
          go_wp2_with fail
          have d0 : ∀ i, w5.drew.cell? ⟨g6, i, none⟩ = #[Value.bool b3, Value.slice A3 m3 c3][i]? := N6.cell
          go_region_with (first
              | (go_at_call 18; refine (hof _).mono ?_; rintro e u1 ⟨v7, rfl, h7, hb7⟩; have k1 := below_undrew hb7; obtain ⟨b7, A7, m7, c7, rfl, h7⟩ := h7.op; have d4 := (N6.below k1).cell)
              | (go_at_call 40; refine (rsub_any _ (fun _ => False) _ _ _ _ _ _ ((hq5.weak (fun _ _ h => h.elim)).below k1) (h7.weak (fun _ _ h => h.elim)) (by have := HLQ2.out; omega) HL1.out).mono ?_; rintro e u2 ⟨v8, rfl, h8, hb8⟩; have k2 := k1.trans (hb8.mono k1.size); obtain ⟨b8, A8, m8, c8, rfl, h8⟩ := h8.op; have c4 := (N6.below k2).cell; have f4 := (N6.below k2).frz))
          all_goals
            rw [sv_dig, sv_dig, ← HZ2.out] at h8
            obtain ⟨R6, hfar⟩ := fill_box (u := .bool b8) (v := .slice A8 m8 c8) (N6.below k2)
            have R2 := hfar (N2.below k2) (by omega)
            have R3 := hfar (N3.below k2) (by omega)
            have R4 := hfar (N4.below k2) (by omega)
            have R5 := hfar (N5.below k2) (by omega)
            have hu1 := k1.size
            have hB8 := ((hB5.trans (k2.mono (by omega))).setCell (p := ⟨g6, 0, none⟩) (by show w.heap.size ≤ g6; omega) (.bool b8)).setCell (p := ⟨g6, 1, none⟩) (by show w.heap.size ≤ g6; omega) (.slice A8 m8 c8)
            have hkp : Keep (fun b => b < w.heap.size + 1 + 1 + 1 + 1 ∨ b = g6) u2 ((u2.setCell ⟨g6, 0, none⟩ (.bool b8)).setCell ⟨g6, 1, none⟩ (.slice A8 m8 c8)) := ((Keep.refl _ _).set (p := ⟨g6, 0, none⟩) (.inl (.inr rfl)) _).set (p := ⟨g6, 1, none⟩) (.inl (.inr rfl)) _
            have h9 := (h8.weak (Y := fun b => b < w.heap.size + 1 + 1 + 1 + 1 ∨ b = g6) (fun b h1 h2 => by show b < _; omega)).keep hkp
            clear c4 f4 d0 hkp
            go_wp2_with fail
            go_meet
            exact ⟨_, _, _, _, R2, R3, R4, R5, R6, h9, hB8⟩
      case rest =>
        obtain ⟨b9, D, m9, k9, Q2, Q3, Q4, Q5, Q6, hq9, hB9⟩ := hcut
        have hsz9 := Q6.lt
        have hx9 := h1.below hB9
        have hy9 := h2.below hB9
        have hzl : (dig Z.natAbs).length ≤ xs.length + 1 := by
          have hb : (dig ((val xs / val ys : Nat) : Int).natAbs).length ≤ xs.length := by
            rw [Int.natAbs_natCast]; exact HLQ.out
          have h0 : (dig (1 : Int).natAbs).length ≤ xs.length + 0 ∨ xs.length = 0 := by
            rcases Nat.eq_zero_or_pos xs.length with h | h
            · exact .inr h
            · exact .inl (Nat.le_trans (show (dig 1).length ≤ 1 from dig_len_le (by decide)) (by omega))
          rw [HQ.out]
          split
          · split
            · rw [Int.natAbs_neg]; omega
            · rcases h0 with h0 | h0
              · exact sub_len _ _ _ (by rw [Int.natAbs_neg]; exact hb) (by simpa using h0)
              · have hx0 : val xs = 0 := by
                  have := List.length_eq_zero_iff.1 h0
                  subst this; rfl
                rename_i hr
                exact absurd (by rw [hx0, Nat.zero_mod]) hr
          · omega
        have HZL := Lib.hid hzl
        have hpl : (dig (Z * sv n2 ys).natAbs).length ≤ xs.length + 1 + ys.length := by
          have h := len_mul (ws_dig Z.natAbs) (ws_dig (sv n2 ys).natAbs)
          rw [val_dig, val_dig, ← Int.natAbs_mul] at h
          have := SL2.out
          omega
        have HPL := Lib.hid hpl
        have KS : Hid (∀ W, Below (w.heap.size + 1 + 1) wc W → Below (g6 + 1) wc W → ((W.cell? ⟨w.heap.size, 0, none⟩ = some (.bool n1) ∧ W.cell? ⟨w.heap.size, 1, none⟩ = some (.slice A xs.length c)) ∧ W.cell? ⟨w.heap.size + 1, 0, none⟩ = some (.bool n2) ∧ W.cell? ⟨w.heap.size + 1, 1, none⟩ = some (.slice B ys.length d)) ∧ W.cell? ⟨g6, 0, none⟩ = some (.bool b9) ∧ W.cell? ⟨g6, 1, none⟩ = some (.slice D m9 k9)) := fun W hW hW2 => ⟨cells_of ⟨Q2.below' hW (by omega), Q3.below' hW (by omega)⟩, (Q6.below' hW2 (by omega)).cell 0, (Q6.below' hW2 (by omega)).cell 1⟩
        clear hzl hpl hq5 hB5 N2 N3 N4 N5 N6 h1 h2 hx5 hy5 hr5
        go_wp2_with fail
        go_region_held3 (fun W => ((W.cell? ⟨w.heap.size, 0, none⟩ = some (.bool n1) ∧ W.cell? ⟨w.heap.size, 1, none⟩ = some (.slice A xs.length c)) ∧ W.cell? ⟨w.heap.size + 1, 0, none⟩ = some (.bool n2) ∧ W.cell? ⟨w.heap.size + 1, 1, none⟩ = some (.slice B ys.length d)) ∧ W.cell? ⟨g6, 0, none⟩ = some (.bool b9) ∧ W.cell? ⟨g6, 1, none⟩ = some (.slice D m9 k9))
          (first | exact ⟨cells_of ⟨R5.2 (R4.2 (Q2.below k2) (by omega)) (by omega), R5.2 (R4.2 (Q3.below k2) (by omega)) (by omega)⟩, (R5.2 (R4.2 (Q6.below k2) (by omega)) (by omega)).cell 0, (R5.2 (R4.2 (Q6.below k2) (by omega)) (by omega)).cell 1⟩ | exact ⟨cells_of ⟨R4.2 (Q2.below k2) (by omega), R4.2 (Q3.below k2) (by omega)⟩, (R4.2 (Q6.below k2) (by omega)).cell 0, (R4.2 (Q6.below k2) (by omega)).cell 1⟩ | exact KS.out _ (k2.mono (by omega)) (k2.mono (by omega)) | exact KS.out _ (k1.mono (by omega)) (k1.mono (by omega)) | exact KS.out _ (Below.refl _ _).drew (Below.refl _ _).drew)
          (first
            | (go_at_call 36; refine (rmul_any _ (fun _ => False) _ _ _ _ _ _ ((hq9.weak (fun _ _ h => h.elim)).below (Below.refl _ _).drew) ((hy9.weak (fun _ _ h => h.elim)).below (Below.refl _ _).drew) (by have := HZL.out; omega) (by omega)).mono ?_; rintro e u1 ⟨v7, rfl, h7, hb7⟩; rw [sv_dig] at h7; have k1 := below_undrew hb7; obtain ⟨b7, A7, m7, c7, rfl, h7⟩ := h7.op)
            | (go_at_call 40; refine (rsub_any _ (fun _ => False) _ _ _ _ _ _ ((hx9.weak (fun _ _ h => h.elim)).below k1) (h7.weak (fun _ _ h => h.elim)) (by omega) (by have := HPL.out; omega)).mono ?_; rintro e u2 ⟨v8, rfl, h8, hb8⟩; rw [sv_dig] at h8; have k2 := k1.trans (hb8.mono k1.size); obtain ⟨b8, A8, m8, c8, rfl, h8⟩ := h8.op; have c4 := (Q4.below k2).cell; have f4 := (Q4.below k2).frz; have c5 := (Q5.below k2).cell; have f5 := (Q5.below k2).frz; have R4 := fill_box (u := .bool b9) (v := .slice D m9 k9) (Q4.below k2); have R5 := fill_box (u := .bool b8) (v := .slice A8 m8 c8) (R4.2 (Q5.below k2) (by omega))))
        all_goals
          have hu1 := k1.size
          have hkp : Keep (fun b => b < w.heap.size + 1 + 1 + 1 + 1 ∨ b = g6) u2 ((((u2.setCell ⟨w.heap.size + 1 + 1, 0, none⟩ (.bool b9)).setCell ⟨w.heap.size + 1 + 1, 1, none⟩ (.slice D m9 k9)).setCell ⟨w.heap.size + 1 + 1 + 1, 0, none⟩ (.bool b8)).setCell ⟨w.heap.size + 1 + 1 + 1, 1, none⟩ (.slice A8 m8 c8)) :=
            ((((Keep.refl _ _).set (p := ⟨w.heap.size + 1 + 1, 0, none⟩) (.inl (.inl (by show w.heap.size + 1 + 1 < w.heap.size + 1 + 1 + 1 + 1; omega))) _).set (p := ⟨w.heap.size + 1 + 1, 1, none⟩) (.inl (.inl (by show w.heap.size + 1 + 1 < w.heap.size + 1 + 1 + 1 + 1; omega))) _).set (p := ⟨w.heap.size + 1 + 1 + 1, 0, none⟩) (.inl (.inl (by show w.heap.size + 1 + 1 + 1 < w.heap.size + 1 + 1 + 1 + 1; omega))) _).set (p := ⟨w.heap.size + 1 + 1 + 1, 1, none⟩) (.inl (.inl (by show w.heap.size + 1 + 1 + 1 < w.heap.size + 1 + 1 + 1 + 1; omega))) _
          have hB8 := ((((hB9.trans (k2.mono (by omega))).setCell (p := ⟨w.heap.size + 1 + 1, 0, none⟩) (by show w.heap.size ≤ w.heap.size + 1 + 1; omega) (.bool b9)).setCell (p := ⟨w.heap.size + 1 + 1, 1, none⟩) (by show w.heap.size ≤ w.heap.size + 1 + 1; omega) (.slice D m9 k9)).setCell (p := ⟨w.heap.size + 1 + 1 + 1, 0, none⟩) (by show w.heap.size ≤ w.heap.size + 1 + 1 + 1; omega) (.bool b8)).setCell (p := ⟨w.heap.size + 1 + 1 + 1, 1, none⟩) (by show w.heap.size ≤ w.heap.size + 1 + 1 + 1; omega) (.slice A8 m8 c8)
          have hf1 := ((hq9.below k2).keep hkp).weak (Y := Old w) (fun b _ h => by have h : b < w.heap.size := h; omega)
          have hf2 := ((h8.weak (Y := fun b => b < w.heap.size + 1 + 1 + 1 + 1 ∨ b = g6) (fun b h1 h2 => by show b < _; omega)).keep hkp).weak (Y := Old w) (fun b _ h => by have h : b < w.heap.size := h; omega)
          have cc := R5.1.cell
          have cd := (R5.2 R4.1 (by omega)).cell
          clear KS hkp c4 f4 c5 f5 R4 R5
          go_wp2_with fail
          refine bodyPost_ret (by simp [results, Try.results46, go_sem, cc, cd] <;> rfl) rfl ⟨_, _, rfl, hf1, hf2, hB8⟩
end Go.Proofs.Ytlbgnndjacagkaa
