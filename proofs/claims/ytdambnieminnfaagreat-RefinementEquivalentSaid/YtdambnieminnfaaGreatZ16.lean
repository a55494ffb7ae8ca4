/- Contracts of the functions that the statements reach, part 16. -/
import Derived.Test.YtdambnieminnfaaGreatRows
import Derived.Deep.CutBlock
import Derived.Test.YtdambnieminnfaaGreatZ10
import Derived.Test.YtdambnieminnfaaGreatZ11
import Derived.Test.YtdambnieminnfaaGreatZ12
import Derived.Test.YtdambnieminnfaaGreatZ14
import Derived.Test.YtdambnieminnfaaGreatZ15
set_option linter.unusedSimpArgs false
set_option linter.unusedVariables false

/- Divide of the reference. -/
namespace Go.Proofs.YtdambnieminnfaaGreat
open Go.RowKit
attribute [local go_sem ↓] Go.wp_at_zero Go.wp_at_succ

theorem qF_ref (n1 n2 : Bool) (xs ys : List Nat) (hy : val ys ≠ 0) :
 qF (sv n1 xs) (sv n2 ys) = if (!n1 == n2) = true then (if val xs % val ys = 0 then -((val xs / val ys : Nat) : Int) else -((val xs / val ys : Nat) : Int) - 1) else ((val xs / val ys : Nat) : Int) := by
 have hyp : 0 < val ys := by omega
 unfold qF
 rw [sv_abs, sv_abs]
 rcases Nat.eq_zero_or_pos (val xs) with h0 | h0
 ·have e : sv n1 xs = 0 := by unfold sv; rw [h0]; split <;> rfl
  rw [e, Int.sign_zero, Int.zero_mul, if_neg (by omega), h0, Nat.zero_div, Nat.zero_mod]
  split <;> simp
 ·cases n1 <;> cases n2
  ·rw [sv_false, sv_false, Int.sign_eq_one_of_pos (by omega), Int.sign_eq_one_of_pos (by omega)]; rfl
  ·rw [sv_false, sv_true, Int.sign_eq_one_of_pos (by omega), Int.sign_eq_neg_one_of_neg (by omega)]; rfl
  ·rw [sv_true, sv_false, Int.sign_eq_neg_one_of_neg (by omega), Int.sign_eq_one_of_pos (by omega)]; rfl
  ·rw [sv_true, sv_true, Int.sign_eq_neg_one_of_neg (by omega), Int.sign_eq_neg_one_of_neg (by omega)]; rfl

set_option maxHeartbeats 2000000 in
theorem rdivide_any (w : World) (X : Nat → Prop) (v1 v2 : Value) (n1 n2 : Bool) (xs ys : List Nat) (h1 : IntR w X v1 n1 xs) (h2 : IntR w X v2 n2 ys) (hz : val ys ≠ 0) (hs1 : xs.length ≤ 100000000) (hs2 : ys.length ≤ 100000000) :
 Calls Tryz.prog 118 #[v1, v2] w fun e w' => ∃ q r, e = .returned (.tuple #[q, r, .int .i64 0]) ∧ IntV w' (Old w) q (qF (sv n1 xs) (sv n2 ys)) ∧ IntV w' (Old w) r (sv n1 xs - qF (sv n1 xs) (sv n2 ys) * sv n2 ys) ∧ Below w.heap.size w w' := by
 obtain ⟨A, c, rfl, _, _, H1⟩ := h1.open_
 obtain ⟨B, d, rfl, _, _, H2⟩ := h2.open_
 have SL2 := Lib.hid (sv_len n2 ys H2.2)
 have l1 := trimL_len xs
 have l2 := trimL_len ys
 have c1 := can_trimL H1.2
 have c2 := can_trimL H2.2
 have l3 : 0 < (trimL ys).length := by rw [trimL_dig H2.2, dig_len_pos]; omega
 have HV1 := Lib.hid (val_trimL xs)
 have HV2 := Lib.hid (val_trimL ys)
 obtain ⟨nb, hnb⟩ : ∃ nb, (!n1 == n2) = nb := ⟨_, rfl⟩
 obtain ⟨Z, hZ⟩ : ∃ Z, qF (sv n1 xs) (sv n2 ys) = Z := ⟨_, rfl⟩
 have hq : Z = if nb = true then (if val xs % val ys = 0 then -((val xs / val ys : Nat) : Int) else -((val xs / val ys : Nat) : Int) - 1) else ((val xs / val ys : Nat) : Int) := by
  rw [← hZ, ← hnb]; exact qF_ref n1 n2 xs ys hz
 have HQ := Lib.hid hq
 rw [hZ]
 clear hZ hq hz
 have hzb : ((((trimL ys).length : Nat) : Int) == 0) = false := by rw [beq_eq_false_iff_ne]; omega
 go_enter Tryz.func118, Tryz.ntmps118
 go_wp2_with fail
 obtain ⟨L2, L3, L4, L5, hB0, hsz0⟩ := locs4 (Below.refl _ ((((w.alloc (.cells #[.bool n1, .slice A xs.length c] 58)).alloc (.cells #[.bool n2, .slice B ys.length d] 58)).alloc (.cells #[.bool false, .slice none 0 0] 58)).alloc (.cells #[.bool false, .slice none 0 0] 58)))
 have K1 := (H1.weak (Y := fun _ => False) (fun _ _ h => h.elim)).below hB0
 have K2 := (H2.weak (Y := fun _ => False) (fun _ _ h => h.elim)).below hB0
 clear H1 H2
 generalize ((((w.alloc (.cells #[.bool n1, .slice A xs.length c] 58)).alloc (.cells #[.bool n2, .slice B ys.length d] 58)).alloc (.cells #[.bool false, .slice none 0 0] 58)).alloc (.cells #[.bool false, .slice none 0 0] 58)) = w0 at *
 have KS : Hid (∀ W, Below (w.heap.size + 2) w0 W → Loc W w.heap.size 58 #[.bool n1, .slice A xs.length c] ∧ Loc W (w.heap.size + 1) 58 #[.bool n2, .slice B ys.length d]) := fun W hW => ⟨L2.below' hW (by omega), L3.below' hW (by omega)⟩
 go_region_held3 (fun w' => (w'.cell? ⟨w.heap.size, 0, none⟩ = some (.bool n1) ∧ w'.cell? ⟨w.heap.size, 1, none⟩ = some (.slice A xs.length c)) ∧ w'.cell? ⟨w.heap.size + 1, 0, none⟩ = some (.bool n2) ∧ w'.cell? ⟨w.heap.size + 1, 1, none⟩ = some (.slice B ys.length d))
  (first | exact cells_of (KS.out _ (k2.mono (by omega))) | exact cells_of (KS.out _ (k1.mono (by omega))) | exact cells_of (KS.out _ (Below.refl _ _).drew) | go_keep)
  (first
   | (go_at_call_of 109 (Value.slice A xs.length c); refine (rtrim_any _ (fun _ => False) (.slice A xs.length c) xs (K1.below (Below.refl _ _).drew) (by omega)).mono ?_; rintro e wa ⟨va, rfl, ha, hka⟩; have k1 := below_undrew hka)
   | (go_at_call_of 109 (Value.slice B ys.length d); refine (rtrim_any _ (fun _ => False) (.slice B ys.length d) ys (K2.below k1) (by omega)).mono ?_; rintro e wb ⟨vb, rfl, hb, hkb⟩; have k2 := k1.trans (hkb.mono k1.size); have ha2 := ha.below hkb; have hb0 := hb; obtain ⟨Ab, cb, rfl, _, _, hb⟩ := hb.open_))
 all_goals
  clear KS
  go_wp2_with fail
  refine (divWords_any _ (fun _ => False) _ _ (trimL xs) (trimL ys) (ha2.weak (fun _ _ h => h.elim)) (hb.weak (fun _ _ h => h.elim)) c2 l3 (by omega)).mono ?_
  rintro e w1 ⟨q1, r1, rfl, hq1, hr1, hb1⟩
  rw [HV1.out, HV2.out] at hq1 hr1
  have k3 := k2.trans (hb1.mono k2.size)
  have M2 := L2.below k3
  have M3 := L3.below k3
  have cx := M2.cell
  have cy := M3.cell
  have hlq := Nat.le_trans (dig_len_mono (Nat.div_le_self (val xs) (val ys))) (by rw [← HV1.out]; exact Nat.le_trans (dig_val_len c1.1) l1 : (dig (val xs)).length ≤ xs.length)
  go_wp2_with fail
  refine (made_any _ (fun _ => False) nb _ _ (hq1.weak (fun _ _ h => h.elim)) (by omega)).mono ?_
  rintro e w4 ⟨v3, rfl, h3, hb3⟩
  have k4 := k3.trans (hb3.mono k3.size)
  obtain ⟨b3, A3, m3, c3, rfl, h3⟩ := h3.op
  have hs0 := hb3.size
  have hs4 := k4.size
  have hs3 := k3.size
  have k5 := k4.trans ((below1 w4 (.cells #[.bool b3, .slice A3 m3 c3] 58)).mono k4.size)
  have N2 := L2.below k5
  have N3 := L3.below k5
  have N4 := L4.below k5
  have N5 := L5.below k5
  have N6 := Loc.new w4 #[.bool b3, .slice A3 m3 c3] 58
  have hq5 := (h3.weak (Y := fun b => b < w.heap.size + 1 + 1 + 1 + 1 ∨ b = w4.heap.size) (fun b h1 h2 => by show b < _; omega)).below (below1 w4 (.cells #[.bool b3, .slice A3 m3 c3] 58))
  have hr5 := (hr1.weak (Y := fun _ => False) (fun _ _ h => h.elim)).below ((hb3.trans ((below1 w4 (.cells #[.bool b3, .slice A3 m3 c3] 58)).mono hb3.size)))
  have hB5 := hB0.trans (k5.mono (by omega))
  obtain ⟨g6, hg6⟩ : ∃ g6, w4.heap.size = g6 := ⟨_, rfl⟩
  have hsg : w.heap.size + 1 + 1 + 1 < g6 := by have := L5.lt; omega
  obtain ⟨Ar, cr, rfl, _, _, hr5⟩ := hr5.open_
  simp only [hg6] at N6 hq5
  clear cx cy M2 M3 L2 L3 L4 L5 K1 K2 ha ha2 hb hb0 hka hkb k1 k2 k3 k4 k5 hq1 hr1 hb1 h3 hb3 hs0 hs4 hs3
  have cx := N2.cell
  have cy := N3.cell
  have hlr := dig_len_pos (val xs % val ys)
  have HLR := Lib.hid hlr
  have HLQ := Lib.hid hlq
  clear hlr hlq
  have hx5 := h1.below hB5
  have hy5 := h2.below hB5
  obtain ⟨rl, hrl⟩ : ∃ rl, (dig (val xs % val ys)).length = rl := ⟨_, rfl⟩
  rw [hrl] at HLR
  go_upto_region 6 with fail
  go_cut [45] (fun x W => ∃ bb : Bool, x = .bool bb ∧ bb = decide (nb = true ∧ val xs % val ys ≠ 0) ∧ W = w4.alloc (.cells #[.bool b3, .slice A3 m3 c3] 58))
  case first =>
   cases nb
   ·go_wp2_with fail
    go_meet
    exact ⟨false, rfl, by simp, rfl⟩
   ·go_wp2_with fail
    go_meet
    exact ⟨_, rfl, by rw [decide_eq_decide]; exact ⟨fun h => ⟨by first | rfl | trivial, by have := HLR.out.1 h; omega⟩, fun h => HLR.out.2 (by have := h.2; omega)⟩, rfl⟩
  case rest =>
   obtain ⟨bb, rfl, hbb, rfl⟩ := hcut
   have HBB := Lib.hid hbb
   clear hbb cx cy
   generalize w4.alloc (.cells #[.bool b3, .slice A3 m3 c3] 58) = w5 at *
   have hs5 := N6.lt
   go_upto_if 45 with fail
   go_cut [46] (fun _ W => ∃ (b : Bool) (D : Option Addr) (m k : Nat), Loc W w.heap.size 58 #[.bool n1, .slice A xs.length c] ∧ Loc W (w.heap.size + 1) 58 #[.bool n2, .slice B ys.length d] ∧ Loc W (w.heap.size + 1 + 1) 58 #[.bool false, .slice none 0 0] ∧ Loc W (w.heap.size + 1 + 1 + 1) 58 #[.bool false, .slice none 0 0] ∧
    Loc W g6 58 #[.bool b, .slice D m k] ∧ IntV W (fun b => b < w.heap.size + 1 + 1 + 1 + 1 ∨ b = g6) (.agg #[.bool b, .slice D m k]) Z ∧ Below w.heap.size w W)
   case first =>
    cases bb
    ·have hc := of_decide_eq_false HBB.out.symm
     have hz2 : sv nb (dig (val xs / val ys)) = Z := by
      rw [HQ.out]
      cases nb
      ·rw [sv_false, val_dig]; rfl
      ·have hr0 : val xs % val ys = 0 := by
        rcases Nat.eq_zero_or_pos (val xs % val ys) with h | h
        ·exact h
        ·exact absurd ⟨rfl, by omega⟩ hc
       rw [sv_true, val_dig, if_pos rfl, if_pos hr0]
     rw [hz2] at hq5
     clear hz2 hc
     go_wp2_with fail
     go_meet
     exact ⟨_, _, _, _, N2, N3, N4, N5, N6, hq5, hB5⟩
    ·have hc := of_decide_eq_true HBB.out.symm
     have hz2 := HQ.out
     rw [if_pos hc.1, if_neg hc.2] at hz2
     have HZ2 := Lib.hid hz2
     rw [hc.1, sv_true, val_dig] at hq5
     have hlq : (dig (-((val xs / val ys : Nat) : Int)).natAbs).length ≤ xs.length := by
      rw [Int.natAbs_neg, Int.natAbs_natCast]
      exact HLQ.out
     have HLQ2 := Lib.hid hlq
     clear hz2 hlq hc
     have HL1 : Hid ((dig (1 : Int).natAbs).length ≤ 100000000000) := by
      have h : (dig 1).length ≤ 1 := dig_len_le (by decide)
      exact Nat.le_trans h (by decide)
     have hof := fun w' => rof_any w' 1 (by decide) (by decide)
     go_wp2_with fail
     have d0 : ∀ i, w5.drew.cell? ⟨g6, i, none⟩ = #[Value.bool b3, Value.slice A3 m3 c3][i]? := N6.cell
     go_region_with (first
      | (go_at_call 148; refine (hof _).mono ?_; rintro e u1 ⟨v7, rfl, h7, hb7⟩; have k1 := below_undrew hb7; obtain ⟨b7, A7, m7, c7, rfl, h7⟩ := h7.op; have d4 := (N6.below k1).cell)
      | (go_at_call 147; refine (rsub_any _ (fun _ => False) _ _ _ _ _ _ ((hq5.weak (fun _ _ h => h.elim)).below k1) (h7.weak (fun _ _ h => h.elim)) (by have := HLQ2.out; omega) HL1.out).mono ?_; rintro e u2 ⟨v8, rfl, h8, hb8⟩; have k2 := k1.trans (hb8.mono k1.size); obtain ⟨b8, A8, m8, c8, rfl, h8⟩ := h8.op; have c4 := (N6.below k2).cell; have f4 := (N6.below k2).frz))
     all_goals
      rw [sv_dig, sv_dig, ← HZ2.out] at h8
      obtain ⟨R6, hfar⟩ := fill_box (u := .bool b8) (v := .slice A8 m8 c8) (N6.below k2)
      have R2 := hfar (N2.below k2) (by omega)
      have R3 := hfar (N3.below k2) (by omega)
      have R4 := hfar (N4.below k2) (by omega)
      have R5 := hfar (N5.below k2) (by omega)
      have hu1 := k1.size
      have hB8 := ((hB5.trans (k2.mono (by omega))).setCell (p := ⟨g6, 0, none⟩) (by show w.heap.size ≤ g6; omega) (.bool b8)).setCell (p := ⟨g6, 1, none⟩) (by show w.heap.size ≤ g6; omega) (.slice A8 m8 c8)
      have hkp : Keep (fun b => b < w.heap.size + 1 + 1 + 1 + 1 ∨ b = g6) u2 ((u2.setCell ⟨g6, 0, none⟩ (.bool b8)).setCell ⟨g6, 1, none⟩ (.slice A8 m8 c8)) := ((Keep.refl _ _).set (p := ⟨g6, 0, none⟩) (.inl (.inr rfl)) _).set (p := ⟨g6, 1, none⟩) (.inl (.inr rfl)) _
      have h9 := (h8.weak (Y := fun b => b < w.heap.size + 1 + 1 + 1 + 1 ∨ b = g6) (fun b h1 h2 => by show b < _; omega)).keep hkp
      clear c4 f4 d0 hkp
      go_wp2_with fail
      go_meet
      exact ⟨_, _, _, _, R2, R3, R4, R5, R6, h9, hB8⟩
   case rest =>
    obtain ⟨b9, D, m9, k9, Q2, Q3, Q4, Q5, Q6, hq9, hB9⟩ := hcut
    have hsz9 := Q6.lt
    have hx9 := h1.below hB9
    have hy9 := h2.below hB9
    have hzl : (dig Z.natAbs).length ≤ xs.length + 1 := by
     have hb : (dig ((val xs / val ys : Nat) : Int).natAbs).length ≤ xs.length := by
      rw [Int.natAbs_natCast]; exact HLQ.out
     have h0 : (dig (1 : Int).natAbs).length ≤ xs.length + 0 ∨ xs.length = 0 := by
      rcases Nat.eq_zero_or_pos xs.length with h | h
      ·exact .inr h
      ·exact .inl (Nat.le_trans (show (dig 1).length ≤ 1 from dig_len_le (by decide)) (by omega))
     rw [HQ.out]
     split
     ·split
      ·rw [Int.natAbs_neg]; omega
      ·rcases h0 with h0 | h0
       ·exact sub_len _ _ _ (by rw [Int.natAbs_neg]; exact hb) (by simpa using h0)
       ·have hx0 : val xs = 0 := by
         have := List.length_eq_zero_iff.1 h0
         subst this; rfl
        rename_i hr
        exact absurd (by rw [hx0, Nat.zero_mod]) hr
     ·omega
    have HZL := Lib.hid hzl
    have hpl : (dig (Z * sv n2 ys).natAbs).length ≤ xs.length + 1 + ys.length := by
     have h := len_mul (ws_dig Z.natAbs) (ws_dig (sv n2 ys).natAbs)
     rw [val_dig, val_dig, ← Int.natAbs_mul] at h
     have := SL2.out
     omega
    have HPL := Lib.hid hpl
    have KS : Hid (∀ W, Below (w.heap.size + 1 + 1) wc W → Below (g6 + 1) wc W → ((W.cell? ⟨w.heap.size, 0, none⟩ = some (.bool n1) ∧ W.cell? ⟨w.heap.size, 1, none⟩ = some (.slice A xs.length c)) ∧ W.cell? ⟨w.heap.size + 1, 0, none⟩ = some (.bool n2) ∧ W.cell? ⟨w.heap.size + 1, 1, none⟩ = some (.slice B ys.length d)) ∧ W.cell? ⟨g6, 0, none⟩ = some (.bool b9) ∧ W.cell? ⟨g6, 1, none⟩ = some (.slice D m9 k9)) := fun W hW hW2 => ⟨cells_of ⟨Q2.below' hW (by omega), Q3.below' hW (by omega)⟩, (Q6.below' hW2 (by omega)).cell 0, (Q6.below' hW2 (by omega)).cell 1⟩
    clear hzl hpl hq5 hB5 N2 N3 N4 N5 N6 h1 h2 hx5 hy5 hr5
    go_wp2_with fail
    go_region_held3 (fun W => ((W.cell? ⟨w.heap.size, 0, none⟩ = some (.bool n1) ∧ W.cell? ⟨w.heap.size, 1, none⟩ = some (.slice A xs.length c)) ∧ W.cell? ⟨w.heap.size + 1, 0, none⟩ = some (.bool n2) ∧ W.cell? ⟨w.heap.size + 1, 1, none⟩ = some (.slice B ys.length d)) ∧ W.cell? ⟨g6, 0, none⟩ = some (.bool b9) ∧ W.cell? ⟨g6, 1, none⟩ = some (.slice D m9 k9))
     (first | exact ⟨cells_of ⟨R5.2 (R4.2 (Q2.below k2) (by omega)) (by omega), R5.2 (R4.2 (Q3.below k2) (by omega)) (by omega)⟩, (R5.2 (R4.2 (Q6.below k2) (by omega)) (by omega)).cell 0, (R5.2 (R4.2 (Q6.below k2) (by omega)) (by omega)).cell 1⟩ | exact ⟨cells_of ⟨R4.2 (Q2.below k2) (by omega), R4.2 (Q3.below k2) (by omega)⟩, (R4.2 (Q6.below k2) (by omega)).cell 0, (R4.2 (Q6.below k2) (by omega)).cell 1⟩ | exact KS.out _ (k2.mono (by omega)) (k2.mono (by omega)) | exact KS.out _ (k1.mono (by omega)) (k1.mono (by omega)) | exact KS.out _ (Below.refl _ _).drew (Below.refl _ _).drew)
     (first
      | (go_at_call 69; refine (rmul_any _ (fun _ => False) _ _ _ _ _ _ ((hq9.weak (fun _ _ h => h.elim)).below (Below.refl _ _).drew) ((hy9.weak (fun _ _ h => h.elim)).below (Below.refl _ _).drew) (by have := HZL.out; omega) (by omega)).mono ?_; rintro e u1 ⟨v7, rfl, h7, hb7⟩; rw [sv_dig] at h7; have k1 := below_undrew hb7; obtain ⟨b7, A7, m7, c7, rfl, h7⟩ := h7.op)
      | (go_at_call 147; refine (rsub_any _ (fun _ => False) _ _ _ _ _ _ ((hx9.weak (fun _ _ h => h.elim)).below k1) (h7.weak (fun _ _ h => h.elim)) (by omega) (by have := HPL.out; omega)).mono ?_; rintro e u2 ⟨v8, rfl, h8, hb8⟩; rw [sv_dig] at h8; have k2 := k1.trans (hb8.mono k1.size); obtain ⟨b8, A8, m8, c8, rfl, h8⟩ := h8.op; have c4 := (Q4.below k2).cell; have f4 := (Q4.below k2).frz; have c5 := (Q5.below k2).cell; have f5 := (Q5.below k2).frz; have R4 := fill_box (u := .bool b9) (v := .slice D m9 k9) (Q4.below k2); have R5 := fill_box (u := .bool b8) (v := .slice A8 m8 c8) (R4.2 (Q5.below k2) (by omega))))
    all_goals
     have hu1 := k1.size
     have hkp : Keep (fun b => b < w.heap.size + 1 + 1 + 1 + 1 ∨ b = g6) u2 ((((u2.setCell ⟨w.heap.size + 1 + 1, 0, none⟩ (.bool b9)).setCell ⟨w.heap.size + 1 + 1, 1, none⟩ (.slice D m9 k9)).setCell ⟨w.heap.size + 1 + 1 + 1, 0, none⟩ (.bool b8)).setCell ⟨w.heap.size + 1 + 1 + 1, 1, none⟩ (.slice A8 m8 c8)) :=
      ((((Keep.refl _ _).set (p := ⟨w.heap.size + 1 + 1, 0, none⟩) (.inl (.inl (by show w.heap.size + 1 + 1 < w.heap.size + 1 + 1 + 1 + 1; omega))) _).set (p := ⟨w.heap.size + 1 + 1, 1, none⟩) (.inl (.inl (by show w.heap.size + 1 + 1 < w.heap.size + 1 + 1 + 1 + 1; omega))) _).set (p := ⟨w.heap.size + 1 + 1 + 1, 0, none⟩) (.inl (.inl (by show w.heap.size + 1 + 1 + 1 < w.heap.size + 1 + 1 + 1 + 1; omega))) _).set (p := ⟨w.heap.size + 1 + 1 + 1, 1, none⟩) (.inl (.inl (by show w.heap.size + 1 + 1 + 1 < w.heap.size + 1 + 1 + 1 + 1; omega))) _
     have hB8 := ((((hB9.trans (k2.mono (by omega))).setCell (p := ⟨w.heap.size + 1 + 1, 0, none⟩) (by show w.heap.size ≤ w.heap.size + 1 + 1; omega) (.bool b9)).setCell (p := ⟨w.heap.size + 1 + 1, 1, none⟩) (by show w.heap.size ≤ w.heap.size + 1 + 1; omega) (.slice D m9 k9)).setCell (p := ⟨w.heap.size + 1 + 1 + 1, 0, none⟩) (by show w.heap.size ≤ w.heap.size + 1 + 1 + 1; omega) (.bool b8)).setCell (p := ⟨w.heap.size + 1 + 1 + 1, 1, none⟩) (by show w.heap.size ≤ w.heap.size + 1 + 1 + 1; omega) (.slice A8 m8 c8)
     have hf1 := ((hq9.below k2).keep hkp).weak (Y := Old w) (fun b _ h => by have h : b < w.heap.size := h; omega)
     have hf2 := ((h8.weak (Y := fun b => b < w.heap.size + 1 + 1 + 1 + 1 ∨ b = g6) (fun b h1 h2 => by show b < _; omega)).keep hkp).weak (Y := Old w) (fun b _ h => by have h : b < w.heap.size := h; omega)
     have cc := R5.1.cell
     have cd := (R5.2 R4.1 (by omega)).cell
     clear KS hkp c4 f4 c5 f5 R4 R5
     go_wp2_with fail
     refine bodyPost_ret (by simp [results, Tryz.results118, go_sem, cc, cd] <;> rfl) rfl ⟨_, _, rfl, hf1, hf2, hB8⟩

/- rational.Sub; of the reference: isZero, zero, New, Clean, Of, Sign. -/

set_option maxHeartbeats 2000000 in
theorem sub_rat (w : World) (X : Nat → Prop) (v1 v2 : Value) (x y : Rat) (h1 : RatL 10000000 w X v1 x) (h2 : RatL 10000000 w X v2 y) :
 Calls Tryz.prog 107 #[v1, v2] w fun e w' => ∃ v', e = .returned v' ∧ RatV w' (Old w) v' (x - y) ∧ Below w.heap.size w w' := by
 have HY := Lib.hid ((h2.rsz (by omega)).neg)
 have HE : Hid (x + -y = x - y) := (Rat.sub_eq_add_neg x y).symm
 obtain ⟨n1, A, m, c, n2, B, m', d, rfl, h1, -⟩ := h1.op
 obtain ⟨o1, C, p, e, o2, D, p', f, rfl, h2, -⟩ := h2.op
 go_enter Tryz.func107, Tryz.ntmps107
 go_wp2_with fail
 have L1 := made1 w #[.bool n1, .slice A m c, .bool n2, .slice B m' d] 60
 have L2 := made2 w (.cells #[.bool n1, .slice A m c, .bool n2, .slice B m' d] 60) #[.bool o1, .slice C p e, .bool o2, .slice D p' f] 60
 have L3 := made3 w (.cells #[.bool n1, .slice A m c, .bool n2, .slice B m' d] 60) (.cells #[.bool o1, .slice C p e, .bool o2, .slice D p' f] 60) #[.bool false, .slice none 0 0, .bool false, .slice none 0 0] 60
 go_region_held3 (fun W => ((W.cell? ⟨w.heap.size, 0, none⟩ = some (.bool n1) ∧ W.cell? ⟨w.heap.size, 1, none⟩ = some (.slice A m c)) ∧ W.cell? ⟨w.heap.size, 2, none⟩ = some (.bool n2) ∧ W.cell? ⟨w.heap.size, 3, none⟩ = some (.slice B m' d)) ∧ (W.cell? ⟨w.heap.size + 1, 0, none⟩ = some (.bool o1) ∧ W.cell? ⟨w.heap.size + 1, 1, none⟩ = some (.slice C p e)) ∧ W.cell? ⟨w.heap.size + 1, 2, none⟩ = some (.bool o2) ∧ W.cell? ⟨w.heap.size + 1, 3, none⟩ = some (.slice D p' f))
  (exact ⟨⟨⟨Loc.c 0 L1, Loc.c 1 L1⟩, Loc.c 2 L1, Loc.c 3 L1⟩, ⟨Loc.c 0 L2, Loc.c 1 L2⟩, Loc.c 2 L2, Loc.c 3 L2⟩)
  (first
   | (go_at_call 143; refine (neg_rat _ (fun _ => False) _ y (h2.mono (by omega)).to).mono ?_; rintro e u1 ⟨v5, rfl, h5, hb5⟩; obtain ⟨b5, A5, m5, k5, b5', A5', m5', k5', rfl, h5, -, -⟩ := h5.op; have y5 := hb5.size; (try simp only [zs] at y5))
   | (go_at_call 50; refine (add_rat _ (fun _ => False) _ _ x (-y) h1.to (h5.len HY.out).to).mono ?_; rintro e u2 ⟨v6, rfl, h6, hb6⟩; rw [HE.out] at h6; obtain ⟨b6, A6, m6, k6, b6', A6', m6', k6', rfl, h6, -, -⟩ := h6.op; have y6 := hb6.size; (try simp only [zs] at y6); obtain ⟨e5, g5, -⟩ := Loc.all L3 (w' := u2)))
 all_goals
  go_wp2_with fail
  refine bodyPost_ret (by simp [results, Tryz.results107, go_sem, e5, g5] <;> rfl) rfl ⟨_, rfl, h6.out, bel⟩

set_option maxHeartbeats 1000000 in
theorem rsmallI (w : World) (n : Int) (h0 : -9223372036854775808 ≤ n) (h1 : n ≤ 9223372036854775807) :
 Calls Tryz.prog 123 #[.int .i64 n] w fun e w' => ∃ v', e = .returned v' ∧ IntV w' (Old w) v' n ∧ Below w.heap.size w w' := by
 go_enter Tryz.func123, Tryz.ntmps123
 go_wp2_with fail
 refine (rof_any _ n h0 h1).mono ?_
 rintro e w1 ⟨v1, rfl, i1, hb1⟩
 obtain ⟨b1, A1, m1, c1, rfl, i1⟩ := i1.op
 have z1 := sz1 hb1
 obtain ⟨e4, g4, -⟩ := (made1 w #[.bool false, .slice none 0 0] 58).all (w' := w1)
 go_wp2_with fail
 refine bodyPost_ret (by simp [results, Tryz.results123, go_sem, e4, g4] <;> rfl) rfl ⟨_, rfl, i1.out, bel⟩

theorem field_words (w : World) (b : Bool) (A : Option Addr) (n c : Nat) : (Instr.field 58 (.agg #[.bool b, .slice A n c]) 1).run Tryz.prog w = .ok (.slice A n c) w := by kernel_rfl
attribute [local go_sem] field_words
theorem dig_len_zero (z : Int) : (dig z.natAbs).length = 0 ↔ z = 0 := by
 have := dig_len_pos z.natAbs
 omega

set_option maxHeartbeats 1000000 in
theorem isZero_any (w : World) (X : Nat → Prop) (v : Value) (neg : Bool) (xs : List Nat) (h : IntR w X v neg xs) (hsz : xs.length ≤ 100000000) :
 Calls Tryz.prog 99 #[v] w fun e w' => e = .returned (.bool (decide (sv neg xs = 0))) ∧ Below w.heap.size w w' := by
 obtain ⟨A, c, rfl, h⟩ := h.op
 obtain ⟨z, hz⟩ : ∃ z, sv neg xs = z := ⟨_, rfl⟩
 rw [hz]
 have HZ := Lib.hid hz
 have HSZ := Lib.hid hsz
 clear hz hsz
 go_enter Tryz.func99, Tryz.ntmps99
 go_wp2_with fail
 refine (rclean_any _ (fun _ => False) _ neg xs h.to (by have := HSZ.out; omega)).mono ?_
 rintro e w1 ⟨v1, rfl, i1, hb1⟩
 rw [HZ.out] at i1
 obtain ⟨b1, A1, m1, c1, rfl, i1, -, HM⟩ := i1.opb
 have hd := dig_len_zero z
 rw [← HM.out] at hd
 by_cases hm : m1 = 0
 ·subst hm
  have hz0 : z = 0 := hd.1 rfl
  subst hz0
  clear hd
  go_wp2_with fail
  go_ret
  exact ⟨rfl, bel⟩
 ·have hz0 : z ≠ 0 := fun h => hm (hd.2 h)
  have hb : ((m1 : Int) == 0) = false := by rw [beq_eq_false_iff_ne]; omega
  have HZ0 := Lib.hid (decide_eq_false hz0)
  clear hd hz0 hm
  go_wp2_with fail
  go_ret
  exact ⟨by rw [HZ0.out]; rfl, bel⟩

set_option maxHeartbeats 1000000 in
theorem rzero_rat (w : World) :
 Calls Tryz.prog 108 #[] w fun e w' => ∃ v', e = .returned v' ∧ RatV w' (Old w) v' 0 ∧ Below w.heap.size w w' := by
 go_enter Tryz.func108, Tryz.ntmps108
 go_wp2_with fail
 refine (rsmallI _ 0 (by decide) (by decide)).mono ?_
 rintro e w1 ⟨v1, rfl, h1, hb1⟩
 obtain ⟨b1, A1, m1, c1, rfl, h1⟩ := h1.op
 have z1 := sz1 hb1
 go_wp2_with fail
 refine (rsmallI _ 1 (by decide) (by decide)).mono ?_
 rintro e w2 ⟨v2, rfl, h2, hb2⟩
 obtain ⟨b2, A2, m2, c2, rfl, h2⟩ := h2.op
 have z2 := hb2.size
 obtain ⟨c5, f5, l5⟩ := (made1 w #[.bool false, .slice none 0 0, .bool false, .slice none 0 0] 60).all (w' := w2)
 go_wp2_with fail
 refine bodyPost_ret (by simp [results, Tryz.results108, go_sem, c5, f5, l5] <;> rfl) rfl ⟨_, rfl, RatV.of h1.out h2.out, bel⟩
end Go.Proofs.YtdambnieminnfaaGreat

/- whole, zero, negative, dot. -/
namespace Go.Proofs.YtdambnieminnfaaGreat
open Go.RowKit
attribute [local go_sem ↓] Go.wp_at_zero Go.wp_at_succ

theorem divInt_int (z : Int) : Rat.divInt z 1 = (z : Rat) := by rw [Rat.divInt_eq_div]; have : ((1 : Int) : Rat) = 1 := rfl; grind

theorem rsz_int {z : Int} (h0 : -9223372036854775808 ≤ z) (h1 : z ≤ 9223372036854775807) : Rsz 2 (z : Rat) := by
 rw [← divInt_int]; exact divInt_Rsz (by omega) (dig_i64 z h0 h1) (dig_i64 1 (by decide) (by decide))

set_option maxHeartbeats 2000000 in
theorem whole_lin (w : World) (n : Int) (h0 : -9223372036854775808 ≤ n) (h1 : n ≤ 9223372036854775807) :
 Calls Tryz.prog 141 #[.int .i64 n] w fun e w' => ∃ v', e = .returned v' ∧ RatV w' (Old w) v' (n : Rat) ∧ Below w.heap.size w w' := by
 have L := made1 w #[.bool false, .slice none 0 0, .bool false, .slice none 0 0] 60
 go_enter Tryz.func141, Tryz.ntmps141
 go_wp2_with fail
 refine (ratof_any _ n 1 (by decide) h0 h1 (by decide) (by decide)).mono ?_
 rintro e w1 ⟨v1, rfl, i1, hb1⟩
 rw [divInt_int] at i1
 obtain ⟨b1, A1, m1, c1, b1', A1', m1', c1', rfl, i1, -, -⟩ := i1.op
 have z1 := sz1 hb1
 have M := made1 w1 #[.bool b1, .slice A1 m1 c1, .bool b1', .slice A1' m1' c1'] 60
 obtain ⟨e4, g4, -⟩ := L.all (w' := w1.alloc (.cells #[.bool b1, .slice A1 m1 c1, .bool b1', .slice A1' m1' c1'] 60))
 obtain ⟨e6, g6, l6⟩ := L.all (w' := w1)
 obtain ⟨e5, g5, -⟩ := M.all (w' := w1.alloc (.cells #[.bool b1, .slice A1 m1 c1, .bool b1', .slice A1' m1' c1'] 60))
 have LF := Loc.fill4 (u := .bool b1) (v := .slice A1 m1 c1) (x := .bool b1') (y := .slice A1' m1' c1') (L.to (w' := w1))
 obtain ⟨e8, g8, -⟩ := LF.all (w' := ((((w1.setCell ⟨w.heap.size, 0, none⟩ (.bool b1)).setCell ⟨w.heap.size, 1, none⟩ (.slice A1 m1 c1)).setCell ⟨w.heap.size, 2, none⟩ (.bool b1')).setCell ⟨w.heap.size, 3, none⟩ (.slice A1' m1' c1')).alloc (.cells #[.bool b1, .slice A1 m1 c1, .bool b1', .slice A1' m1' c1'] 60))
 go_wp2_with fail
 refine bodyPost_ret (by simp [results, Tryz.results141, go_sem, e8, g8] <;> rfl) rfl ⟨_, rfl, RatV.out i1, bel⟩

set_option maxHeartbeats 2000000 in
theorem zero_lin (w : World) :
 Calls Tryz.prog 142 #[] w fun e w' => ∃ v', e = .returned v' ∧ RatV w' (Old w) v' 0 ∧ Below w.heap.size w w' := by
 have L := made1 w #[.bool false, .slice none 0 0, .bool false, .slice none 0 0] 60
 go_enter Tryz.func142, Tryz.ntmps142
 go_wp2_with fail
 refine (whole_lin _ 0 (by decide) (by decide)).mono ?_
 rintro e w1 ⟨v1, rfl, i1, hb1⟩
 rw [show ((0 : Int) : Rat) = 0 from rfl] at i1
 obtain ⟨b1, A1, m1, c1, b1', A1', m1', c1', rfl, i1, -, -⟩ := i1.op
 have z1 := sz1 hb1
 obtain ⟨e4, g4, -⟩ := L.all (w' := w1)
 go_wp2_with fail
 refine bodyPost_ret (by simp [results, Tryz.results142, go_sem, e4, g4] <;> rfl) rfl ⟨_, rfl, RatV.out i1, bel⟩

theorem sign_neg_iff (q : Rat) : q.num.sign < 0 ↔ q < 0 := by
 have h : q.num.sign < 0 ↔ ¬ 0 ≤ q := by
  rw [← Rat.num_nonneg]
  rcases Int.lt_trichotomy q.num 0 with h | h | h
  ·rw [Int.sign_eq_neg_one_of_neg h]; omega
  ·rw [h]; decide
  ·rw [Int.sign_eq_one_of_pos h]; omega
 rw [h, Rat.not_le]

set_option maxHeartbeats 2000000 in
theorem negative_any (w : World) (k : Nat) (v : Value) (q : Rat) (h : RatL k w (fun _ => False) v q) :
 Calls Tryz.prog 165 #[v] w fun e w' => e = .returned (.bool (decide (q < 0))) ∧ Below w.heap.size w w' := by
 have hq := sign_neg_iff q
 obtain ⟨b, hb⟩ : ∃ b, decide (q < 0) = b := ⟨_, rfl⟩
 rw [hb]
 obtain ⟨n1, A, m, c, n2, B, m', d, rfl, h, -⟩ := h.op
 have HB : Hid (decide (q.num.sign < 0) = b) := by show _ = _; rw [← hb]; exact decide_eq_decide.2 hq
 clear hq hb
 go_enter Tryz.func165, Tryz.ntmps165
 go_wp2_with fail
 refine (sign_rat _ (fun _ => False) k _ q h.to).mono ?_
 rintro e w1 ⟨rfl, hb1⟩
 have z1 := sz1 hb1
 have HB2 := HB.out
 generalize q.num.sign = s at *
 clear HB
 cases b
 ·have h2 : ¬ s < 0 := of_decide_eq_false HB2
  go_wp2_with fail
  go_ret
  refine ⟨?_, bel⟩
  simp
 ·have h2 : s < 0 := of_decide_eq_true HB2
  go_wp2_with fail
  go_ret
  exact ⟨rfl, bel⟩

/- slices.ContainsFunc at the two predicates: a row of another length, a number below zero. -/

set_option maxHeartbeats 2000000 in
theorem valid1_any (w : World) (D : Option Addr) (l d g n : Nat) (hg : w.cell? ⟨g, 0, none⟩ = some (.int .i64 n)) :
 Calls Tryz.prog 137 #[.slice D l d, .pointer (some ⟨g, 0, none⟩)] w fun e w' => e = .returned (.bool (!decide (l = n))) ∧ Below w.heap.size w w' := by
 obtain ⟨b, hb⟩ : ∃ b, (!decide (l = n)) = b := ⟨_, rfl⟩
 rw [hb]
 by_cases h : l = n
 ·obtain rfl : b = false := by rw [← hb, decide_eq_true h]; rfl
  clear hb
  subst h
  go_enter Tryz.func137, Tryz.ntmps137
  go_wp2_with fail
  go_ret
  refine ⟨?_, bel⟩
  simp
 ·obtain rfl : b = true := by rw [← hb, decide_eq_false h]; rfl
  clear hb
  have h2 : ((l : Int) == (n : Int)) = false := beq_eq_false_iff_ne.2 (by omega)
  have h3 : ((l : Int) != (n : Int)) = true := bne_iff_ne.2 (by omega)
  go_enter Tryz.func137, Tryz.ntmps137
  go_wp2_with fail
  go_ret
  refine ⟨?_, bel⟩
  simp [h, h2, h3]

set_option maxHeartbeats 4000000 in
theorem indexLen_any (w : World) (va : Value) (m k g n : Nat) (N : Nat → Nat) (F : Nat → Nat → Rat) (h : Mat k w (fun _ => False) va m N F) (hg : w.cell? ⟨g, 0, none⟩ = some (.int .i64 n)) (hm : m ≤ 1000000) (hgl : g < w.heap.size) :
 Calls Tryz.prog 125 #[va, .func (Fn.func 137) #[] #[.pointer (some ⟨g, 0, none⟩)]] w fun e w' => ∃ r : Int, e = .returned (.int .i64 r) ∧ ((0 ≤ r ∧ ¬ ∀ i, i < m → N i = n) ∨ (r < 0 ∧ ∀ i, i < m → N i = n)) ∧ Below w.heap.size w w' := by
 obtain ⟨A, c1, rfl, h, l1, l2⟩ := h.op
 have H := Lib.hid h
 clear h
 go_enter Tryz.func125, Tryz.ntmps125
 go_wp2_with fail
 go_loopw [8] (fun i wr => ∃ (c : Nat), c ≤ m ∧ i = .int .i64 c ∧ Hid (∀ i, i < c → N i = n) ∧ Below w.heap.size w wr) (fun i _ => m - (intOf i).toNat)
 case atStart => exact ⟨0, by omega, rfl, Lib.hid (fun i hi => absurd hi (by omega)), bel⟩
 case round =>
  obtain ⟨c, hc, rfl, hall, hB⟩ := hrel
  obtain ⟨wo, rfl⟩ : ∃ wo : World, wo = wr := ⟨_, rfl⟩
  have y5 := hB.size; (try simp only [zs] at y5)
  by_cases hlt : c < m
  ·obtain ⟨a, D, d, rfl, hab, -, hcell, hnum, l3, l4⟩ := Mat.at (Mat.keep H.out (.of_below hB)) hlt
   go_wp2_with fail
   refine (valid1_any _ D (N c) d g n (cell_keep (X := fun _ => False) hg hgl id (.of_below hB))).mono ?_
   rintro e w2 ⟨he, hb2⟩
   have y2 := hb2.size; (try simp only [zs] at y2)
   rcases Classical.em ((fun i => N i = n) c) with hgd | hgd
   ·have he2 : e = .returned (.bool false) := by rw [he, decide_eq_true (show N c = n from hgd)]; rfl
    subst he2
    have HGD := Lib.hid hgd
    clear hgd he
    go_wp2_with fail
    go_roundw
    case rel =>
     refine ⟨c + 1, by omega, by go_num, Lib.hid (fun i hi => ?_), bel⟩
     by_cases hic : i < c
     ·exact hall.out i hic
     ·obtain rfl : i = c := by omega
      exact HGD.out
    case measure => simp only [intOf]; omega
   ·have he2 : e = .returned (.bool true) := by rw [he, decide_eq_false (show ¬ N c = n from hgd)]; rfl
    subst he2
    have HGD := Lib.hid hgd
    clear hgd he
    go_wp2_with fail
    go_ret
    exact ⟨_, rfl, .inl ⟨by omega, fun hh => HGD.out (hh c hlt)⟩, bel⟩
  ·obtain rfl : c = m := by omega
   go_wp2_with fail
   go_ret
   exact ⟨_, rfl, .inr ⟨by decide, hall.out⟩, hB⟩

set_option maxHeartbeats 4000000 in
theorem containsLen_any (w : World) (va : Value) (m k g n : Nat) (N : Nat → Nat) (F : Nat → Nat → Rat) (h : Mat k w (fun _ => False) va m N F) (hg : w.cell? ⟨g, 0, none⟩ = some (.int .i64 n)) (hm : m ≤ 1000000) (hgl : g < w.heap.size) :
 Calls Tryz.prog 86 #[va, .func (Fn.func 137) #[] #[.pointer (some ⟨g, 0, none⟩)]] w fun e w' => ∃ b : Bool, e = .returned (.bool b) ∧ (b = false ↔ ∀ i, i < m → N i = n) ∧ Below w.heap.size w w' := by
 obtain ⟨A, c1, rfl, h, l1, l2⟩ := h.op
 have H := Lib.hid h
 clear h
 go_enter Tryz.func86, Tryz.ntmps86
 go_wp2_with fail
 refine (indexLen_any _ _ m k g n N F H.out hg hm hgl).mono ?_
 rintro e w1 ⟨r, rfl, hr, hb1⟩
 have y1 := hb1.size; (try simp only [zs] at y1)
 have HR := Lib.hid hr
 clear hr
 by_cases h0 : 0 ≤ r
 ·go_wp2_with fail
  go_ret
  refine ⟨true, rfl, ?_, bel⟩
  rcases HR.out with ⟨_, h⟩ | ⟨h, _⟩
  ·exact ⟨fun h' => (by cases h'), fun h' => absurd h' h⟩
  ·omega
 ·go_wp2_with fail
  go_ret
  refine ⟨false, ?_, ?_, bel⟩
  ·simp
   omega
  ·rcases HR.out with ⟨h, _⟩ | ⟨_, h⟩
   ·omega
   ·exact ⟨fun _ => h, fun _ => rfl⟩

end Go.Proofs.YtdambnieminnfaaGreat

