/- Compare of package integer and of the reference. -/
import Derived.Test.YtlbgnndjacagkaaRows
import Derived.Test.YtlbgnndjacagkaaApi7
import Derived.Deep.RegionHeld3
import Derived.Deep.DrawnRows
namespace Go.Proofs.Ytlbgnndjacagkaa
open Go.RowKit
attribute [local go_sem ↓] Go.wp_at_zero Go.wp_at_succ
attribute [local go_sem] beq_self_eq_true

theorem sign_cases (a : Int) : (a < 0 ∧ a.sign = -1) ∨ (a = 0 ∧ a.sign = 0) ∨ (0 < a ∧ a.sign = 1) := by
  rcases Int.lt_trichotomy a 0 with h | h | h
  · exact Or.inl ⟨h, Int.sign_eq_neg_one_of_neg h⟩
  · exact Or.inr (Or.inl ⟨h, by rw [h]; rfl⟩)
  · exact Or.inr (Or.inr ⟨h, Int.sign_eq_one_of_pos h⟩)
theorem sv_cases (n : Bool) (xs : List Nat) : (sv n xs = (val xs : Nat)) ∨ (sv n xs = -((val xs : Nat) : Int)) := by
  cases n
  · exact Or.inl (sv_false xs)
  · exact Or.inr (sv_true xs)
theorem cmp_lt {a b : Int} (h : a.sign < b.sign) : (a - b).sign = -1 := by
  rcases sign_cases a with ⟨h1, e1⟩ | ⟨h1, e1⟩ | ⟨h1, e1⟩ <;> rcases sign_cases b with ⟨h2, e2⟩ | ⟨h2, e2⟩ | ⟨h2, e2⟩ <;> rw [e1, e2] at h <;>
    rcases sign_cases (a - b) with ⟨h3, e3⟩ | ⟨h3, e3⟩ | ⟨h3, e3⟩ <;> omega
theorem cmp_gt {a b : Int} (h : b.sign < a.sign) : (a - b).sign = 1 := by
  rcases sign_cases a with ⟨h1, e1⟩ | ⟨h1, e1⟩ | ⟨h1, e1⟩ <;> rcases sign_cases b with ⟨h2, e2⟩ | ⟨h2, e2⟩ | ⟨h2, e2⟩ <;> rw [e1, e2] at h <;>
    rcases sign_cases (a - b) with ⟨h3, e3⟩ | ⟨h3, e3⟩ | ⟨h3, e3⟩ <;> omega
theorem cmp_eq {n1 n2 : Bool} {xs ys : List Nat} (h : (sv n1 xs).sign = (sv n2 ys).sign) : (sv n1 xs).sign * cmpN (val xs) (val ys) = (sv n1 xs - sv n2 ys).sign := by
  have hc : (val xs < val ys ∧ cmpN (val xs) (val ys) = -1) ∨ (val xs = val ys ∧ cmpN (val xs) (val ys) = 0) ∨ (val ys < val xs ∧ cmpN (val xs) (val ys) = 1) := by
    rcases Nat.lt_trichotomy (val xs) (val ys) with h | h | h
    · exact Or.inl ⟨h, cmpN_lt h⟩
    · exact Or.inr (Or.inl ⟨h, cmpN_eq h⟩)
    · exact Or.inr (Or.inr ⟨h, cmpN_gt h⟩)
  have a1 := sv_cases n1 xs
  have a2 := sv_cases n2 ys
  generalize sv n1 xs = a at *
  generalize sv n2 ys = b at *
  rcases sign_cases a with ⟨h1, e1⟩ | ⟨h1, e1⟩ | ⟨h1, e1⟩ <;> rcases sign_cases b with ⟨h2, e2⟩ | ⟨h2, e2⟩ | ⟨h2, e2⟩ <;> rw [e1] at h ⊢ <;> rw [e2] at h <;>
    rcases sign_cases (a - b) with ⟨h3, e3⟩ | ⟨h3, e3⟩ | ⟨h3, e3⟩ <;> rw [e3] <;> rcases hc with ⟨h4, e4⟩ | ⟨h4, e4⟩ | ⟨h4, e4⟩ <;> rw [e4] <;> omega

theorem add_len (a b : Int) (k : Nat) (ha : (dig a.natAbs).length ≤ k) (hb : (dig b.natAbs).length ≤ k) : (dig (a + b).natAbs).length ≤ k + 1 := by
  have h1 := val_lt (can_dig a.natAbs).1
  have h2 := val_lt (can_dig b.natAbs).1
  rw [val_dig] at h1 h2
  have h3 : 4294967296 ^ (dig a.natAbs).length ≤ 4294967296 ^ k := Nat.pow_le_pow_right (by omega) ha
  have h4 : 4294967296 ^ (dig b.natAbs).length ≤ 4294967296 ^ k := Nat.pow_le_pow_right (by omega) hb
  refine dig_len_le ?_
  rw [Nat.pow_succ]
  omega
theorem sub_len (a b : Int) (k : Nat) (ha : (dig a.natAbs).length ≤ k) (hb : (dig b.natAbs).length ≤ k) : (dig (a - b).natAbs).length ≤ k + 1 := by
  rw [Int.sub_eq_add_neg]
  exact add_len a (-b) k ha (by rw [Int.natAbs_neg]; exact hb)
theorem sv_len (n : Bool) (xs : List Nat) (h : Ws xs) : (dig (sv n xs).natAbs).length ≤ xs.length := by rw [sv_abs]; exact dig_len_le (val_lt h)

set_option maxHeartbeats 2000000 in
theorem icompare_any (w : World) (X : Nat → Prop) (v1 v2 : Value) (n1 n2 : Bool) (xs ys : List Nat) (h1 : IntR w X v1 n1 xs) (h2 : IntR w X v2 n2 ys) :
    Calls Try.prog 41 #[v1, v2] w fun e w' => e = .returned (.int .i64 (sv n1 xs - sv n2 ys).sign) ∧ Below w.heap.size w w' := by
  obtain ⟨A, c, rfl, _, _, H1⟩ := h1.open_
  obtain ⟨B, d, rfl, _, _, H2⟩ := h2.open_
  have HC1 := Lib.hid (can_trimL H1.2)
  have HC2 := Lib.hid (can_trimL H2.2)
  have c1 := cmp_lt (a := sv n1 xs) (b := sv n2 ys)
  have c2 := cmp_gt (a := sv n1 xs) (b := sv n2 ys)
  have c3 := cmp_eq (n1 := n1) (n2 := n2) (xs := xs) (ys := ys)
  have hsa := sign_cases (sv n1 xs)
  have hsb := sign_cases (sv n2 ys)
  have hv : cmpN (val (trimL xs)) (val (trimL ys)) = cmpN (val xs) (val ys) := by rw [val_trimL, val_trimL]
  have HV := Lib.hid hv
  have hbr : -1 ≤ (sv n1 xs - sv n2 ys).sign ∧ (sv n1 xs - sv n2 ys).sign ≤ 1 := by
    rcases sign_cases (sv n1 xs - sv n2 ys) with ⟨_, e⟩ | ⟨_, e⟩ | ⟨_, e⟩ <;> rw [e] <;> omega
  generalize hr : (sv n1 xs - sv n2 ys).sign = r at *
  generalize hs1 : (sv n1 xs).sign = s1 at *
  generalize hs2 : (sv n2 ys).sign = s2 at *
  generalize cmpN (val xs) (val ys) = cm at *
  have hb1 : -1 ≤ s1 ∧ s1 ≤ 1 := by omega
  have hb2 : -1 ≤ s2 ∧ s2 ≤ 1 := by omega
  have G1 := Lib.hid hs1
  have G2 := Lib.hid hs2
  have C1 := Lib.hid c1
  have C2 := Lib.hid c2
  have C3 := Lib.hid c3
  clear hr hs1 hs2 hsa hsb c1 c2 c3 hv
  go_enter Try.func41, Try.ntmps41
  go_wp2_with fail
  have K1 := (H1.weak (Y := fun _ => False) (fun _ _ h => h.elim)).below (below2 w (.cells #[.bool n1, .slice A xs.length c] 24) (.cells #[.bool n2, .slice B ys.length d] 24))
  have K2 := (H2.weak (Y := fun _ => False) (fun _ _ h => h.elim)).below (below2 w (.cells #[.bool n1, .slice A xs.length c] 24) (.cells #[.bool n2, .slice B ys.length d] 24))
  obtain ⟨La, Lb, hB0, hsz0⟩ := locs2 (c1 := #[.bool n1, .slice A xs.length c]) (c2 := #[.bool n2, .slice B ys.length d]) (t1 := 24) (t2 := 24) (Below.refl _ ((w.alloc _).alloc _))
  generalize ((w.alloc (.cells #[.bool n1, .slice A xs.length c] 24)).alloc (.cells #[.bool n2, .slice B ys.length d] 24)) = w0 at *
  clear H1 H2 h1 h2
  have KS : Hid (∀ W, Below w0.heap.size w0 W → ((W.cell? ⟨w.heap.size, 0, none⟩ = some (.bool n1) ∧ W.cell? ⟨w.heap.size, 1, none⟩ = some (.slice A xs.length c)) ∧ W.cell? ⟨w.heap.size + 1, 0, none⟩ = some (.bool n2) ∧ W.cell? ⟨w.heap.size + 1, 1, none⟩ = some (.slice B ys.length d))) := fun W hW => cells_of ⟨La.below hW, Lb.below hW⟩
  go_region_held3 (fun W => ((W.cell? ⟨w.heap.size, 0, none⟩ = some (.bool n1) ∧ W.cell? ⟨w.heap.size, 1, none⟩ = some (.slice A xs.length c)) ∧ W.cell? ⟨w.heap.size + 1, 0, none⟩ = some (.bool n2) ∧ W.cell? ⟨w.heap.size + 1, 1, none⟩ = some (.slice B ys.length d)))
    (first | exact KS.out _ k2 | exact KS.out _ k1 | exact KS.out _ (Below.refl _ _).drew)
    (first
      | (go_at_call_of 23 (Value.agg #[Value.bool n1, Value.slice A xs.length c]); refine (sign_any _ (fun _ => False) _ n1 xs ⟨_, rfl, K1.below (Below.refl _ _).drew⟩).mono ?_; rintro e wa ⟨he, hka⟩; rw [G1.out] at he; subst he; have k1 := below_undrew hka)
      | (go_at_call_of 23 (Value.agg #[Value.bool n2, Value.slice B ys.length d]); refine (sign_any _ (fun _ => False) _ n2 ys ⟨_, rfl, K2.below k1⟩).mono ?_; rintro e wb ⟨he, hkb⟩; rw [G2.out] at he; subst he; have k2 := k1.trans (hkb.mono k1.size)))
  all_goals
    have hBn := hB0.trans (k2.mono (by omega))
    have Ka := K1.below k2
    have Kb := K2.below k2
    have La2 := La.below k2
    have Lb2 := Lb.below k2
    clear K1 K2 La Lb KS k1 hka hkb
    by_cases hlt : s1 < s2
    · have HR := Lib.hid (C1.out hlt)
      go_wp2_with fail
      go_ret
      exact ⟨ret_eq (int_eq HR.out.symm), hBn⟩
    · by_cases hgt : s2 < s1
      · have HR := Lib.hid (C2.out hgt)
        go_wp2_with fail
        go_ret
        exact ⟨ret_eq (int_eq HR.out.symm), hBn⟩
      · obtain rfl : s1 = s2 := by omega
        have HR := Lib.hid (C3.out rfl)
        have KS : Hid (∀ W, Below wb.heap.size wb W → ((W.cell? ⟨w.heap.size, 0, none⟩ = some (.bool n1) ∧ W.cell? ⟨w.heap.size, 1, none⟩ = some (.slice A xs.length c)) ∧ W.cell? ⟨w.heap.size + 1, 0, none⟩ = some (.bool n2) ∧ W.cell? ⟨w.heap.size + 1, 1, none⟩ = some (.slice B ys.length d))) := fun W hW => cells_of ⟨La2.below hW, Lb2.below hW⟩
        go_wp2_with fail
        go_region_held3 (fun W => ((W.cell? ⟨w.heap.size, 0, none⟩ = some (.bool n1) ∧ W.cell? ⟨w.heap.size, 1, none⟩ = some (.slice A xs.length c)) ∧ W.cell? ⟨w.heap.size + 1, 0, none⟩ = some (.bool n2) ∧ W.cell? ⟨w.heap.size + 1, 1, none⟩ = some (.slice B ys.length d)))
          (first | exact KS.out _ (Below.refl _ _).drew | exact KS.out _ (below_drewN (Below.refl _ _) _))
          (first
            | (go_at_call_of 48 (Value.slice A xs.length c); refine (trim_any _ (fun _ => False) (.slice A xs.length c) xs (Ka.below (Below.refl _ _).drew)).mono ?_; rintro e w' ⟨va, rfl, ha, rfl⟩)
            | (go_at_call_of 48 (Value.slice B ys.length d); refine (trim_any _ (fun _ => False) (.slice B ys.length d) ys (Kb.below (Below.refl _ _).drew)).mono ?_; rintro e w' ⟨vb, rfl, hb, rfl⟩)
            | (go_at_call 63; refine (compare_any _ (fun _ => False) va vb _ _ ha hb HC1.out HC2.out).mono ?_; rintro e w' ⟨he, n, rfl⟩; rw [HV.out] at he; subst he))
        all_goals
          try go_wp2_with fail
          go_ret
          refine ⟨ret_eq (int_eq ?_), hBn.trans ((below_drewN (Below.refl _ _) _).mono hBn.size)⟩
          rw [HR.out, IntKind.wrap_i64]
          omega

set_option maxHeartbeats 1000000 in
theorem rcompare_any (w : World) (X : Nat → Prop) (v1 v2 : Value) (n1 n2 : Bool) (xs ys : List Nat) (h1 : IntR w X v1 n1 xs) (h2 : IntR w X v2 n2 ys) (hs1 : xs.length ≤ 100000000000) (hs2 : ys.length ≤ 100000000000) :
    Calls Try.prog 42 #[v1, v2] w fun e w' => e = .returned (.int .i64 (sv n1 xs - sv n2 ys).sign) ∧ Below w.heap.size w w' := by
  obtain ⟨A, c, rfl, _, _, H1⟩ := h1.open_
  obtain ⟨B, d, rfl, _, _, H2⟩ := h2.open_
  have hl := sub_len (sv n1 xs) (sv n2 ys) (xs.length + ys.length) (by rw [sv_abs]; have := dig_len_le (val_lt H1.2); omega) (by rw [sv_abs]; have := dig_len_le (val_lt H2.2); omega)
  go_enter Try.func42, Try.ntmps42
  go_wp2_with fail
  refine (rsub_any _ X _ _ n1 n2 xs ys ⟨_, rfl, H1.below (below2 _ _ _)⟩ ⟨_, rfl, H2.below (below2 _ _ _)⟩ hs1 hs2).mono ?_
  rintro e w2 ⟨v2, rfl, h2, hb2⟩
  obtain ⟨La, Lb, hB, hsz⟩ := locs2 hb2
  go_wp2_with fail
  refine (rsign_any _ _ _ _ _ h2 (by omega)).mono ?_
  rintro e w3 ⟨rfl, hb3⟩
  go_wp2_with fail
  go_ret
  exact ⟨ret_eq (int_eq (by rw [sv_dig])), hB.trans (hb3.mono hB.size)⟩
end Go.Proofs.Ytlbgnndjacagkaa
