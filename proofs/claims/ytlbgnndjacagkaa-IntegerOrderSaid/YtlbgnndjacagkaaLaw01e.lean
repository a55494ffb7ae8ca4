/- IntegerOrder: the law's walk. -/
import Derived.Test.YtlbgnndjacagkaaRows
import Derived.Test.YtlbgnndjacagkaaKnown
import Derived.Test.YtlbgnndjacagkaaVers
import Derived.Test.YtlbgnndjacagkaaApi8
import Derived.Deep.RegionHeld3
import Derived.Deep.DrawnRows
namespace Go.Proofs.Ytlbgnndjacagkaa
open Go.RowKit
attribute [local go_sem ↓] Go.wp_at_zero Go.wp_at_succ
attribute [local go_sem] beq_self_eq_true

theorem order_cases (a b z : Int) : ∃ (c m : Int) (q : Bool), ((c = -1 ∧ m = 1 ∧ q = false) ∨ (c = 0 ∧ m = 0 ∧ q = true) ∨ (c = 1 ∧ m = -1 ∧ q = false)) ∧ (a - b).sign = c ∧ (b - a).sign = m ∧ (a + z - (b + z)).sign = c ∧ decide (a = b) = q ∧
    (c ≤ 0 → (b - z).sign ≤ 0 → (a - z).sign ≤ 0) := by
  have h3 : a + z - (b + z) = a - b := by omega
  rw [h3]
  have s1 := sign_cases (b - z)
  have s2 := sign_cases (a - z)
  rcases sign_cases (a - b) with ⟨h, e⟩ | ⟨h, e⟩ | ⟨h, e⟩
  · refine ⟨-1, 1, false, Or.inl ⟨rfl, rfl, rfl⟩, e, Int.sign_eq_one_of_pos (by omega), e, by simp; omega, by omega⟩
  · refine ⟨0, 0, true, Or.inr (Or.inl ⟨rfl, rfl, rfl⟩), e, ?_, e, by simp; omega, by omega⟩
    have : b - a = 0 := by omega
    rw [this]; rfl
  · refine ⟨1, -1, false, Or.inr (Or.inr ⟨rfl, rfl, rfl⟩), e, Int.sign_eq_neg_one_of_neg (by omega), e, by simp; omega, by omega⟩

set_option maxHeartbeats 4000000 in
theorem order_walk (w : World) (v1 v2 v3 : Value) (n1 n2 n3 : Bool) (xs ys zs : List Nat) (h1 : IntR w (fun _ => False) v1 n1 xs) (h2 : IntR w (fun _ => False) v2 n2 ys) (h3 : IntR w (fun _ => False) v3 n3 zs) :
    Calls Try.prog 9 #[v1, v2, v3] w fun e w' => e = .returned (.bool true) ∧ Below w.heap.size w w' := by
  obtain ⟨A, c, rfl, _, _, H1⟩ := h1.open_
  obtain ⟨B, d, rfl, _, _, H2⟩ := h2.open_
  obtain ⟨C, f, rfl, _, _, H3⟩ := h3.open_
  have q1 := sv_len n1 xs H1.2
  have q2 := sv_len n2 ys H2.2
  have q3 := sv_len n3 zs H3.2
  have hcs := order_cases (sv n1 xs) (sv n2 ys) (sv n3 zs)
  have Q1 := Lib.hid q1
  have Q2 := Lib.hid q2
  have Q3 := Lib.hid q3
  have HCS := Lib.hid hcs
  clear hcs q1 q2 q3
  go_enter Try.func9, Try.ntmps9
  go_wp2_with fail
  refine (known_any _).mono ?_
  rintro e w1 ⟨rfl, hb1⟩
  obtain ⟨Lx, Ly, Lz, hB1, hz1⟩ := locs3 hb1
  have cx := Lx.cell
  have cy := Ly.cell
  have cz := Lz.cell
  clear H1 H2 H3
  have hx1 := h1.below hB1
  have hy1 := h2.below hB1
  have hz1 := h3.below hB1
  by_cases hs1 : ¬ xs.length ≤ 10
  · go_wp2_with fail
    refine (lshort_any _ _ _ n1 xs hx1).mono ?_
    rintro e w2 ⟨rfl, hb2⟩
    go_wp2_with fail
    go_ret
    exact ⟨rfl, hB1.trans (hb2.mono hB1.size)⟩
  · have hs1 := Classical.not_not.1 hs1
    go_wp2_with fail
    refine (lshort_any _ _ _ n1 xs hx1).mono ?_
    rintro e w2 ⟨rfl, hb2⟩
    have Ly2 := Ly.below hb2
    have cy2 := Ly2.cell
    have hB2 := hB1.trans (hb2.mono hB1.size)
    clear cx cy cz
    by_cases hs2 : ¬ ys.length ≤ 10
    · go_wp2_with fail
      refine (lshort_any _ _ _ n2 ys (hy1.below hb2)).mono ?_
      rintro e w3 ⟨rfl, hb3⟩
      go_wp2_with fail
      go_ret
      exact ⟨rfl, hB2.trans (hb3.mono hB2.size)⟩
    · have hs2 := Classical.not_not.1 hs2
      go_wp2_with fail
      refine (lshort_any _ _ _ n2 ys (hy1.below hb2)).mono ?_
      rintro e w3 ⟨rfl, hb3⟩
      have k3 := hb2.trans (hb3.mono hb2.size)
      have hB3 := hB2.trans (hb3.mono hB2.size)
      have cz3 := (Lz.below k3).cell
      clear cy2
      by_cases hs3 : ¬ zs.length ≤ 10
      · go_wp2_with fail
        refine (lshort_any _ _ _ n3 zs (hz1.below k3)).mono ?_
        rintro e w4 ⟨rfl, hb4⟩
        go_wp2_with fail
        go_ret
        exact ⟨rfl, hB3.trans (hb4.mono hB3.size)⟩
      · have hs3 := Classical.not_not.1 hs3
        go_wp2_with fail
        refine (lshort_any _ _ _ n3 zs (hz1.below k3)).mono ?_
        rintro e w4 ⟨rfl, hb4⟩
        have k4 := k3.trans (hb4.mono k3.size)
        have hB4 := hB3.trans (hb4.mono hB3.size)
        clear cz3
        have Lx4 := Lx.below k4
        have Ly4 := Ly.below k4
        have Lz4 := Lz.below k4
        have hx4 := hx1.below k4
        have hy4 := hy1.below k4
        have hz4 := hz1.below k4
        clear hb1 hB1 hB2 hB3 hb2 hb3 hb4 k3 k4 Lx Ly Lz Ly2 hx1 hy1 hz1 h1 h2 h3
        have cx4 := Lx4.cell
        have cy4 := Ly4.cell
        obtain ⟨c0, m, q, hcase, e1, e2, e3, e4, e5⟩ := HCS.out
        have E1 := Lib.hid e1
        have E2 := Lib.hid e2
        have E3 := Lib.hid e3
        have E4 := Lib.hid e4
        have E5 := Lib.hid e5
        clear e1 e2 e3 e4 e5 HCS
        go_wp2_with fail
        refine (icompare_any _ (fun _ => False) _ _ n1 n2 xs ys hx4 hy4).mono ?_
        rintro e w5 ⟨he, hb5⟩
        rw [E1.out] at he
        subst he
        have cx5 := (Lx4.below hb5).cell
        have cy5 := (Ly4.below hb5).cell
        clear cx4 cy4
        rcases hcase with ⟨rfl, rfl, rfl⟩ | ⟨rfl, rfl, rfl⟩ | ⟨rfl, rfl, rfl⟩
        all_goals
          go_wp2_with fail
          refine (sub_any _ (fun _ => False) _ _ _ _ _ _ (hx4.below hb5) (hy4.below hb5) (by omega) (by omega)).mono ?_
          rintro e w6 ⟨v6, rfl, h6, hb6⟩
          obtain ⟨b6, A6, n6, c6, rfl, h6⟩ := h6.op
          have k6 := hb5.trans (hb6.mono hb5.size)
          have cx6 := (Lx4.below k6).cell
          have cy6 := (Ly4.below k6).cell
          go_wp2_with fail
          refine (sign_V _ _ _ _ h6).mono ?_
          rintro e w7 ⟨he, hb7⟩
          rw [E1.out] at he
          subst he
          have k7 := k6.trans (hb7.mono k6.size)
          have cx7 := (Lx4.below k7).cell
          have cy7 := (Ly4.below k7).cell
          clear cx5 cy5 cx6 cy6
          go_wp2_with fail
          refine (icompare_any _ (fun _ => False) _ _ n2 n1 ys xs (hy4.below k7) (hx4.below k7)).mono ?_
          rintro e w8 ⟨he, hb8⟩
          rw [E2.out] at he
          subst he
          have k8 := k7.trans (hb8.mono k7.size)
          have cx8 := (Lx4.below k8).cell
          have cy8 := (Ly4.below k8).cell
          clear cx7 cy7
          go_wp2_with fail
          refine (rcompare_any _ (fun _ => False) _ _ n1 n2 xs ys (hx4.below k8) (hy4.below k8) (by omega) (by omega)).mono ?_
          rintro e w9 ⟨he, hb9⟩
          rw [E1.out] at he
          subst he
          have k9 := k8.trans (hb9.mono k8.size)
          have Lx9 := Lx4.below k9
          have Ly9 := Ly4.below k9
          have Lz9 := Lz4.below k9
          have hx9 := hx4.below k9
          have hy9 := hy4.below k9
          have hz9 := hz4.below k9
          have hB9 := hB4.trans (k9.mono hB4.size)
          clear cx8 cy8 Lx4 Ly4 Lz4 hx4 hy4 hz4 k9 k8 k7 k6 hb9 hb8 hb7 hb6 hb5 h6 hB4
          go_wp2_with fail
          have KS : Hid (∀ W, Below w9.heap.size w9 W → ((W.cell? ⟨w.heap.size, 0, none⟩ = some (.bool n1) ∧ W.cell? ⟨w.heap.size, 1, none⟩ = some (.slice A xs.length c)) ∧ (W.cell? ⟨w.heap.size + 1, 0, none⟩ = some (.bool n2) ∧ W.cell? ⟨w.heap.size + 1, 1, none⟩ = some (.slice B ys.length d))) ∧ W.cell? ⟨w.heap.size + 1 + 1, 0, none⟩ = some (.bool n3) ∧ W.cell? ⟨w.heap.size + 1 + 1, 1, none⟩ = some (.slice C zs.length f)) := fun W hW => ⟨cells_of ⟨Lx9.below hW, Ly9.below hW⟩, (Lz9.below hW).cell 0, (Lz9.below hW).cell 1⟩
          go_region_held3 (fun W => ((W.cell? ⟨w.heap.size, 0, none⟩ = some (.bool n1) ∧ W.cell? ⟨w.heap.size, 1, none⟩ = some (.slice A xs.length c)) ∧ (W.cell? ⟨w.heap.size + 1, 0, none⟩ = some (.bool n2) ∧ W.cell? ⟨w.heap.size + 1, 1, none⟩ = some (.slice B ys.length d))) ∧ W.cell? ⟨w.heap.size + 1 + 1, 0, none⟩ = some (.bool n3) ∧ W.cell? ⟨w.heap.size + 1 + 1, 1, none⟩ = some (.slice C zs.length f))
            (first | exact KS.out _ k6 | exact KS.out _ k5 | exact KS.out _ k4 | exact KS.out _ k3 | exact KS.out _ k2 | exact KS.out _ k1 | exact KS.out _ (Below.refl _ _).drew)
            (first
              | (go_at_call_of 37 (Value.agg #[Value.bool n1, Value.slice A xs.length c]); refine (add_any _ (fun _ => False) _ _ _ _ _ _ (hx9.below (Below.refl _ _).drew) (hz9.below (Below.refl _ _).drew) (by omega) (by omega)).mono ?_; rintro e u1 ⟨v1, rfl, h1, hb1⟩; have k1 := below_undrew hb1; obtain ⟨b1, A1, m1, c1, rfl, h1⟩ := h1.op)
              | (go_at_call_of 37 (Value.agg #[Value.bool n2, Value.slice B ys.length d]); refine (add_any _ (fun _ => False) _ _ _ _ _ _ (hy9.below k1) (hz9.below k1) (by omega) (by omega)).mono ?_; rintro e u2 ⟨v2, rfl, h2, hb2⟩; have k2 := k1.trans (hb2.mono k1.size); have h1' := h1.below hb2; obtain ⟨b2, A2, m2, c2, rfl, h2⟩ := h2.op)
              | (go_at_call 41; refine (icompare_any _ (fun _ => False) _ _ _ _ _ _ (h1'.weak (fun _ _ h => h.elim)) (h2.weak (fun _ _ h => h.elim))).mono ?_; rintro e u3 ⟨he, hb3⟩; rw [sv_dig, sv_dig, E3.out] at he; subst he; have k3 := k2.trans (hb3.mono k2.size))
              | (go_at_call_of 20 (Value.agg #[Value.bool n1, Value.slice A xs.length c]); refine (clean_any _ (fun _ => False) _ n1 xs (hx9.below k3) (by omega)).mono ?_; rintro e u4 ⟨v4, rfl, h4, hb4⟩; have k4 := k3.trans (hb4.mono k3.size); obtain ⟨b4, A4, m4, c4, rfl, h4⟩ := h4.op)
              | (go_at_call_of 20 (Value.agg #[Value.bool n2, Value.slice B ys.length d]); refine (clean_any _ (fun _ => False) _ n2 ys (hy9.below k4) (by omega)).mono ?_; rintro e u5 ⟨v5, rfl, h5, hb5⟩; have k5 := k4.trans (hb5.mono k4.size); have h4' := h4.below hb5; obtain ⟨b5, A5, m5, c5, rfl, h5⟩ := h5.op)
              | (go_at_call 17; refine (same_V _ _ _ _ _ _ _ h4' h5).mono ?_; rintro e u6 ⟨he, hb6⟩; rw [E4.out] at he; subst he; have k6 := k5.trans (hb6.mono k5.size)))
          all_goals
            have hBu := hB9.trans (k6.mono hB9.size)
            have Lyu := Ly9.below k6
            have Lzu := Lz9.below k6
            have Lxu := Lx9.below k6
            have cyu := Lyu.cell
            have czu := Lzu.cell
            have hxu := hx9.below k6
            have hyu := hy9.below k6
            have hzu := hz9.below k6
            clear KS k1 k2 k3 k4 k5 k6 hb1 hb2 hb3 hb4 hb5 hb6 h1 h1' h2 h4 h4' h5 Lx9 Ly9 Lz9 hx9 hy9 hz9 hB9
            go_wp2_with fail
            first
              | (go_ret
                 exact ⟨rfl, hBu⟩)
              | (refine (icompare_any _ (fun _ => False) _ _ n2 n3 ys zs hyu hzu).mono ?_
                 rintro e u7 ⟨he, hb7⟩
                 have hB7 := hBu.trans (hb7.mono hBu.size)
                 have cx7 := (Lxu.below hb7).cell
                 have cz7 := (Lzu.below hb7).cell
                 have hle := E5.out (by omega)
                 have HLE := Lib.hid hle
                 clear hle cyu czu
                 obtain ⟨r, hr⟩ : ∃ r, (sv n2 ys - sv n3 zs).sign = r := ⟨_, rfl⟩
                 rw [hr] at he HLE
                 subst he
                 clear hr
                 by_cases hpos : 0 < r
                 · go_wp2_with fail
                   go_ret
                   exact ⟨rfl, hB7⟩
                 · have hle := HLE.out (by omega)
                   go_wp2_with fail
                   refine (icompare_any _ (fun _ => False) _ _ n1 n3 xs zs (hxu.below hb7) (hzu.below hb7)).mono ?_
                   rintro e u8 ⟨he, hb8⟩
                   have hB8 := hB7.trans (hb8.mono hB7.size)
                   generalize (sv n1 xs - sv n3 zs).sign = t at *
                   subst he
                   go_wp2_with fail
                   go_ret
                   exact ⟨ret_eq (bool_eq (by first | (simp; done) | (simp; omega))), hB8⟩)
end Go.Proofs.Ytlbgnndjacagkaa
