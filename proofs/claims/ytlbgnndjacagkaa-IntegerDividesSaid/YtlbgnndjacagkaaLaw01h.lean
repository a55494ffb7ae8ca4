/- IntegerDivides: the law's walk. -/
import Derived.Test.YtlbgnndjacagkaaRows
import Derived.Test.YtlbgnndjacagkaaKnown
import Derived.Test.YtlbgnndjacagkaaVers
import Derived.Test.YtlbgnndjacagkaaDiv2
import Derived.Deep.RegionHeld3
import Derived.Deep.DrawnRows
namespace Go.Proofs.Ytlbgnndjacagkaa
open Go.RowKit
attribute [local go_sem ↓] Go.wp_at_zero Go.wp_at_succ
attribute [local go_sem] beq_self_eq_true

theorem qF_rem (x y : Int) (hy : y ≠ 0) : (x - qF x y * y).natAbs < y.natAbs ∧ (x - qF x y * y = 0 ∨ (x - qF x y * y).sign = y.sign) := by
  have hd := Nat.div_add_mod x.natAbs y.natAbs
  have hm := Nat.mod_lt x.natAbs (show 0 < y.natAbs by omega)
  unfold qF
  generalize x.natAbs / y.natAbs = k at *
  generalize x.natAbs % y.natAbs = r at *
  have hk : ((y.natAbs : Nat) : Int) * ((k : Nat) : Int) + ((r : Nat) : Int) = (x.natAbs : Int) := by rw [← hd]; push_cast; rfl
  rcases sign_cases x with ⟨h1, h2⟩ | ⟨h1, h2⟩ | ⟨h1, h2⟩ <;> rcases sign_cases y with ⟨g1, g2⟩ | ⟨g1, g2⟩ | ⟨g1, g2⟩
  all_goals first | omega | skip
  all_goals
    rw [h2, g2]
    first | rw [if_pos (by decide)] | rw [if_neg (by decide)]
    have hky : ((k : Nat) : Int) * y = (x.natAbs : Int) - (r : Int) ∨ ((k : Nat) : Int) * y = (r : Int) - (x.natAbs : Int) := by
      rcases Int.lt_or_lt_of_ne hy with h | h
      · right
        rw [(by omega : ((y.natAbs : Nat) : Int) = -y), Int.neg_mul, Int.mul_comm y] at hk
        omega
      · left
        rw [(by omega : ((y.natAbs : Nat) : Int) = y), Int.mul_comm y] at hk
        omega
    have hky2 : 0 < y → ((k : Nat) : Int) * y = (x.natAbs : Int) - (r : Int) := fun h => by
      rw [(by omega : ((y.natAbs : Nat) : Int) = y), Int.mul_comm y] at hk
      omega
    have hky3 : y < 0 → ((k : Nat) : Int) * y = (r : Int) - (x.natAbs : Int) := fun h => by
      rw [(by omega : ((y.natAbs : Nat) : Int) = -y), Int.neg_mul, Int.mul_comm y] at hk
      omega
    clear hk hky hd
    try split
    all_goals
      try simp only [Int.sub_mul, Int.neg_mul, Int.one_mul]
      generalize ((k : Nat) : Int) * y = m at *
      refine ⟨by omega, ?_⟩
      by_cases hr : r = 0
      · left; omega
      · first | (right; exact Int.sign_eq_one_of_pos (by omega)) | (right; exact Int.sign_eq_neg_one_of_neg (by omega)) | (left; omega)

set_option maxHeartbeats 4000000 in
theorem divides_walk (w : World) (v1 v2 : Value) (n1 n2 : Bool) (xs ys : List Nat) (h1 : IntR w (fun _ => False) v1 n1 xs) (h2 : IntR w (fun _ => False) v2 n2 ys) :
    Calls Try.prog 11 #[v1, v2] w fun e w' => e = .returned (.bool true) ∧ Below w.heap.size w w' := by
  obtain ⟨A, c, rfl, _, _, H1⟩ := h1.open_
  obtain ⟨B, d, rfl, _, _, H2⟩ := h2.open_
  have hy0 := h2
  have hwx : Ws xs := H1.2
  have hwy : Ws ys := H2.2
  go_enter Try.func11, Try.ntmps11
  go_wp2_with fail
  refine (known_any _).mono ?_
  rintro e w1 ⟨rfl, hb1⟩
  obtain ⟨Lx, Ly, hB1, hz1⟩ := locs2 hb1
  have cx := Lx.cell
  have cy := Ly.cell
  clear H1 H2
  have hx1 := h1.below hB1
  have hy1 := h2.below hB1
  by_cases hs1 : ¬ xs.length ≤ 10
  · go_wp2_with fail
    refine (lshort_any _ _ _ n1 xs hx1).mono ?_
    rintro e w2 ⟨rfl, hb2⟩
    go_wp2_with fail
    go_ret
    exact ⟨rfl, hB1.trans (hb2.mono hB1.size)⟩
  · have hs1 := Classical.not_not.1 hs1
    go_wp2_with fail
    refine (lshort_any _ _ _ n1 xs hx1).mono ?_
    rintro e w2 ⟨rfl, hb2⟩
    have Ly2 := Ly.below hb2
    have cy2 := Ly2.cell
    have hB2 := hB1.trans (hb2.mono hB1.size)
    clear cx cy
    by_cases hs2 : ¬ ys.length ≤ 10
    · go_wp2_with fail
      refine (lshort_any _ _ _ n2 ys (hy1.below hb2)).mono ?_
      rintro e w3 ⟨rfl, hb3⟩
      go_wp2_with fail
      go_ret
      exact ⟨rfl, hB2.trans (hb3.mono hB2.size)⟩
    · have hs2 := Classical.not_not.1 hs2
      go_wp2_with fail
      refine (lshort_any _ _ _ n2 ys (hy1.below hb2)).mono ?_
      rintro e w3 ⟨rfl, hb3⟩
      have k3 := hb2.trans (hb3.mono hb2.size)
      have hB3 := hB2.trans (hb3.mono hB2.size)
      have Lx3 := Lx.below k3
      have Ly3 := Ly.below k3
      have hx3 := h1.below hB3
      have hy3 := h2.below hB3
      have cx3 := Lx3.cell
      have cy3 := Ly3.cell
      have hq1 := sv_len n1 xs hwx
      have hq2 := sv_len n2 ys hwy
      clear Lx Ly Ly2 cy2 hx1 hy1 hb1 hB1 hb2 hb3 hB2 k3
      by_cases hz : val ys = 0
      · go_wp2_with fail
        refine (divide_zero _ (fun _ => False) _ _ n1 n2 xs ys hx3 hy3 hz).mono ?_
        rintro e w4 ⟨rfl, hb4⟩
        have hzs : sv n2 ys = 0 := by unfold sv; rw [hz]; split <;> rfl
        have HZS := Lib.hid hzs
        have k4 := hb4.trans ((below2 w4 (.cells #[.bool false, .slice none 0 0] 24) (.cells #[.bool false, .slice none 0 0] 24)).mono hb4.size)
        obtain ⟨Lq, Lr, _, _⟩ := locs2 (Below.refl _ ((w4.alloc (.cells #[.bool false, .slice none 0 0] 24)).alloc (.cells #[.bool false, .slice none 0 0] 24)))
        have Lx5 := Lx3.below k4
        have Ly5 := Ly3.below k4
        have hB5 := hB3.trans (k4.mono hB3.size)
        have hx5 := h1.below hB5
        have hy5 := h2.below hB5
        have cx5 := Lx5.cell
        have cy5 := Ly5.cell
        clear cx3 cy3 Lx3 Ly3 hx3 hy3 hB3 k4 hb4 hzs
        go_wp2_with fail
        refine (rdivide_zero _ (fun _ => False) _ _ n1 n2 xs ys hx5 hy5 hz (by omega) (by omega)).mono ?_
        rintro e w6 ⟨rfl, hb6⟩
        have k6 := hb6.trans ((below2 w6 (.cells #[.bool false, .slice none 0 0] 24) (.cells #[.bool false, .slice none 0 0] 24)).mono hb6.size)
        obtain ⟨La, Lb, _, _⟩ := locs2 (Below.refl _ ((w6.alloc (.cells #[.bool false, .slice none 0 0] 24)).alloc (.cells #[.bool false, .slice none 0 0] 24)))
        have Lq7 := Lq.below k6
        have Lr7 := Lr.below k6
        have Ly7 := Ly5.below k6
        have hB7 := hB5.trans (k6.mono hB5.size)
        have cq7 := Lq7.cell
        have ca7 := La.cell
        clear cx5 cy5 Lq Lr Ly5 Lx5 hx5 hy5 hB5 k6 hb6
        go_wp2_with fail
        refine (same_VV _ (fun _ => False) (fun _ => False) _ _ 0 0 (IntV.zero _ _) (IntV.zero _ _) rfl).mono ?_
        rintro e w8 ⟨rfl, hb8⟩
        have cr8 := (Lr7.below hb8).cell
        have cb8 := (Lb.below hb8).cell
        clear cq7 ca7
        go_wp2_with fail
        refine (same_VV _ (fun _ => False) (fun _ => False) _ _ 0 0 (IntV.zero _ _) (IntV.zero _ _) rfl).mono ?_
        rintro e w9 ⟨rfl, hb9⟩
        have k9 := hb8.trans (hb9.mono hb8.size)
        have cy9 := (Ly7.below k9).cell
        have hB9 := hB7.trans (k9.mono hB7.size)
        clear cr8 cb8
        go_wp2_with fail
        refine (rsign_any _ (fun _ => False) _ n2 ys (h2.below hB9) (by omega)).mono ?_
        rintro e w10 ⟨he, hb10⟩
        rw [HZS.out, Int.sign_zero] at he
        subst he
        have k10 := k9.trans (hb10.mono k9.size)
        have cq10 := (Lq7.below k10).cell
        go_wp2_with fail
        refine (same_VV _ (fun _ => False) (fun _ => False) _ _ 0 0 (IntV.zero _ _) (IntV.zero _ _) rfl).mono ?_
        rintro e w11 ⟨rfl, hb11⟩
        have k11 := k10.trans (hb11.mono k10.size)
        have cr11 := (Lr7.below k11).cell
        clear cq10 cy9
        go_wp2_with fail
        refine (same_VV _ (fun _ => False) (fun _ => False) _ _ 0 0 (IntV.zero _ _) (IntV.zero _ _) rfl).mono ?_
        rintro e w12 ⟨rfl, hb12⟩
        have k12 := k11.trans (hb12.mono k11.size)
        go_wp2_with fail
        go_ret
        exact ⟨rfl, hB7.trans (k12.mono hB7.size)⟩
      · have hyz : sv n2 ys ≠ 0 := by intro h; have := sv_abs n2 ys; rw [h] at this; exact hz (by simpa using this.symm)
        obtain ⟨hR1, hR2⟩ := qF_rem (sv n1 xs) (sv n2 ys) hyz
        obtain ⟨Z, hZ⟩ : ∃ Z, qF (sv n1 xs) (sv n2 ys) = Z := ⟨_, rfl⟩
        rw [hZ] at hR1 hR2
        obtain ⟨R, hR⟩ : ∃ R, sv n1 xs - Z * sv n2 ys = R := ⟨_, rfl⟩
        rw [hR] at hR1 hR2
        have hR3 : Z * sv n2 ys + R = sv n1 xs := by rw [← hR]; omega
        have hlR : (dig R.natAbs).length ≤ 10 := Nat.le_trans (dig_len_mono (Nat.le_of_lt hR1)) (by omega)
        have hlP : (dig (Z * sv n2 ys).natAbs).length ≤ 11 := by
          rw [(by omega : Z * sv n2 ys = sv n1 xs - R)]
          exact sub_len _ _ 10 (by omega) hlR
        have hlZ : (dig Z.natAbs).length ≤ 11 := by
          refine Nat.le_trans (dig_len_mono ?_) hlP
          rw [Int.natAbs_mul]
          exact Nat.le_mul_of_pos_right _ (by omega)
        have hcm : (((R.natAbs : Nat) : Int) - (((sv n2 ys).natAbs : Nat) : Int)).sign = -1 := Int.sign_eq_neg_one_of_neg (by omega)
        have HZ := Lib.hid hZ
        have HRR := Lib.hid hR
        have HR2 := Lib.hid hR2
        have HR3 := Lib.hid hR3
        have HLR := Lib.hid hlR
        have HLP := Lib.hid hlP
        have HLZ := Lib.hid hlZ
        have HCM := Lib.hid hcm
        clear hZ hR hR1 hR2 hR3 hlR hlP hlZ hcm hyz
        go_wp2_with fail
        refine (divide_any _ (fun _ => False) _ _ n1 n2 xs ys hx3 hy3 hz (by omega) (by omega)).mono ?_
        rintro e w4 ⟨vq, vr, rfl, hq4, hr4, hb4⟩
        rw [HZ.out] at hq4 hr4
        rw [HRR.out] at hr4
        obtain ⟨bq, Aq, mq, cq, rfl, hq4⟩ := hq4.op
        obtain ⟨br, Ar, mr, cr, rfl, hr4⟩ := hr4.op
        have k4 := hb4.trans ((below2 w4 (.cells #[.bool bq, .slice Aq mq cq] 24) (.cells #[.bool br, .slice Ar mr cr] 24)).mono hb4.size)
        obtain ⟨Lq, Lr, kk, _⟩ := locs2 (Below.refl _ ((w4.alloc (.cells #[.bool bq, .slice Aq mq cq] 24)).alloc (.cells #[.bool br, .slice Ar mr cr] 24)))
        have hq5 := (hq4.weak (Y := fun _ => False) (fun _ _ h => h.elim)).below kk
        have hr5 := (hr4.weak (Y := fun _ => False) (fun _ _ h => h.elim)).below kk
        have Lx5 := Lx3.below k4
        have Ly5 := Ly3.below k4
        have hB5 := hB3.trans (k4.mono hB3.size)
        have hx5 := h1.below hB5
        have hy5 := h2.below hB5
        have cx5 := Lx5.cell
        have cy5 := Ly5.cell
        clear cx3 cy3 Lx3 Ly3 hx3 hy3 hB3 k4 hb4 hq4 hr4 kk
        go_wp2_with fail
        refine (rdivide_any _ (fun _ => False) _ _ n1 n2 xs ys hx5 hy5 hz (by omega) (by omega)).mono ?_
        rintro e w6 ⟨va, vb, rfl, ha6, hb6', hb6⟩
        rw [HZ.out] at ha6 hb6'
        rw [HRR.out] at hb6'
        obtain ⟨ba, Aa, ma, ca, rfl, ha6⟩ := ha6.op
        obtain ⟨bb, Ab, mb, cb, rfl, hb6'⟩ := hb6'.op
        have k6 := hb6.trans ((below2 w6 (.cells #[.bool ba, .slice Aa ma ca] 24) (.cells #[.bool bb, .slice Ab mb cb] 24)).mono hb6.size)
        obtain ⟨La, Lb, kk, _⟩ := locs2 (Below.refl _ ((w6.alloc (.cells #[.bool ba, .slice Aa ma ca] 24)).alloc (.cells #[.bool bb, .slice Ab mb cb] 24)))
        have ha7 := (ha6.weak (Y := fun _ => False) (fun _ _ h => h.elim)).below kk
        have hb7' := (hb6'.weak (Y := fun _ => False) (fun _ _ h => h.elim)).below kk
        have Lq7 := Lq.below k6
        have Lr7 := Lr.below k6
        have Lx7 := Lx5.below k6
        have Ly7 := Ly5.below k6
        have hq7 := hq5.below k6
        have hr7 := hr5.below k6
        have hB7 := hB5.trans (k6.mono hB5.size)
        have cq7 := Lq7.cell
        have ca7 := La.cell
        clear cx5 cy5 Lq Lr Ly5 Lx5 hx5 hy5 hB5 k6 hb6 ha6 hb6' hq5 hr5 kk
        generalize hgq : w4.heap.size = gq at *
        go_wp2_with fail
        refine (same_VV _ (fun _ => False) (fun _ => False) _ _ Z Z hq7 ha7 rfl).mono ?_
        rintro e w8 ⟨rfl, hb8⟩
        have cr8 := (Lr7.below hb8).cell
        have cb8 := (Lb.below hb8).cell
        clear cq7 ca7
        go_wp2_with fail
        refine (same_VV _ (fun _ => False) (fun _ => False) _ _ R R (hr7.below hb8) (hb7'.below hb8) rfl).mono ?_
        rintro e w9 ⟨rfl, hb9⟩
        have k9 := hb8.trans (hb9.mono hb8.size)
        have cr9 := (Lr7.below k9).cell
        clear cr8 cb8
        obtain ⟨sr, hsr⟩ : ∃ s, R.sign = s := ⟨_, rfl⟩
        have HSR := Lib.hid hsr
        clear hsr
        go_wp2_with fail
        refine (sign_V _ _ _ _ (hr7.below k9)).mono ?_
        rintro e w10 ⟨he, hb10⟩
        rw [HSR.out] at he
        subst he
        have k10 := k9.trans (hb10.mono k9.size)
        have Lq9 := Lq7.below k10
        have Lr9 := Lr7.below k10
        have Lx9 := Lx7.below k10
        have Ly9 := Ly7.below k10
        have hq9 := hq7.below k10
        have hr9 := hr7.below k10
        have hB9 := hB7.trans (k10.mono hB7.size)
        have hx9 := h1.below hB9
        have hy9 := h2.below hB9
        clear Lq7 Lr7 Lx7 Ly7 hq7 hr7 hB7 La Lb ha7 hb7' k9 k10 hb8 hb9 hb10 cr9 h1 h2
        go_wp2_with fail
        generalize hgr : gq + 1 = gr at *
        have KS : Hid (∀ W, Below w10.heap.size w10 W → ((W.cell? ⟨w.heap.size, 0, none⟩ = some (.bool n1) ∧ W.cell? ⟨w.heap.size, 1, none⟩ = some (.slice A xs.length c)) ∧ (W.cell? ⟨w.heap.size + 1, 0, none⟩ = some (.bool n2) ∧ W.cell? ⟨w.heap.size + 1, 1, none⟩ = some (.slice B ys.length d))) ∧ (W.cell? ⟨gq, 0, none⟩ = some (.bool bq) ∧ W.cell? ⟨gq, 1, none⟩ = some (.slice Aq mq cq)) ∧ W.cell? ⟨gr, 0, none⟩ = some (.bool br) ∧ W.cell? ⟨gr, 1, none⟩ = some (.slice Ar mr cr)) := fun W hW => ⟨cells_of ⟨Lx9.below hW, Ly9.below hW⟩, cells_of ⟨Lq9.below hW, Lr9.below hW⟩⟩
        by_cases hs0 : sr = 0
        · subst hs0
          refine wp_region_noPanic ?_
          refine wp_region_held_drew (S := (fun W => ((W.cell? ⟨w.heap.size, 0, none⟩ = some (.bool n1) ∧ W.cell? ⟨w.heap.size, 1, none⟩ = some (.slice A xs.length c)) ∧ (W.cell? ⟨w.heap.size + 1, 0, none⟩ = some (.bool n2) ∧ W.cell? ⟨w.heap.size + 1, 1, none⟩ = some (.slice B ys.length d))) ∧ (W.cell? ⟨gq, 0, none⟩ = some (.bool bq) ∧ W.cell? ⟨gq, 1, none⟩ = some (.slice Aq mq cq)) ∧ W.cell? ⟨gr, 0, none⟩ = some (.bool br) ∧ W.cell? ⟨gr, 1, none⟩ = some (.slice Ar mr cr))) (by kernel_rfl) ?_ (fun hHeld => ?_)
          · exact KS.out _ (Below.refl _ _).drew
          refine wpAnyH_take (i := 0) (v := ?_) rfl (by kernel_rfl) (by kernel_rfl) (by kernel_rfl) (fun _ _ _ h => h) (Or.inl ⟨by kernel_rfl, ?_⟩) (by assumption) ?_
          rotate_left 1
          · (intro w hSw; (try dsimp only at hSw); first | (go_simp; done) | (go_simp; with_reducible rfl))
          (try simp only [Act.put, List.getElem_toArray, List.getElem_cons_succ, List.getElem_cons_zero, List.setIfInBounds_toArray, List.set_cons_zero, List.set_cons_succ])
          refine wpAnyH_take (i := 1) (v := ?_) rfl (by kernel_rfl) (by kernel_rfl) (by kernel_rfl) (fun _ _ _ h => h) (Or.inl ⟨by kernel_rfl, ?_⟩) (by assumption) ?_
          rotate_left 1
          · (intro w hSw; (try dsimp only at hSw); first | (go_simp; done) | (go_simp; with_reducible rfl))
          (try simp only [Act.put, List.getElem_toArray, List.getElem_cons_succ, List.getElem_cons_zero, List.setIfInBounds_toArray, List.set_cons_zero, List.set_cons_succ])
          refine wpAnyH_take (i := 3) (v := ?_) rfl (by kernel_rfl) (by kernel_rfl) (by kernel_rfl) (fun _ _ _ h => h) (Or.inl ⟨by kernel_rfl, ?_⟩) (by assumption) ?_
          rotate_left 1
          · (intro w hSw; (try dsimp only at hSw); first | (go_simp; done) | (go_simp; with_reducible rfl))
          (try simp only [Act.put, List.getElem_toArray, List.getElem_cons_succ, List.getElem_cons_zero, List.setIfInBounds_toArray, List.set_cons_zero, List.set_cons_succ])
          refine wpAnyH_take (i := 5) (v := ?_) rfl (by kernel_rfl) (by kernel_rfl) (by kernel_rfl) (fun _ _ _ h => h) (Or.inl ⟨by kernel_rfl, ?_⟩) (by assumption) ?_
          rotate_left 1
          · (intro w hSw; (try dsimp only at hSw); first | (go_simp; done) | (go_simp; with_reducible rfl))
          (try simp only [Act.put, List.getElem_toArray, List.getElem_cons_succ, List.getElem_cons_zero, List.setIfInBounds_toArray, List.set_cons_zero, List.set_cons_succ])
          refine wpAnyH_ready (rs := [2]) (by kernel_rfl) (by simp) ?_
          refine AllReadyH.cons rfl (fun K hK => ?_) AllReadyH.nil
          go_simp
          refine (mul_any _ (fun _ => False) _ _ _ _ _ _ (hq9.below (Below.refl _ _).drew) (hy9.below (Below.refl _ _).drew) (by have := HLZ.out; omega) (by omega)).mono ?_
          rintro e u1 ⟨v1, rfl, h1, hb1⟩
          rw [sv_dig] at h1
          have k1 := below_undrew hb1
          obtain ⟨b1, A1, m1, c1, rfl, h1⟩ := h1.op
          (try go_wp2_with fail)
          refine hK.out _ _ ?_ (fun hHeld => ?_)
          · (try dsimp only)
            exact KS.out _ k1
          clear hK K
          (try simp only [Act.put, List.getElem_toArray, List.getElem_cons_succ, List.getElem_cons_zero, List.setIfInBounds_toArray, List.set_cons_zero, List.set_cons_succ])
          refine wpAnyH_ready (rs := [4]) (by kernel_rfl) (by simp) ?_
          refine AllReadyH.cons rfl (fun K hK => ?_) AllReadyH.nil
          go_simp
          refine (add_any _ (fun _ => False) _ _ _ _ _ _ (h1.weak (fun _ _ h => h.elim)) (hr9.below k1) (by have := HLP.out; omega) (by have := HLR.out; omega)).mono ?_
          rintro e u2 ⟨v2, rfl, h2, hb2⟩
          rw [sv_dig, sv_dig, HR3.out] at h2
          have k2 := k1.trans (hb2.mono k1.size)
          obtain ⟨b2, A2, m2, c2, rfl, h2⟩ := h2.op
          (try go_wp2_with fail)
          refine hK.out _ _ ?_ (fun hHeld => ?_)
          · (try dsimp only)
            exact KS.out _ k2
          clear hK K
          (try simp only [Act.put, List.getElem_toArray, List.getElem_cons_succ, List.getElem_cons_zero, List.setIfInBounds_toArray, List.set_cons_zero, List.set_cons_succ])
          refine wpAnyH_ready (rs := [6]) (by kernel_rfl) (by simp) ?_
          refine AllReadyH.cons rfl (fun K hK => ?_) AllReadyH.nil
          go_simp
          refine (clean_any _ (fun _ => False) _ n1 xs (hx9.below k2) (by omega)).mono ?_
          rintro e u3 ⟨v3, rfl, h3, hb3⟩
          have k3 := k2.trans (hb3.mono k2.size)
          have h23 := h2.below hb3
          obtain ⟨b3, A3, m3, c3, rfl, h3⟩ := h3.op
          (try go_wp2_with fail)
          refine hK.out _ _ ?_ (fun hHeld => ?_)
          · (try dsimp only)
            exact KS.out _ k3
          clear hK K
          (try simp only [Act.put, List.getElem_toArray, List.getElem_cons_succ, List.getElem_cons_zero, List.setIfInBounds_toArray, List.set_cons_zero, List.set_cons_succ])
          refine wpAnyH_ready (rs := [7]) (by kernel_rfl) (by simp) ?_
          refine AllReadyH.cons rfl (fun K hK => ?_) AllReadyH.nil
          go_simp
          refine (same_VV _ (Old _) (Old _) _ _ _ _ h23 h3 rfl).mono ?_
          rintro e u4 ⟨rfl, hb4⟩
          have k4 := k3.trans (hb4.mono k3.size)
          (try go_wp2_with fail)
          refine hK.out _ _ ?_ (fun hHeld => ?_)
          · (try dsimp only)
            exact KS.out _ k4
          clear hK K
          (try simp only [Act.put, List.getElem_toArray, List.getElem_cons_succ, List.getElem_cons_zero, List.setIfInBounds_toArray, List.set_cons_zero, List.set_cons_succ])
          refine wpAnyH_take (i := 8) (v := ?_) rfl (by kernel_rfl) (by kernel_rfl) (by kernel_rfl) (fun _ _ _ h => h) (Or.inl ⟨by kernel_rfl, ?_⟩) (by assumption) ?_
          rotate_left 1
          · (intro w hSw; (try dsimp only at hSw); first | (go_simp; done) | (go_simp; with_reducible rfl))
          (try simp only [Act.put, List.getElem_toArray, List.getElem_cons_succ, List.getElem_cons_zero, List.setIfInBounds_toArray, List.set_cons_zero, List.set_cons_succ])
          refine wpAnyH_take (i := 9) (v := ?_) rfl (by kernel_rfl) (by kernel_rfl) (by kernel_rfl) (fun _ _ _ h => h) (Or.inl ⟨by kernel_rfl, ?_⟩) (by assumption) ?_
          rotate_left 1
          · (intro w hSw; (try dsimp only at hSw); first | (go_simp; done) | (go_simp; with_reducible rfl))
          (try simp only [Act.put, List.getElem_toArray, List.getElem_cons_succ, List.getElem_cons_zero, List.setIfInBounds_toArray, List.set_cons_zero, List.set_cons_succ])
          refine wpAnyH_take (i := 10) (v := ?_) rfl (by kernel_rfl) (by kernel_rfl) (by kernel_rfl) (fun _ _ _ h => h) (Or.inl ⟨by kernel_rfl, ?_⟩) (by assumption) ?_
          rotate_left 1
          · (intro w hSw; (try dsimp only at hSw); first | (go_simp; done) | (go_simp; with_reducible rfl))
          (try simp only [Act.put, List.getElem_toArray, List.getElem_cons_succ, List.getElem_cons_zero, List.setIfInBounds_toArray, List.set_cons_zero, List.set_cons_succ])
          refine wpAnyH_take (i := 11) (v := ?_) rfl (by kernel_rfl) (by kernel_rfl) (by kernel_rfl) (fun _ _ _ h => h) (Or.inl ⟨by kernel_rfl, ?_⟩) (by assumption) ?_
          rotate_left 1
          · (intro w hSw; (try dsimp only at hSw); first | (go_simp; done) | (go_simp; with_reducible rfl))
          (try simp only [Act.put, List.getElem_toArray, List.getElem_cons_succ, List.getElem_cons_zero, List.setIfInBounds_toArray, List.set_cons_zero, List.set_cons_succ])
          refine wpAnyH_take (i := 12) (v := undef) rfl (by kernel_rfl) (by kernel_rfl) (by kernel_rfl) (fun _ _ _ h => h) (Or.inr ⟨by kernel_rfl, rfl⟩) (by assumption) ?_
          (try simp only [Act.put, List.getElem_toArray, List.getElem_cons_succ, List.getElem_cons_zero, List.setIfInBounds_toArray, List.set_cons_zero, List.set_cons_succ])
          refine wpAnyH_take (i := 13) (v := undef) rfl (by kernel_rfl) (by kernel_rfl) (by kernel_rfl) (fun _ _ _ h => h) (Or.inr ⟨by kernel_rfl, rfl⟩) (by assumption) ?_
          (try simp only [Act.put, List.getElem_toArray, List.getElem_cons_succ, List.getElem_cons_zero, List.setIfInBounds_toArray, List.set_cons_zero, List.set_cons_succ])
          refine wpAnyH_take (i := 14) (v := undef) rfl (by kernel_rfl) (by kernel_rfl) (by kernel_rfl) (fun _ _ _ h => h) (Or.inr ⟨by kernel_rfl, rfl⟩) (by assumption) ?_
          (try simp only [Act.put, List.getElem_toArray, List.getElem_cons_succ, List.getElem_cons_zero, List.setIfInBounds_toArray, List.set_cons_zero, List.set_cons_succ])
          refine wpAnyH_take (i := 15) (v := undef) rfl (by kernel_rfl) (by kernel_rfl) (by kernel_rfl) (fun _ _ _ h => h) (Or.inr ⟨by kernel_rfl, rfl⟩) (by assumption) ?_
          (try simp only [Act.put, List.getElem_toArray, List.getElem_cons_succ, List.getElem_cons_zero, List.setIfInBounds_toArray, List.set_cons_zero, List.set_cons_succ])
          refine wpAnyH_take (i := 16) (v := ?_) rfl (by kernel_rfl) (by kernel_rfl) (by kernel_rfl) (fun _ _ _ h => h) (Or.inl ⟨by kernel_rfl, ?_⟩) (by assumption) ?_
          rotate_left 1
          · (intro w hSw; (try dsimp only at hSw); first | (go_simp; done) | (go_simp; with_reducible rfl))
          (try simp only [Act.put, List.getElem_toArray, List.getElem_cons_succ, List.getElem_cons_zero, List.setIfInBounds_toArray, List.set_cons_zero, List.set_cons_succ])
          refine wpAnyH_take (i := 17) (v := ?_) rfl (by kernel_rfl) (by kernel_rfl) (by kernel_rfl) (fun _ _ _ h => h) (Or.inl ⟨by kernel_rfl, ?_⟩) (by assumption) ?_
          rotate_left 1
          · (intro w hSw; (try dsimp only at hSw); first | (go_simp; done) | (go_simp; with_reducible rfl))
          (try simp only [Act.put, List.getElem_toArray, List.getElem_cons_succ, List.getElem_cons_zero, List.setIfInBounds_toArray, List.set_cons_zero, List.set_cons_succ])
          refine wpAnyH_take (i := 18) (v := ?_) rfl (by kernel_rfl) (by kernel_rfl) (by kernel_rfl) (fun _ _ _ h => h) (Or.inl ⟨by kernel_rfl, ?_⟩) (by assumption) ?_
          rotate_left 1
          · (intro w hSw; (try dsimp only at hSw); first | (go_simp; done) | (go_simp; with_reducible rfl))
          (try simp only [Act.put, List.getElem_toArray, List.getElem_cons_succ, List.getElem_cons_zero, List.setIfInBounds_toArray, List.set_cons_zero, List.set_cons_succ])
          refine wpAnyH_take (i := 19) (v := ?_) rfl (by kernel_rfl) (by kernel_rfl) (by kernel_rfl) (fun _ _ _ h => h) (Or.inl ⟨by kernel_rfl, ?_⟩) (by assumption) ?_
          rotate_left 1
          · (intro w hSw; (try dsimp only at hSw); first | (go_simp; done) | (go_simp; with_reducible rfl))
          (try simp only [Act.put, List.getElem_toArray, List.getElem_cons_succ, List.getElem_cons_zero, List.setIfInBounds_toArray, List.set_cons_zero, List.set_cons_succ])
          refine wpAnyH_take (i := 21) (v := ?_) rfl (by kernel_rfl) (by kernel_rfl) (by kernel_rfl) (fun _ _ _ h => h) (Or.inl ⟨by kernel_rfl, ?_⟩) (by assumption) ?_
          rotate_left 1
          · (intro w hSw; (try dsimp only at hSw); first | (go_simp; done) | (go_simp; with_reducible rfl))
          (try simp only [Act.put, List.getElem_toArray, List.getElem_cons_succ, List.getElem_cons_zero, List.setIfInBounds_toArray, List.set_cons_zero, List.set_cons_succ])
          refine wpAnyH_ready (rs := [20]) (by kernel_rfl) (by simp) ?_
          refine AllReadyH.cons rfl (fun K hK => ?_) AllReadyH.nil
          go_simp
          refine (abs_any _ (fun _ => False) _ _ _ (hr9.below k4) (by have := HLR.out; omega)).mono ?_
          rintro e u6 ⟨v6, rfl, h6, hb6⟩
          rw [sv_dig] at h6
          have k6 := k4.trans (hb6.mono k4.size)
          obtain ⟨b6, A6, m6, c6, rfl, h6⟩ := h6.op
          (try go_wp2_with fail)
          refine hK.out _ _ ?_ (fun hHeld => ?_)
          · (try dsimp only)
            exact KS.out _ k6
          clear hK K
          (try simp only [Act.put, List.getElem_toArray, List.getElem_cons_succ, List.getElem_cons_zero, List.setIfInBounds_toArray, List.set_cons_zero, List.set_cons_succ])
          refine wpAnyH_ready (rs := [22]) (by kernel_rfl) (by simp) ?_
          refine AllReadyH.cons rfl (fun K hK => ?_) AllReadyH.nil
          go_simp
          refine (abs_any _ (fun _ => False) _ n2 ys (hy9.below k6) (by omega)).mono ?_
          rintro e u7 ⟨v7, rfl, h7, hb7⟩
          have k7 := k6.trans (hb7.mono k6.size)
          have h67 := h6.below hb7
          obtain ⟨b7, A7, m7, c7, rfl, h7⟩ := h7.op
          (try go_wp2_with fail)
          refine hK.out _ _ ?_ (fun hHeld => ?_)
          · (try dsimp only)
            exact KS.out _ k7
          clear hK K
          (try simp only [Act.put, List.getElem_toArray, List.getElem_cons_succ, List.getElem_cons_zero, List.setIfInBounds_toArray, List.set_cons_zero, List.set_cons_succ])
          refine wpAnyH_ready (rs := [23]) (by kernel_rfl) (by simp) ?_
          refine AllReadyH.cons rfl (fun K hK => ?_) AllReadyH.nil
          go_simp
          refine (icompare_any _ (fun _ => False) _ _ _ _ _ _ (h67.weak (fun _ _ h => h.elim)) (h7.weak (fun _ _ h => h.elim))).mono ?_
          rintro e u8 ⟨he, hb8⟩
          rw [sv_dig, sv_dig, HCM.out] at he
          subst he
          have k8 := k7.trans (hb8.mono k7.size)
          (try go_wp2_with fail)
          refine hK.out _ _ ?_ (fun hHeld => ?_)
          · (try dsimp only)
            exact KS.out _ k8
          clear hK K
          (try simp only [Act.put, List.getElem_toArray, List.getElem_cons_succ, List.getElem_cons_zero, List.setIfInBounds_toArray, List.set_cons_zero, List.set_cons_succ])
          refine wpAnyH_take (i := 24) (v := ?_) rfl (by kernel_rfl) (by kernel_rfl) (by kernel_rfl) (fun _ _ _ h => h) (Or.inl ⟨by kernel_rfl, ?_⟩) (by assumption) ?_
          rotate_left 1
          · (intro w hSw; (try dsimp only at hSw); first | (go_simp; done) | (go_simp; with_reducible rfl))
          (try simp only [Act.put, List.getElem_toArray, List.getElem_cons_succ, List.getElem_cons_zero, List.setIfInBounds_toArray, List.set_cons_zero, List.set_cons_succ])
          refine wpAnyH_take (i := 25) (v := ?_) rfl (by kernel_rfl) (by kernel_rfl) (by kernel_rfl) (fun _ _ _ h => h) (Or.inl ⟨by kernel_rfl, ?_⟩) (by assumption) ?_
          rotate_left 1
          · (intro w hSw; (try dsimp only at hSw); first | (go_simp; done) | (go_simp; with_reducible rfl))
          (try simp only [Act.put, List.getElem_toArray, List.getElem_cons_succ, List.getElem_cons_zero, List.setIfInBounds_toArray, List.set_cons_zero, List.set_cons_succ])
          refine wpAnyH_take (i := 26) (v := ?_) rfl (by kernel_rfl) (by kernel_rfl) (by kernel_rfl) (fun _ _ _ h => h) (Or.inl ⟨by kernel_rfl, ?_⟩) (by assumption) ?_
          rotate_left 1
          · (intro w hSw; (try dsimp only at hSw); first | (go_simp; done) | (go_simp; with_reducible rfl))
          (try simp only [Act.put, List.getElem_toArray, List.getElem_cons_succ, List.getElem_cons_zero, List.setIfInBounds_toArray, List.set_cons_zero, List.set_cons_succ])
          refine wpAnyH_done (by kernel_rfl) ?_ _
          refine NoPanic.normal ?_
          have hBu := hB9.trans (k8.mono hB9.size)
          clear KS
          go_wp2_with fail
          go_ret
          refine ⟨?_, hBu⟩
          first | rfl | (simp; done)
        · have hss : sr = (sv n2 ys).sign := by
            rcases HR2.out with h | h
            · exact absurd (by rw [← HSR.out, h]; rfl) hs0
            · rw [← HSR.out]; exact h
          have HSS := Lib.hid hss
          have hsb : (sr == 0) = false := by rw [beq_eq_false_iff_ne]; exact hs0
          clear hss hs0
          go_region_held3 (fun W => ((W.cell? ⟨w.heap.size, 0, none⟩ = some (.bool n1) ∧ W.cell? ⟨w.heap.size, 1, none⟩ = some (.slice A xs.length c)) ∧ (W.cell? ⟨w.heap.size + 1, 0, none⟩ = some (.bool n2) ∧ W.cell? ⟨w.heap.size + 1, 1, none⟩ = some (.slice B ys.length d))) ∧ (W.cell? ⟨gq, 0, none⟩ = some (.bool bq) ∧ W.cell? ⟨gq, 1, none⟩ = some (.slice Aq mq cq)) ∧ W.cell? ⟨gr, 0, none⟩ = some (.bool br) ∧ W.cell? ⟨gr, 1, none⟩ = some (.slice Ar mr cr))
            (first | exact KS.out _ k8 | exact KS.out _ k7 | exact KS.out _ k6 | exact KS.out _ k4 | exact KS.out _ k3 | exact KS.out _ k2 | exact KS.out _ k1 | exact KS.out _ (Below.refl _ _).drew)
            (first
          | (go_at_call 35; refine (mul_any _ (fun _ => False) _ _ _ _ _ _ (hq9.below (Below.refl _ _).drew) (hy9.below (Below.refl _ _).drew) (by have := HLZ.out; omega) (by omega)).mono ?_; rintro e u1 ⟨v1, rfl, h1, hb1⟩; rw [sv_dig] at h1; have k1 := below_undrew hb1; obtain ⟨b1, A1, m1, c1, rfl, h1⟩ := h1.op)
          | (go_at_call 37; refine (add_any _ (fun _ => False) _ _ _ _ _ _ (h1.weak (fun _ _ h => h.elim)) (hr9.below k1) (by have := HLP.out; omega) (by have := HLR.out; omega)).mono ?_; rintro e u2 ⟨v2, rfl, h2, hb2⟩; rw [sv_dig, sv_dig, HR3.out] at h2; have k2 := k1.trans (hb2.mono k1.size); obtain ⟨b2, A2, m2, c2, rfl, h2⟩ := h2.op)
          | (go_at_call 20; refine (clean_any _ (fun _ => False) _ n1 xs (hx9.below k2) (by omega)).mono ?_; rintro e u3 ⟨v3, rfl, h3, hb3⟩; have k3 := k2.trans (hb3.mono k2.size); have h23 := h2.below hb3; obtain ⟨b3, A3, m3, c3, rfl, h3⟩ := h3.op)
          | (go_at_call 17; refine (same_VV _ (Old _) (Old _) _ _ _ _ h23 h3 rfl).mono ?_; rintro e u4 ⟨rfl, hb4⟩; have k4 := k3.trans (hb4.mono k3.size))
          | (go_at_call 23; refine (sign_any _ (fun _ => False) _ n2 ys (hy9.below k4)).mono ?_; rintro e u5 ⟨he, hb5⟩; rw [← HSS.out] at he; subst he; have k4' := k4; have k4 := k4.trans (hb5.mono k4.size))
          | (go_at_call_of 29 (Value.agg #[Value.bool br, Value.slice Ar mr cr]); refine (abs_any _ (fun _ => False) _ _ _ (hr9.below k4) (by have := HLR.out; omega)).mono ?_; rintro e u6 ⟨v6, rfl, h6, hb6⟩; rw [sv_dig] at h6; have k6 := k4.trans (hb6.mono k4.size); obtain ⟨b6, A6, m6, c6, rfl, h6⟩ := h6.op)
          | (go_at_call_of 29 (Value.agg #[Value.bool n2, Value.slice B ys.length d]); refine (abs_any _ (fun _ => False) _ n2 ys (hy9.below k6) (by omega)).mono ?_; rintro e u7 ⟨v7, rfl, h7, hb7⟩; have k7 := k6.trans (hb7.mono k6.size); have h67 := h6.below hb7; obtain ⟨b7, A7, m7, c7, rfl, h7⟩ := h7.op)
          | (go_at_call 41; refine (icompare_any _ (fun _ => False) _ _ _ _ _ _ (h67.weak (fun _ _ h => h.elim)) (h7.weak (fun _ _ h => h.elim))).mono ?_; rintro e u8 ⟨he, hb8⟩; rw [sv_dig, sv_dig, HCM.out] at he; subst he; have k8 := k7.trans (hb8.mono k7.size)))
          all_goals
            have hBu := hB9.trans (k8.mono hB9.size)
            clear KS
            try go_wp2_with fail
            go_ret
            exact ⟨rfl, hBu⟩
end Go.Proofs.Ytlbgnndjacagkaa
