/- IntegerGcds: the law's walk. -/
import Derived.Test.YtlbgnndjacagkaaRows
import Derived.Test.YtlbgnndjacagkaaKnown
import Derived.Test.YtlbgnndjacagkaaVers
import Derived.Test.YtlbgnndjacagkaaGcd
import Derived.Test.YtlbgnndjacagkaaDiv1
import Derived.Deep.RegionHeld3
import Derived.Deep.DrawnRows
namespace Go.Proofs.Ytlbgnndjacagkaa
open Go.RowKit
attribute [local go_sem ↓] Go.wp_at_zero Go.wp_at_succ
attribute [local go_sem] beq_self_eq_true

theorem qF_dvd (x : Int) (G : Nat) (hG : 0 < G) (h : x.natAbs % G = 0) : (qF x (G : Int)).natAbs = x.natAbs / G ∧ x - qF x (G : Int) * (G : Int) = 0 := by
  have hd := Nat.div_add_mod x.natAbs G
  rw [h, Nat.add_zero] at hd
  unfold qF
  rw [Int.natAbs_natCast, h, if_pos rfl, Int.sign_eq_one_of_pos (by omega : (0 : Int) < (G : Int)), Int.mul_one]
  generalize x.natAbs / G = k at *
  have hk : ((k : Nat) : Int) * (G : Int) = (x.natAbs : Int) := by rw [← hd]; push_cast; rw [Int.mul_comm]
  rcases sign_cases x with ⟨h1, h2⟩ | ⟨h1, h2⟩ | ⟨h1, h2⟩
  · rw [h2, if_pos (by decide)]
    refine ⟨by omega, ?_⟩
    rw [Int.neg_mul, hk]; omega
  · rw [h2, if_neg (by decide)]
    refine ⟨by omega, ?_⟩
    rw [hk]; omega
  · rw [h2, if_neg (by decide)]
    refine ⟨by omega, ?_⟩
    rw [hk]; omega

set_option maxHeartbeats 4000000 in
theorem gcds_walk (w : World) (v1 v2 : Value) (n1 n2 : Bool) (xs ys : List Nat) (h1 : IntR w (fun _ => False) v1 n1 xs) (h2 : IntR w (fun _ => False) v2 n2 ys) :
    Calls Try.prog 10 #[v1, v2] w fun e w' => e = .returned (.bool true) ∧ Below w.heap.size w w' := by
  obtain ⟨A, c, rfl, _, _, H1⟩ := h1.open_
  obtain ⟨B, d, rfl, _, _, H2⟩ := h2.open_
  have hy0 := h2
  have hwx : Ws xs := H1.2
  have hwy : Ws ys := H2.2
  go_enter Try.func10, Try.ntmps10
  go_wp2_with fail
  refine (known_any _).mono ?_
  rintro e w1 ⟨rfl, hb1⟩
  obtain ⟨Lx, Ly, hB1, hz1⟩ := locs2 hb1
  have cx := Lx.cell
  have cy := Ly.cell
  clear H1 H2
  have hx1 := h1.below hB1
  have hy1 := h2.below hB1
  by_cases hs1 : ¬ xs.length ≤ 10
  · go_wp2_with fail
    refine (lshort_any _ _ _ n1 xs hx1).mono ?_
    rintro e w2 ⟨rfl, hb2⟩
    go_wp2_with fail
    go_ret
    exact ⟨rfl, hB1.trans (hb2.mono hB1.size)⟩
  · have hs1 := Classical.not_not.1 hs1
    go_wp2_with fail
    refine (lshort_any _ _ _ n1 xs hx1).mono ?_
    rintro e w2 ⟨rfl, hb2⟩
    have Ly2 := Ly.below hb2
    have cy2 := Ly2.cell
    have hB2 := hB1.trans (hb2.mono hB1.size)
    clear cx cy
    by_cases hs2 : ¬ ys.length ≤ 10
    · go_wp2_with fail
      refine (lshort_any _ _ _ n2 ys (hy1.below hb2)).mono ?_
      rintro e w3 ⟨rfl, hb3⟩
      go_wp2_with fail
      go_ret
      exact ⟨rfl, hB2.trans (hb3.mono hB2.size)⟩
    · have hs2 := Classical.not_not.1 hs2
      go_wp2_with fail
      refine (lshort_any _ _ _ n2 ys (hy1.below hb2)).mono ?_
      rintro e w3 ⟨rfl, hb3⟩
      have k3 := hb2.trans (hb3.mono hb2.size)
      have hB3 := hB2.trans (hb3.mono hB2.size)
      have Lx3 := Lx.below k3
      have Ly3 := Ly.below k3
      have hx3 := h1.below hB3
      have hy3 := h2.below hB3
      have cx3 := Lx3.cell
      have cy3 := Ly3.cell
      obtain ⟨G, hG⟩ : ∃ G, Nat.gcd (val xs) (val ys) = G := ⟨_, rfl⟩
      have HG := Lib.hid hG
      have hGl : (dig ((G : Nat) : Int).natAbs).length ≤ 20 := by
        rw [Int.natAbs_natCast, ← hG]
        rcases Nat.eq_zero_or_pos (val xs) with h | h
        · rw [h, Nat.gcd_zero_left]; exact Nat.le_trans (dig_val_len hwy) (by omega)
        · exact Nat.le_trans (dig_len_mono (Nat.gcd_le_left _ h)) (Nat.le_trans (dig_val_len hwx) (by omega))
      have HGL := Lib.hid hGl
      clear hG hGl Lx Ly Ly2 cy2 hx1 hy1 hb1 hB1 hb2 hb3 hB2 k3
      go_wp2_with fail
      refine (gcd_any _ (fun _ => False) _ _ n1 n2 xs ys hx3 hy3 (by omega) (by omega)).mono ?_
      rintro e w4 ⟨vg, rfl, hg, hb4⟩
      rw [HG.out] at hg
      obtain ⟨bg, Ag, mg, cg, rfl, hg⟩ := hg.op
      have k5 := hb4.trans ((below1 w4 (.cells #[.bool bg, .slice Ag mg cg] 24)).mono hb4.size)
      have Lg := Loc.new w4 #[.bool bg, .slice Ag mg cg] 24
      have hg5 := (hg.weak (Y := fun _ => False) (fun _ _ h => h.elim)).below (below1 w4 (.cells #[.bool bg, .slice Ag mg cg] 24))
      have Lx5 := Lx3.below k5
      have Ly5 := Ly3.below k5
      have hB5 := hB3.trans (k5.mono hB3.size)
      clear Lx3 Ly3 hx3 hy3 hB3 k5 hb4 hg cx3 cy3
      have hx5 := h1.below hB5
      have hy5 := h2.below hB5
      go_wp2_with fail
      generalize hgg : w4.heap.size = g at *
      generalize w4.alloc (.cells #[.bool bg, .slice Ag mg cg] 24) = w5 at *
      have hsg : ((G : Nat) : Int).sign = if G = 0 then 0 else 1 := by
        split
        · rename_i h; rw [h]; rfl
        · exact Int.sign_eq_one_of_pos (by omega)
      have hs0 : 0 ≤ ((G : Nat) : Int).sign := by rw [hsg]; split <;> omega
      obtain ⟨sg, hsg2⟩ : ∃ sg, ((G : Nat) : Int).sign = sg := ⟨_, rfl⟩
      rw [hsg2] at hs0
      have hs0' : decide (sg < 0) = false := by rw [decide_eq_false_iff_not]; omega
      have HSG := Lib.hid hsg
      have HSG2 := Lib.hid hsg2
      clear hsg hsg2
      have KS : Hid (∀ W, Below w5.heap.size w5 W → ((W.cell? ⟨w.heap.size, 0, none⟩ = some (.bool n1) ∧ W.cell? ⟨w.heap.size, 1, none⟩ = some (.slice A xs.length c)) ∧ (W.cell? ⟨w.heap.size + 1, 0, none⟩ = some (.bool n2) ∧ W.cell? ⟨w.heap.size + 1, 1, none⟩ = some (.slice B ys.length d))) ∧ W.cell? ⟨g, 0, none⟩ = some (.bool bg) ∧ W.cell? ⟨g, 1, none⟩ = some (.slice Ag mg cg)) := fun W hW => ⟨cells_of ⟨Lx5.below hW, Ly5.below hW⟩, (Lg.below hW).cell 0, (Lg.below hW).cell 1⟩
      go_region_held3 (fun W => ((W.cell? ⟨w.heap.size, 0, none⟩ = some (.bool n1) ∧ W.cell? ⟨w.heap.size, 1, none⟩ = some (.slice A xs.length c)) ∧ (W.cell? ⟨w.heap.size + 1, 0, none⟩ = some (.bool n2) ∧ W.cell? ⟨w.heap.size + 1, 1, none⟩ = some (.slice B ys.length d))) ∧ W.cell? ⟨g, 0, none⟩ = some (.bool bg) ∧ W.cell? ⟨g, 1, none⟩ = some (.slice Ag mg cg))
        (first | exact KS.out _ k3 | exact KS.out _ k2 | exact KS.out _ k1 | exact KS.out _ (Below.refl _ _).drew)
        (first
          | (go_at_call 23; refine (sign_V _ _ _ _ (hg5.below (Below.refl _ _).drew)).mono ?_; rintro e u1 ⟨he, hb1⟩; rw [HSG2.out] at he; subst he; have k1 := below_undrew hb1)
          | (go_at_call 44; refine (rgcd_any _ (fun _ => False) _ _ n1 n2 xs ys (hx5.below k1) (hy5.below k1) (by omega) (by omega)).mono ?_; rintro e u2 ⟨v2, rfl, h2, hb2⟩; rw [HG.out] at h2; have k2 := k1.trans (hb2.mono k1.size); obtain ⟨b2, A2, m2, c2, rfl, h2⟩ := h2.op)
          | (go_at_call 17; refine (same_VV _ (fun _ => False) (Old _) _ _ _ _ (hg5.below k2) h2 rfl).mono ?_; rintro e u3 ⟨rfl, hb3⟩; have k3 := k2.trans (hb3.mono k2.size)))
      all_goals
        have hB6 := hB5.trans (k3.mono hB5.size)
        have Lx6 := Lx5.below k3
        have Ly6 := Ly5.below k3
        have Lg6 := Lg.below k3
        have hx6 := h1.below hB6
        have hy6 := hy0.below hB6
        have hg6 := hg5.below k3
        clear KS k1 k2 k3 hb1 hb2 hb3 h2 Lx5 Ly5 Lg hx5 hy5 hg5 hB5
        have cg6 := Lg6.cell
        go_wp2_with fail
        refine (sign_V _ _ _ _ hg6).mono ?_
        rintro e u4 ⟨he, hb4⟩
        rw [HSG2.out] at he
        subst he
        have Lx7 := Lx6.below hb4
        have Ly7 := Ly6.below hb4
        have Lg7 := Lg6.below hb4
        have hg7 := hg6.below hb4
        have hB7 := hB6.trans (hb4.mono hB6.size)
        have hx7 := h1.below hB7
        have hy7 := hy0.below hB7
        have cx7 := Lx7.cell
        have cy7 := Ly7.cell
        have cg7 := Lg7.cell
        clear cg6 Lx6 Ly6 Lg6 hg6 hB6 hx6 hy6 hb4
        by_cases hG0 : G = 0
        · have hsg0 : sg = 0 := by rw [← HSG2.out, HSG.out, if_pos hG0]
          subst hsg0
          have hgz := HG.out
          rw [hG0] at hgz
          have hx0 : sv n1 xs = 0 := by unfold sv; rw [Nat.eq_zero_of_gcd_eq_zero_left hgz]; split <;> rfl
          have hy0' : sv n2 ys = 0 := by unfold sv; rw [Nat.eq_zero_of_gcd_eq_zero_right hgz]; split <;> rfl
          have HX0 := Lib.hid hx0
          have HY0 := Lib.hid hy0'
          clear hgz hx0 hy0' hG0
          go_wp2_with fail
          refine (sign_any _ _ _ n1 xs hx7).mono ?_
          rintro e u5 ⟨he, hb5⟩
          rw [HX0.out, Int.sign_zero] at he
          subst he
          have cy8 := (Ly7.below hb5).cell
          have hB8 := hB7.trans (hb5.mono hB7.size)
          clear cx7 cy7 cg7
          go_wp2_with fail
          refine (sign_any _ _ _ n2 ys (hy0.below hB8)).mono ?_
          rintro e u6 ⟨he, hb6⟩
          rw [HY0.out, Int.sign_zero] at he
          subst he
          go_wp2_with fail
          go_ret
          exact ⟨rfl, hB8.trans (hb6.mono hB8.size)⟩
        · have hsg1 : sg = 1 := by rw [← HSG2.out, HSG.out, if_neg hG0]
          subst hsg1
          have hGp : 0 < G := by omega
          have hGv : val (dig ((G : Nat) : Int).natAbs) ≠ 0 := by rw [val_dig, Int.natAbs_natCast]; omega
          obtain ⟨a1, a2⟩ := qF_dvd (sv n1 xs) G hGp (by rw [sv_abs, ← HG.out]; exact Nat.mod_eq_zero_of_dvd (Nat.gcd_dvd_left _ _))
          obtain ⟨b1, b2⟩ := qF_dvd (sv n2 ys) G hGp (by rw [sv_abs, ← HG.out]; exact Nat.mod_eq_zero_of_dvd (Nat.gcd_dvd_right _ _))
          rw [sv_abs] at a1 b1
          have hco : Nat.gcd (val xs / G) (val ys / G) = 1 := by
            rw [Nat.gcd_div (by rw [← HG.out]; exact Nat.gcd_dvd_left _ _) (by rw [← HG.out]; exact Nat.gcd_dvd_right _ _), HG.out]
            exact Nat.div_self hGp
          obtain ⟨za, hza⟩ : ∃ z, qF (sv n1 xs) (G : Int) = z := ⟨_, rfl⟩
          obtain ⟨zb, hzb⟩ : ∃ z, qF (sv n2 ys) (G : Int) = z := ⟨_, rfl⟩
          rw [hza] at a1 a2
          rw [hzb] at b1 b2
          have hla : (dig za.natAbs).length ≤ 10 := by rw [a1]; exact Nat.le_trans (dig_len_mono (Nat.div_le_self _ _)) (Nat.le_trans (dig_val_len hwx) hs1)
          have hlb : (dig zb.natAbs).length ≤ 10 := by rw [b1]; exact Nat.le_trans (dig_len_mono (Nat.div_le_self _ _)) (Nat.le_trans (dig_val_len hwy) hs2)
          rw [← a1, ← b1] at hco
          have HZA := Lib.hid hza
          have HZB := Lib.hid hzb
          have HA2 := Lib.hid a2
          have HB2 := Lib.hid b2
          have HCO := Lib.hid hco
          have HLA := Lib.hid hla
          have HLB := Lib.hid hlb
          clear hza hzb a1 a2 b1 b2 hco hla hlb
          go_wp2_with fail
          refine (divide_any _ (fun _ => False) _ _ n1 _ xs _ hx7 hg7 hGv (by omega) (by have := HGL.out; omega)).mono ?_
          rintro e u5 ⟨q5, r5, rfl, hq5, hr5, hb5⟩
          rw [sv_dig, HZA.out] at hq5
          rw [sv_dig, HZA.out, HA2.out] at hr5
          obtain ⟨bq, Aq, mq, cq, rfl, hq5⟩ := hq5.op
          obtain ⟨br, Ar, mr, cr, rfl, hr5⟩ := hr5.op
          have k6 := hb5.trans ((below2 u5 (.cells #[.bool bq, .slice Aq mq cq] 24) (.cells #[.bool br, .slice Ar mr cr] 24)).mono hb5.size)
          obtain ⟨Lq, Lr, kk, _⟩ := locs2 (Below.refl _ ((u5.alloc (.cells #[.bool bq, .slice Aq mq cq] 24)).alloc (.cells #[.bool br, .slice Ar mr cr] 24)))
          have hq6 := (hq5.weak (Y := fun _ => False) (fun _ _ h => h.elim)).below kk
          have hr6 := (hr5.weak (Y := fun _ => False) (fun _ _ h => h.elim)).below kk
          have Ly8 := Ly7.below k6
          have Lg8 := Lg7.below k6
          have hg8 := hg7.below k6
          have hB8 := hB7.trans (k6.mono hB7.size)
          have hy8 := hy0.below hB8
          have cy8 := Ly8.cell
          have cg8 := Lg8.cell
          clear cx7 cy7 cg7 Lx7 Ly7 Lg7 hg7 hB7 hx7 hy7 hq5 hr5 hb5 k6 kk
          go_wp2_with fail
          refine (divide_any _ (fun _ => False) _ _ n2 _ ys _ hy8 hg8 hGv (by omega) (by have := HGL.out; omega)).mono ?_
          rintro e u6 ⟨q7, r7, rfl, hq7, hr7, hb7⟩
          rw [sv_dig, HZB.out] at hq7
          rw [sv_dig, HZB.out, HB2.out] at hr7
          obtain ⟨bs, As, ms, cs, rfl, hq7⟩ := hq7.op
          obtain ⟨bt, At, mt, ct, rfl, hr7⟩ := hr7.op
          have k8 := hb7.trans ((below2 u6 (.cells #[.bool bs, .slice As ms cs] 24) (.cells #[.bool bt, .slice At mt ct] 24)).mono hb7.size)
          obtain ⟨Ls, Lt, kk, _⟩ := locs2 (Below.refl _ ((u6.alloc (.cells #[.bool bs, .slice As ms cs] 24)).alloc (.cells #[.bool bt, .slice At mt ct] 24)))
          have hq8 := (hq7.weak (Y := fun _ => False) (fun _ _ h => h.elim)).below kk
          have hr8 := (hr7.weak (Y := fun _ => False) (fun _ _ h => h.elim)).below kk
          have Lq8 := Lq.below k8
          have Lr8 := Lr.below k8
          have hq6' := hq6.below k8
          have hr6' := hr6.below k8
          have hB9 := hB8.trans (k8.mono hB8.size)
          have cq9 := Lq8.cell
          have cr9 := Lr8.cell
          have cs9 := Ls.cell
          have ct9 := Lt.cell
          clear cy8 cg8 Lq Lr Ly8 Lg8 hg8 hB8 hy8 hq7 hr7 hb7 k8 kk hq6 hr6
          go_wp2_with fail
          refine (sign_V _ _ _ _ hr6').mono ?_
          rintro e u7 ⟨rfl, hb7⟩
          have ct10 := (Lt.below hb7).cell
          clear cq9 cr9 cs9 ct9
          go_wp2_with fail
          refine (sign_V _ _ _ _ (hr8.below hb7)).mono ?_
          rintro e u8 ⟨rfl, hb8⟩
          have k8 := hb7.trans (hb8.mono hb7.size)
          have cq10 := (Lq8.below k8).cell
          have cs10 := (Ls.below k8).cell
          clear ct10
          go_wp2_with fail
          refine (gcd_any _ (fun _ => False) _ _ _ _ _ _ (hq6'.below k8) (hq8.below k8) (by have := HLA.out; omega) (by have := HLB.out; omega)).mono ?_
          rintro e u9 ⟨v9, rfl, h9, hb9⟩
          rw [val_dig, val_dig, HCO.out] at h9
          obtain ⟨b9, A9, m9, c9, rfl, h9⟩ := h9.op
          have k9 := k8.trans (hb9.mono k8.size)
          clear cq10 cs10
          go_wp2_with fail
          refine (of_any _ 1 (by decide) (by decide)).mono ?_
          rintro e u10 ⟨v10, rfl, h10, hb10⟩
          obtain ⟨b10, A10, m10, c10, rfl, h10⟩ := h10.op
          have k10 := k9.trans (hb10.mono k9.size)
          go_wp2_with fail
          refine (same_VV _ (Old _) (Old _) _ _ _ _ (h9.below hb10) h10 rfl).mono ?_
          rintro e u11 ⟨rfl, hb11⟩
          have k11 := k10.trans (hb11.mono k10.size)
          go_wp2_with fail
          go_ret
          exact ⟨rfl, hB9.trans (k11.mono hB9.size)⟩
end Go.Proofs.Ytlbgnndjacagkaa
