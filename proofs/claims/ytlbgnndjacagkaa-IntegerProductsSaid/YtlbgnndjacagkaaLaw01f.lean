/- IntegerProducts: the law's walk. -/
import Derived.Test.YtlbgnndjacagkaaRows
import Derived.Test.YtlbgnndjacagkaaKnown
import Derived.Test.YtlbgnndjacagkaaVers
import Derived.Test.YtlbgnndjacagkaaApi9
import Derived.Deep.RegionHeld3
import Derived.Deep.DrawnRows
namespace Go.Proofs.Ytlbgnndjacagkaa
open Go.RowKit
attribute [local go_sem ↓] Go.wp_at_zero Go.wp_at_succ
attribute [local go_sem] beq_self_eq_true

theorem mul_len (a b : Int) (k l : Nat) (ha : (dig a.natAbs).length ≤ k) (hb : (dig b.natAbs).length ≤ l) : (dig (a * b).natAbs).length ≤ k + l := by
  have h := len_mul (can_dig a.natAbs).1 (can_dig b.natAbs).1
  rw [val_dig, val_dig] at h
  rw [Int.natAbs_mul]
  omega

set_option maxHeartbeats 4000000 in
theorem products_walk (w : World) (v1 v2 v3 : Value) (n1 n2 n3 : Bool) (xs ys zs : List Nat) (h1 : IntR w (fun _ => False) v1 n1 xs) (h2 : IntR w (fun _ => False) v2 n2 ys) (h3 : IntR w (fun _ => False) v3 n3 zs) :
    Calls Try.prog 7 #[v1, v2, v3] w fun e w' => e = .returned (.bool true) ∧ Below w.heap.size w w' := by
  obtain ⟨A, c, rfl, _, _, H1⟩ := h1.open_
  obtain ⟨B, d, rfl, _, _, H2⟩ := h2.open_
  obtain ⟨C, f, rfl, _, _, H3⟩ := h3.open_
  have q1 := sv_len n1 xs H1.2
  have q2 := sv_len n2 ys H2.2
  have q3 := sv_len n3 zs H3.2
  have hp := mul_len (sv n1 xs) (sv n2 ys) xs.length ys.length q1 q2
  have hxz := mul_len (sv n1 xs) (sv n3 zs) xs.length zs.length q1 q3
  have hyz := add_len (sv n2 ys) (sv n3 zs) (ys.length + zs.length) (by omega) (by omega)
  have HP := Lib.hid hp
  have HXZ := Lib.hid hxz
  have HYZ := Lib.hid hyz
  clear hp hxz hyz
  have Q1 := Lib.hid q1
  have Q2 := Lib.hid q2
  have Q3 := Lib.hid q3
  clear q1 q2 q3
  go_enter Try.func7, Try.ntmps7
  go_wp2_with fail
  refine (known_any _).mono ?_
  rintro e w1 ⟨rfl, hb1⟩
  obtain ⟨Lx, Ly, Lz, hB1, hz1⟩ := locs3 hb1
  have cx := Lx.cell
  have cy := Ly.cell
  have cz := Lz.cell
  clear H1 H2 H3
  have hx1 := h1.below hB1
  have hy1 := h2.below hB1
  have hz1 := h3.below hB1
  by_cases hs1 : ¬ xs.length ≤ 10
  · go_wp2_with fail
    refine (lshort_any _ _ _ n1 xs hx1).mono ?_
    rintro e w2 ⟨rfl, hb2⟩
    go_wp2_with fail
    go_ret
    exact ⟨rfl, hB1.trans (hb2.mono hB1.size)⟩
  · have hs1 := Classical.not_not.1 hs1
    go_wp2_with fail
    refine (lshort_any _ _ _ n1 xs hx1).mono ?_
    rintro e w2 ⟨rfl, hb2⟩
    have Ly2 := Ly.below hb2
    have cy2 := Ly2.cell
    have hB2 := hB1.trans (hb2.mono hB1.size)
    clear cx cy cz
    by_cases hs2 : ¬ ys.length ≤ 10
    · go_wp2_with fail
      refine (lshort_any _ _ _ n2 ys (hy1.below hb2)).mono ?_
      rintro e w3 ⟨rfl, hb3⟩
      go_wp2_with fail
      go_ret
      exact ⟨rfl, hB2.trans (hb3.mono hB2.size)⟩
    · have hs2 := Classical.not_not.1 hs2
      go_wp2_with fail
      refine (lshort_any _ _ _ n2 ys (hy1.below hb2)).mono ?_
      rintro e w3 ⟨rfl, hb3⟩
      have k3 := hb2.trans (hb3.mono hb2.size)
      have hB3 := hB2.trans (hb3.mono hB2.size)
      have cz3 := (Lz.below k3).cell
      clear cy2
      by_cases hs3 : ¬ zs.length ≤ 10
      · go_wp2_with fail
        refine (lshort_any _ _ _ n3 zs (hz1.below k3)).mono ?_
        rintro e w4 ⟨rfl, hb4⟩
        go_wp2_with fail
        go_ret
        exact ⟨rfl, hB3.trans (hb4.mono hB3.size)⟩
      · have hs3 := Classical.not_not.1 hs3
        go_wp2_with fail
        refine (lshort_any _ _ _ n3 zs (hz1.below k3)).mono ?_
        rintro e w4 ⟨rfl, hb4⟩
        have k4 := k3.trans (hb4.mono k3.size)
        have hB4 := hB3.trans (hb4.mono hB3.size)
        clear cz3
        have Lx4 := Lx.below k4
        have Ly4 := Ly.below k4
        have Lz4 := Lz.below k4
        have hx4 := hx1.below k4
        have hy4 := hy1.below k4
        have hz4 := hz1.below k4
        clear hb1 hB1 hB2 hB3 hb2 hb3 hb4 k3 k4 Lx Ly Lz Ly2 hx1 hy1 hz1 h1 h2 h3
        have cx4 := Lx4.cell
        have cy4 := Ly4.cell
        go_wp2_with fail
        refine (mul_any _ (fun _ => False) _ _ n1 n2 xs ys hx4 hy4 (by omega) (by omega)).mono ?_
        rintro e w5 ⟨vp, rfl, hp, hb5⟩
        obtain ⟨bp, Ap, mp, cp, rfl, hp⟩ := hp.op
        clear cx4 cy4
        have k5 := hb5.trans ((below1 w5 (.cells #[.bool bp, .slice Ap mp cp] 24)).mono hb5.size)
        have Lp := Loc.new w5 #[.bool bp, .slice Ap mp cp] 24
        have hp5 := (hp.weak (Y := fun _ => False) (fun _ _ h => h.elim)).below (below1 w5 (.cells #[.bool bp, .slice Ap mp cp] 24))
        have Lx5 := Lx4.below k5
        have Ly5 := Ly4.below k5
        have Lz5 := Lz4.below k5
        have hx5 := hx4.below k5
        have hy5 := hy4.below k5
        have hz5 := hz4.below k5
        have hB5 := hB4.trans (k5.mono hB4.size)
        clear Lx4 Ly4 Lz4 hx4 hy4 hz4 hB4 k5 hb5 hp
        go_wp2_with fail
        generalize w5.alloc (.cells #[.bool bp, .slice Ap mp cp] 24) = w6 at *
        have KS : Hid (∀ W, Below w6.heap.size w6 W → ((W.cell? ⟨w.heap.size, 0, none⟩ = some (.bool n1) ∧ W.cell? ⟨w.heap.size, 1, none⟩ = some (.slice A xs.length c)) ∧ (W.cell? ⟨w.heap.size + 1, 0, none⟩ = some (.bool n2) ∧ W.cell? ⟨w.heap.size + 1, 1, none⟩ = some (.slice B ys.length d))) ∧ (W.cell? ⟨w.heap.size + 1 + 1, 0, none⟩ = some (.bool n3) ∧ W.cell? ⟨w.heap.size + 1 + 1, 1, none⟩ = some (.slice C zs.length f)) ∧ W.cell? ⟨w5.heap.size, 0, none⟩ = some (.bool bp) ∧ W.cell? ⟨w5.heap.size, 1, none⟩ = some (.slice Ap mp cp)) := fun W hW => ⟨cells_of ⟨Lx5.below hW, Ly5.below hW⟩, cells_of ⟨Lz5.below hW, Lp.below hW⟩⟩
        go_region_held3 (fun W => ((W.cell? ⟨w.heap.size, 0, none⟩ = some (.bool n1) ∧ W.cell? ⟨w.heap.size, 1, none⟩ = some (.slice A xs.length c)) ∧ (W.cell? ⟨w.heap.size + 1, 0, none⟩ = some (.bool n2) ∧ W.cell? ⟨w.heap.size + 1, 1, none⟩ = some (.slice B ys.length d))) ∧ (W.cell? ⟨w.heap.size + 1 + 1, 0, none⟩ = some (.bool n3) ∧ W.cell? ⟨w.heap.size + 1 + 1, 1, none⟩ = some (.slice C zs.length f)) ∧ W.cell? ⟨w5.heap.size, 0, none⟩ = some (.bool bp) ∧ W.cell? ⟨w5.heap.size, 1, none⟩ = some (.slice Ap mp cp))
          (first | exact KS.out _ k9 | exact KS.out _ k8 | exact KS.out _ k7 | exact KS.out _ k6 | exact KS.out _ k5 | exact KS.out _ k4 | exact KS.out _ k3 | exact KS.out _ k2 | exact KS.out _ k1 | exact KS.out _ (Below.refl _ _).drew)
          (first
            | (go_at_call 36; refine (rmul_any _ (fun _ => False) _ _ n1 n2 xs ys (hx5.below (Below.refl _ _).drew) (hy5.below (Below.refl _ _).drew) (by omega) (by omega)).mono ?_; rintro e u1 ⟨v1, rfl, h1, hb1⟩; have k1 := below_undrew hb1; obtain ⟨b1, A1, m1, c1, rfl, h1⟩ := h1.op)
            | (go_at_call_of 17 (Value.agg #[Value.bool bp, Value.slice Ap mp cp]); refine (same_VV _ (fun _ => False) (Old _) _ _ _ _ (hp5.below k1) h1 rfl).mono ?_; rintro e u2 ⟨rfl, hb2⟩; have k2 := k1.trans (hb2.mono k1.size))
            | (go_at_call_of 35 (Value.agg #[Value.bool n2, Value.slice B ys.length d]); refine (mul_any _ (fun _ => False) _ _ n2 n1 ys xs (hy5.below k2) (hx5.below k2) (by omega) (by omega)).mono ?_; rintro e u3 ⟨v3, rfl, h3, hb3⟩; have k3 := k2.trans (hb3.mono k2.size); obtain ⟨b3, A3, m3, c3, rfl, h3⟩ := h3.op)
            | (go_at_call_of 17 (Value.agg #[Value.bool b3, Value.slice A3 m3 c3]); refine (same_VV _ (Old _) (fun _ => False) _ _ _ _ h3 (hp5.below k3) (Int.mul_comm _ _)).mono ?_; rintro e u4 ⟨rfl, hb4⟩; have k4 := k3.trans (hb4.mono k3.size))
            | (go_at_call_of 37 (Value.agg #[Value.bool n2, Value.slice B ys.length d]); refine (add_any _ (fun _ => False) _ _ n2 n3 ys zs (hy5.below k4) (hz5.below k4) (by omega) (by omega)).mono ?_; rintro e u5 ⟨v5, rfl, h5, hb5⟩; have k5 := k4.trans (hb5.mono k4.size); obtain ⟨b5, A5, m5, c5, rfl, h5⟩ := h5.op)
            | (go_at_call_of 35 (Value.agg #[Value.bool b5, Value.slice A5 m5 c5]); refine (mul_any _ (fun _ => False) _ _ _ _ _ _ (hx5.below k5) (h5.weak (fun _ _ h => h.elim)) (by omega) (by have := HYZ.out; omega)).mono ?_; rintro e u6 ⟨v6, rfl, h6, hb6⟩; rw [sv_dig] at h6; have k6 := k5.trans (hb6.mono k5.size); obtain ⟨b6, A6, m6, c6, rfl, h6⟩ := h6.op)
            | (go_at_call_of 35 (Value.agg #[Value.bool n3, Value.slice C zs.length f]); refine (mul_any _ (fun _ => False) _ _ n1 n3 xs zs (hx5.below k6) (hz5.below k6) (by omega) (by omega)).mono ?_; rintro e u7 ⟨v7, rfl, h7, hb7⟩; have k7 := k6.trans (hb7.mono k6.size); have h67 := h6.below hb7; obtain ⟨b7, A7, m7, c7, rfl, h7⟩ := h7.op)
            | (go_at_call_of 37 (Value.agg #[Value.bool bp, Value.slice Ap mp cp]); refine (add_any _ (fun _ => False) _ _ _ _ _ _ (hp5.below k7) (h7.weak (fun _ _ h => h.elim)) (by have := HP.out; omega) (by have := HXZ.out; omega)).mono ?_; rintro e u8 ⟨v8, rfl, h8, hb8⟩; rw [sv_dig, sv_dig] at h8; have k8 := k7.trans (hb8.mono k7.size); have h68 := h67.below hb8; obtain ⟨b8, A8, m8, c8, rfl, h8⟩ := h8.op)
            | (go_at_call_of 17 (Value.agg #[Value.bool b6, Value.slice A6 m6 c6]); refine (same_VV _ (Old _) (Old _) _ _ _ _ h68 h8 (Int.mul_add _ _ _)).mono ?_; rintro e u9 ⟨rfl, hb9⟩; have k9 := k8.trans (hb9.mono k8.size)))
        all_goals
          have hBu := hB5.trans (k9.mono hB5.size)
          clear KS
          try go_wp2_with fail
          go_ret
          exact ⟨rfl, hBu⟩
end Go.Proofs.Ytlbgnndjacagkaa
