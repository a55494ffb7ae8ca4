/- IntegerTexts: the law's walk. -/
import Derived.Test.YtlbgnndjacagkaaRows
import Derived.Test.YtlbgnndjacagkaaKnown
import Derived.Test.YtlbgnndjacagkaaVers
import Derived.Test.YtlbgnndjacagkaaApi8
import Derived.Test.YtlbgnndjacagkaaParse3
import Derived.Test.YtlbgnndjacagkaaParse5
import Derived.Test.YtlbgnndjacagkaaText2
import Derived.Deep.RegionHeld3
import Derived.Deep.DrawnRows
namespace Go.Proofs.Ytlbgnndjacagkaa
open Go.RowKit
attribute [local go_sem ↓] Go.wp_at_zero Go.wp_at_succ
attribute [local go_sem] beq_self_eq_true

set_option maxHeartbeats 4000000 in
theorem texts_walk (w : World) (v1 : Value) (n1 : Bool) (xs : List Nat) (h1 : IntR w (fun _ => False) v1 n1 xs) :
    Calls Try.prog 6 #[v1] w fun e w' => e = .returned (.bool true) ∧ Below w.heap.size w w' := by
  obtain ⟨A, c, rfl, _, _, H1⟩ := h1.open_
  have hdl : xs.length ≤ 10 → (decR (sv n1 xs).natAbs).length ≤ 600 := fun h => by
    rw [sv_abs]; exact Nat.le_trans (decR_val_len H1.2) (by omega)
  have hpt := fun h => parsed_text (sv n1 xs) (hdl h)
  have HPT := Lib.hid hpt
  clear hpt hdl
  generalize hT : textB (sv n1 xs) = T at *
  have HT := Lib.hid hT
  clear hT
  generalize hpc : parseC T = pc at *
  generalize hpz : parseZ T = pz at *
  have HPC := Lib.hid hpc
  have HPZ := Lib.hid hpz
  clear hpc hpz
  go_enter Try.func6, Try.ntmps6
  go_wp2_with fail
  refine (known_any _).mono ?_
  rintro e w1 ⟨rfl, hb1⟩
  obtain ⟨Lx, hB1, hz1⟩ := locs1 hb1
  have cx := Lx.cell
  clear H1
  have hx1 := h1.below hB1
  by_cases hs1 : ¬ xs.length ≤ 10
  · go_wp2_with fail
    refine (lshort_any _ _ _ n1 xs hx1).mono ?_
    rintro e w2 ⟨rfl, hb2⟩
    go_wp2_with fail
    go_ret
    exact ⟨rfl, hB1.trans (hb2.mono hB1.size)⟩
  · have hs1 := Classical.not_not.1 hs1
    go_wp2_with fail
    refine (lshort_any _ _ _ n1 xs hx1).mono ?_
    rintro e w2 ⟨rfl, hb2⟩
    have Lx2 := Lx.below hb2
    have hx2 := hx1.below hb2
    have hB2 := hB1.trans (hb2.mono hB1.size)
    have cx2 := Lx2.cell
    clear cx Lx hx1 hB1 hb1 hb2
    obtain ⟨hc0, hz0⟩ := HPT.out hs1
    subst hc0
    have HZ0 := Lib.hid hz0
    clear hz0
    go_wp2_with fail
    refine (text_any _ _ _ n1 xs hx2 (by omega)).mono ?_
    rintro e w3 ⟨he, hb3⟩
    rw [HT.out] at he
    subst he
    have Lx3 := Lx2.below hb3
    have hx3 := hx2.below hb3
    have hB3 := hB2.trans (hb3.mono hB2.size)
    clear cx2 Lx2 hx2 hB2 hb3
    go_wp2_with fail
    refine (parse_any _ T).mono ?_
    rintro e w4 ⟨v4, he, h4, hb4⟩
    rw [HPC.out] at he
    rw [HPZ.out, HZ0.out] at h4
    subst he
    obtain ⟨b4, A4, m4, c4, rfl, h4⟩ := h4.op
    have Lx4 := Lx3.below hb4
    have hx4 := hx3.below hb4
    have hB4 := hB3.trans (hb4.mono hB3.size)
    clear Lx3 hx3 hB3 hb4
    have k5 := below1 w4 (.cells #[.bool b4, .slice A4 m4 c4] 24)
    have Ly := Loc.new w4 #[.bool b4, .slice A4 m4 c4] 24
    have Lx5 := Lx4.below k5
    have hx5 := hx4.below k5
    have h5 := (h4.weak (Y := fun _ => False) (fun _ _ h => h.elim)).below k5
    have hB5 := hB4.trans (k5.mono hB4.size)
    clear Lx4 hx4 hB4 k5 h4
    go_wp2_with fail
    generalize w4.alloc (.cells #[.bool b4, .slice A4 m4 c4] 24) = w5 at *
    have KS : Hid (∀ W, Below w5.heap.size w5 W → (W.cell? ⟨w.heap.size, 0, none⟩ = some (.bool n1) ∧ W.cell? ⟨w.heap.size, 1, none⟩ = some (.slice A xs.length c)) ∧ (W.cell? ⟨w4.heap.size, 0, none⟩ = some (.bool b4) ∧ W.cell? ⟨w4.heap.size, 1, none⟩ = some (.slice A4 m4 c4))) := fun W hW => cells_of ⟨Lx5.below hW, Ly.below hW⟩
    go_region_held3 (fun W => (W.cell? ⟨w.heap.size, 0, none⟩ = some (.bool n1) ∧ W.cell? ⟨w.heap.size, 1, none⟩ = some (.slice A xs.length c)) ∧ (W.cell? ⟨w4.heap.size, 0, none⟩ = some (.bool b4) ∧ W.cell? ⟨w4.heap.size, 1, none⟩ = some (.slice A4 m4 c4)))
      (first | exact KS.out _ k3 | exact KS.out _ k2 | exact KS.out _ k1 | exact KS.out _ (Below.refl _ _).drew)
      (first
        | (go_at_call 34; refine (rtext_any _ (fun _ => False) _ n1 xs (hx5.below (Below.refl _ _).drew) (by omega)).mono ?_; rintro e u1 ⟨he, hb1⟩; rw [HT.out] at he; subst he; have k1 := below_undrew hb1)
        | (go_at_call 20; refine (clean_any _ (fun _ => False) _ n1 xs (hx5.below k1) (by omega)).mono ?_; rintro e u2 ⟨v2, rfl, h2, hb2⟩; have k2 := k1.trans (hb2.mono k1.size); obtain ⟨b2, A2, m2, c2, rfl, h2⟩ := h2.op)
        | (go_at_call 17; refine (same_VV _ (fun _ => False) (Old _) _ _ _ _ (h5.below k2) h2 rfl).mono ?_; rintro e u3 ⟨rfl, hb3⟩; have k3 := k2.trans (hb3.mono k2.size)))
    all_goals
      have hBu := hB5.trans (k3.mono hB5.size)
      clear KS
      try go_wp2_with fail
      go_ret
      exact ⟨rfl, hBu⟩
end Go.Proofs.Ytlbgnndjacagkaa
