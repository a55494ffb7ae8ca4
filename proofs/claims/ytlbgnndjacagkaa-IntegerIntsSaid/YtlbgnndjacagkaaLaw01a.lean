/- IntegerInts: the law's walk. -/
import Derived.Test.YtlbgnndjacagkaaRows
import Derived.Test.YtlbgnndjacagkaaKnown
import Derived.Test.YtlbgnndjacagkaaVers
import Derived.Deep.RegionHeld3
import Derived.Deep.DrawnRows
namespace Go.Proofs.Ytlbgnndjacagkaa
open Go.RowKit
attribute [local go_sem ↓] Go.wp_at_zero Go.wp_at_succ

set_option maxHeartbeats 1000000 in
theorem ints_walk (w : World) (n : Int) (v : Value) (neg : Bool) (xs : List Nat) (h : IntR w (fun _ => False) v neg xs) (h0 : -9223372036854775808 ≤ n) (h1 : n ≤ 9223372036854775807) :
    Calls Try.prog 3 #[.int .i64 n, v] w fun e w' => e = .returned (.bool true) ∧ Below w.heap.size w w' := by
  obtain ⟨A, c, rfl, _, _, H⟩ := h.open_
  go_enter Try.func3, Try.ntmps3
  go_wp2_with fail
  refine (known_any _).mono ?_
  rintro e w1 ⟨rfl, hb1⟩
  obtain ⟨Lx, hB1, hz1⟩ := locs1 hb1
  have cx := Lx.cell
  have hx1 := h.below hB1
  go_wp2_with fail
  refine (lshort_any _ _ _ neg xs hx1).mono ?_
  rintro e w2 ⟨rfl, hb2⟩
  have Lx2 := Lx.below hb2
  have cx2 := Lx2.cell
  have hx2 := hx1.below hb2
  have hB2 := hB1.trans (hb2.mono hB1.size)
  clear cx Lx hb1 hx1 hB1
  by_cases hs : xs.length ≤ 10
  · go_wp2_with fail
    refine (of_any _ n h0 h1).mono ?_
    rintro e w3 ⟨v3, rfl, h3, hb3⟩
    obtain ⟨b3, A3, n3, c3, rfl, h3⟩ := h3.op
    have Lx3 := Lx2.below hb3
    have hx3 := hx2.below hb3
    have hB3 := hB2.trans (hb3.mono hB2.size)
    clear hb2 hb3 cx2 Lx2 hx2 hB2
    go_wp2_with fail
    refine (small_V _ _ _ _ (h3.below (below1 _ _)) h0 h1).mono ?_
    rintro e w4 ⟨rfl, hb4⟩
    obtain ⟨Ly, hb4', hz4⟩ := locs1 hb4
    have Lx4 := Lx3.below hb4'
    have hx4 := hx3.below hb4'
    have hy4 := h3.below hb4'
    have hB4 := hB3.trans (hb4'.mono hB3.size)
    have hg := Ly.lt
    have cy := Ly.cell
    clear hb4 Lx3 hx3 h3 hB3 hb4'
    go_wp2_with fail
    have KS : Hid (∀ W, Below w4.heap.size w4 W → W.cell? ⟨w3.heap.size, 0, none⟩ = some (.bool b3) ∧ W.cell? ⟨w3.heap.size, 1, none⟩ = some (.slice A3 n3 c3)) := fun W hW => ⟨(Ly.below hW).cell 0, (Ly.below hW).cell 1⟩
    go_region_held3 (fun w' => w'.cell? ⟨w3.heap.size, 0, none⟩ = some (.bool b3) ∧ w'.cell? ⟨w3.heap.size, 1, none⟩ = some (.slice A3 n3 c3))
      (first | exact KS.out _ hb7 | exact KS.out _ hb6 | exact KS.out _ hb5 | go_keep)
      (first
        | (go_at_call 16; refine (valid_V _ _ _ _ (hy4.below (Below.refl _ _).drew)).mono ?_; rintro e w5 ⟨rfl, hb5'⟩; have hb5 := below_undrew hb5')
        | (go_at_call 18; refine (rof_any _ n h0 h1).mono ?_; rintro e w6 ⟨v6, rfl, h6, hb6'⟩; have hb6 := hb5.trans (hb6'.mono hb5.size); obtain ⟨b6, A6, n6, c6, rfl, h6⟩ := h6.op)
        | (go_at_call 17; refine (same_VV _ _ _ _ _ n n (hy4.below hb6) h6 rfl).mono ?_; rintro e w7 ⟨rfl, hb7'⟩; have hb7 := hb6.trans (hb7'.mono hb6.size)))
    all_goals
      have Lx7 := Lx4.below hb7
      have hx7 := hx4.below hb7
      have hB7 := hB4.trans (hb7.mono hB4.size)
      have cx7 := Lx7.cell
      go_wp2_with fail
      refine (small_any _ _ _ _ _ hx7).mono ?_
      rintro e w8 ⟨rfl, hb8⟩
      have Lx8 := Lx7.below hb8
      have hx8 := hx7.below hb8
      have hB8 := hB7.trans (hb8.mono hB7.size)
      have cx8 := Lx8.cell
      clear cx7
      go_wp2_with fail
      refine (rsmall_any _ _ _ _ _ hx8 (by omega)).mono ?_
      rintro e w9 ⟨rfl, hb9⟩
      have hB9 := hB8.trans (hb9.mono hB8.size)
      generalize smallI (sv neg xs) = a1
      generalize fits (sv neg xs) = a2
      go_wp2_with fail
      go_ret
      exact ⟨rfl, hB9⟩
  · go_wp2_with fail
    go_ret
    exact ⟨rfl, hB2⟩
end Go.Proofs.Ytlbgnndjacagkaa
