/- IntegerCanonical: the law's walk. -/
import Derived.Test.YtlbgnndjacagkaaRows
import Derived.Test.YtlbgnndjacagkaaKnown
import Derived.Test.YtlbgnndjacagkaaVers
import Derived.Test.YtlbgnndjacagkaaApi5
import Derived.Deep.RegionHeld3
import Derived.Deep.DrawnRows
namespace Go.Proofs.Ytlbgnndjacagkaa
open Go.RowKit
attribute [local go_sem ↓] Go.wp_at_zero Go.wp_at_succ
attribute [local go_sem] beq_self_eq_true

set_option maxHeartbeats 2000000 in
theorem canonical_walk (w : World) (v : Value) (neg : Bool) (xs : List Nat) (h : IntR w (fun _ => False) v neg xs) :
    Calls Try.prog 4 #[v] w fun e w' => e = .returned (.bool true) ∧ Below w.heap.size w w' := by
  obtain ⟨A, c, rfl, _, _, H⟩ := h.open_
  go_enter Try.func4, Try.ntmps4
  go_wp2_with fail
  refine (known_any _).mono ?_
  rintro e w1 ⟨rfl, hb1⟩
  obtain ⟨Lx, hB1, hz1⟩ := locs1 hb1
  have cx := Lx.cell
  have hx1 := h.below hB1
  go_wp2_with fail
  refine (lshort_any _ _ _ neg xs hx1).mono ?_
  rintro e w2 ⟨rfl, hb2⟩
  have Lx2 := Lx.below hb2
  have cx2 := Lx2.cell
  have hx2 := hx1.below hb2
  have hB2 := hB1.trans (hb2.mono hB1.size)
  clear cx Lx hb1 hx1 hB1
  by_cases hs : xs.length ≤ 10
  · go_wp2_with fail
    refine (clean_any _ _ _ neg xs hx2 (by omega)).mono ?_
    rintro e w3 ⟨v3, rfl, h3, hb3⟩
    obtain ⟨b3, A3, n3, c3, rfl, h3⟩ := h3.op
    have Lx3 := Lx2.below hb3
    have hx3 := hx2.below hb3
    have hB3 := hB2.trans (hb3.mono hB2.size)
    have hlx := Lx3.lt
    have cx3 := Lx3.cell
    clear hb2 hb3 cx2 Lx2 hx2 hB2
    generalize hvr : validR neg xs = vr
    generalize hsg : (sv neg xs).sign = sg
    generalize hbw : bitsW (dig (val xs)) = bw
    go_wp2_with fail
    have Lc := Loc.new w3 #[.bool b3, .slice A3 n3 c3] 24
    have hb4 := below1 w3 (.cells #[.bool b3, .slice A3 n3 c3] 24)
    have Lx4 := Lx3.below hb4
    have hx4 := hx3.below hb4
    have hc4 := h3.below hb4
    have hB4 := hB3.trans (hb4.mono hB3.size)
    clear hb4 cx3 Lx3 hx3 h3 hB3
    have KS : Hid (∀ W, Below (w3.alloc (.cells #[.bool b3, .slice A3 n3 c3] 24)).heap.size (w3.alloc (.cells #[.bool b3, .slice A3 n3 c3] 24)) W → W.cell? ⟨w3.heap.size, 0, none⟩ = some (.bool b3) ∧ W.cell? ⟨w3.heap.size, 1, none⟩ = some (.slice A3 n3 c3) ∧ W.cell? ⟨w.heap.size, 0, none⟩ = some (.bool neg) ∧ W.cell? ⟨w.heap.size, 1, none⟩ = some (.slice A xs.length c)) := fun W hW => ⟨(Lc.below hW).cell 0, (Lc.below hW).cell 1, (Lx4.below hW).cell 0, (Lx4.below hW).cell 1⟩
    go_region_held3 (fun w' => w'.cell? ⟨w3.heap.size, 0, none⟩ = some (.bool b3) ∧ w'.cell? ⟨w3.heap.size, 1, none⟩ = some (.slice A3 n3 c3) ∧ w'.cell? ⟨w.heap.size, 0, none⟩ = some (.bool neg) ∧ w'.cell? ⟨w.heap.size, 1, none⟩ = some (.slice A xs.length c))
      (first | exact KS.out _ k15 | exact KS.out _ k14 | exact KS.out _ k13 | exact KS.out _ k12 | exact KS.out _ k11 | exact KS.out _ k10 | exact KS.out _ k9 | exact KS.out _ k8 | exact KS.out _ k7 | exact KS.out _ k6 | exact KS.out _ k5 | exact KS.out _ k4 | exact KS.out _ k3 | exact KS.out _ k2 | exact KS.out _ k1 | exact KS.out _ (Below.refl _ _).drew | go_keep)
      (first
        | (go_at_call 21; refine (rclean_any _ _ _ neg xs (hx4.below (Below.refl _ _).drew) (by omega)).mono ?_; rintro e w5 ⟨v5, rfl, h5, k1'⟩; have k1 := below_undrew k1'; obtain ⟨b5, A5, n5, c5, rfl, h5⟩ := h5.op)
        | (go_at_call_of 17 (Value.agg #[Value.bool b3, Value.slice A3 n3 c3]); refine (same_VV _ _ _ _ _ _ _ (hc4.below k1) h5 rfl).mono ?_; rintro e w6 ⟨rfl, k2'⟩; have k2 := k1.trans (k2'.mono k1.size))
        | (go_at_call_of 16 (Value.agg #[Value.bool neg, Value.slice A xs.length c]); refine (valid_any _ _ _ neg xs (hx4.below k2)).mono ?_; rintro e w7 ⟨he, k3'⟩; rw [hvr] at he; subst he; have k3 := k2.trans (k3'.mono k2.size))
        | (go_at_call 22; refine (rvalid_any _ _ _ neg xs (hx4.below k3)).mono ?_; rintro e w8 ⟨he, k4'⟩; rw [hvr] at he; subst he; have k4 := k3.trans (k4'.mono k3.size))
        | (go_at_call_of 16 (Value.agg #[Value.bool b3, Value.slice A3 n3 c3]); refine (valid_V _ _ _ _ (hc4.below k4)).mono ?_; rintro e w9 ⟨rfl, k5'⟩; have k5 := k4.trans (k5'.mono k4.size))
        | (go_at_call 23; refine (sign_any _ _ _ neg xs (hx4.below k5)).mono ?_; rintro e w10 ⟨he, k6'⟩; rw [hsg] at he; subst he; have k6 := k5.trans (k6'.mono k5.size))
        | (go_at_call 24; refine (rsign_any _ _ _ neg xs (hx4.below k6) (by omega)).mono ?_; rintro e w11 ⟨he, k7'⟩; rw [hsg] at he; subst he; have k7 := k6.trans (k7'.mono k6.size))
        | (go_at_call 25; refine (bits_any _ _ _ neg xs (hx4.below k7) (by omega)).mono ?_; rintro e w12 ⟨he, k8'⟩; rw [hbw] at he; subst he; have k8 := k7.trans (k8'.mono k7.size))
        | (go_at_call 26; refine (rbits_any _ _ _ neg xs (hx4.below k8) (by omega)).mono ?_; rintro e w13 ⟨he, k9'⟩; rw [hbw] at he; subst he; have k9 := k8.trans (k9'.mono k8.size))
        | (go_at_call 27; refine (neg_any _ _ _ neg xs (hx4.below k9) (by omega)).mono ?_; rintro e w14 ⟨v14, rfl, h14, k10'⟩; have k10 := k9.trans (k10'.mono k9.size); obtain ⟨b14, A14, n14, c14, rfl, h14⟩ := h14.op)
        | (go_at_call 28; refine (rneg_any _ _ _ neg xs (hx4.below k10) (by omega)).mono ?_; rintro e w15 ⟨v15, rfl, h15, k11'⟩; have k11 := k10.trans (k11'.mono k10.size); have h14' := h14.below k11'; obtain ⟨b15, A15, n15, c15, rfl, h15⟩ := h15.op)
        | (go_at_call_of 17 (Value.agg #[Value.bool b14, Value.slice A14 n14 c14]); refine (same_VV _ _ _ _ _ _ _ h14' h15 rfl).mono ?_; rintro e w16 ⟨rfl, k12'⟩; have k12 := k11.trans (k12'.mono k11.size))
        | (go_at_call 29; refine (abs_any _ _ _ neg xs (hx4.below k12) (by omega)).mono ?_; rintro e w17 ⟨v17, rfl, h17, k13'⟩; have k13 := k12.trans (k13'.mono k12.size); obtain ⟨b17, A17, n17, c17, rfl, h17⟩ := h17.op)
        | (go_at_call 30; refine (rabs_any _ _ _ neg xs (hx4.below k13) (by omega)).mono ?_; rintro e w18 ⟨v18, rfl, h18, k14'⟩; have k14 := k13.trans (k14'.mono k13.size); have h17' := h17.below k14'; obtain ⟨b18, A18, n18, c18, rfl, h18⟩ := h18.op)
        | (go_at_call_of 17 (Value.agg #[Value.bool b17, Value.slice A17 n17 c17]); refine (same_VV _ _ _ _ _ _ _ h17' h18 rfl).mono ?_; rintro e w19 ⟨rfl, k15'⟩; have k15 := k14.trans (k15'.mono k14.size)))
    all_goals
      have hB9 := hB4.trans (k15.mono hB4.size)
      clear hc4 hx4 Lx4 Lc KS
      try go_wp2_with fail
      go_ret
      exact ⟨rfl, hB9⟩
  · go_wp2_with fail
    go_ret
    exact ⟨rfl, hB2⟩
end Go.Proofs.Ytlbgnndjacagkaa
