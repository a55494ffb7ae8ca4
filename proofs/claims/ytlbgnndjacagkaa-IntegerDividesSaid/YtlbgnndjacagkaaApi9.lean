/- Mul of the reference. -/
import Derived.Test.YtlbgnndjacagkaaRows
import Derived.Test.YtlbgnndjacagkaaApi8
import Derived.Test.YtlbgnndjacagkaaRef3
import Derived.Deep.RegionHeld3
import Derived.Deep.DrawnRows
namespace Go.Proofs.Ytlbgnndjacagkaa
open Go.RowKit
attribute [local go_sem ↓] Go.wp_at_zero Go.wp_at_succ

set_option maxHeartbeats 1000000 in
theorem rmul_any (w : World) (X : Nat → Prop) (v1 v2 : Value) (n1 n2 : Bool) (xs ys : List Nat) (h1 : IntR w X v1 n1 xs) (h2 : IntR w X v2 n2 ys) (hs1 : xs.length ≤ 40000000000) (hs2 : ys.length ≤ 40000000000) :
    Calls Try.prog 36 #[v1, v2] w fun e w' => ∃ v', e = .returned v' ∧ IntV w' (Old w) v' (sv n1 xs * sv n2 ys) ∧ Below w.heap.size w w' := by
  obtain ⟨A, c, rfl, _, _, H1⟩ := h1.open_
  obtain ⟨B, d, rfl, _, _, H2⟩ := h2.open_
  have l1 := trimL_len xs
  have l2 := trimL_len ys
  have hlm := len_mul (can_trimL H1.2).1 (can_trimL H2.2).1
  have HLM := Lib.hid hlm
  clear hlm
  go_enter Try.func36, Try.ntmps36
  go_wp2_with fail
  have KS := boxes3 w #[.bool n1, .slice A xs.length c] #[.bool n2, .slice B ys.length d] #[.bool false, .slice none 0 0] 24 24 24
  have K1 := (H1.weak (Y := fun _ => False) (fun _ _ h => h.elim)).below (below3 w (.cells #[.bool n1, .slice A xs.length c] 24) (.cells #[.bool n2, .slice B ys.length d] 24) (.cells #[.bool false, .slice none 0 0] 24))
  have K2 := (H2.weak (Y := fun _ => False) (fun _ _ h => h.elim)).below (below3 w (.cells #[.bool n1, .slice A xs.length c] 24) (.cells #[.bool n2, .slice B ys.length d] 24) (.cells #[.bool false, .slice none 0 0] 24))
  obtain ⟨-, -, Lr, hB0, hsz0⟩ := locs3 (c1 := #[.bool n1, .slice A xs.length c]) (c2 := #[.bool n2, .slice B ys.length d]) (c3 := #[.bool false, .slice none 0 0]) (t1 := 24) (t2 := 24) (t3 := 24) (Below.refl _ (((w.alloc _).alloc _).alloc _))
  generalize (((w.alloc (.cells #[.bool n1, .slice A xs.length c] 24)).alloc (.cells #[.bool n2, .slice B ys.length d] 24)).alloc (.cells #[.bool false, .slice none 0 0] 24)) = w1 at *
  clear H1 H2 h1 h2
  go_region_held3 (fun w' => (w'.cell? ⟨w.heap.size, 0, none⟩ = some (.bool n1) ∧ w'.cell? ⟨w.heap.size, 1, none⟩ = some (.slice A xs.length c)) ∧ w'.cell? ⟨w.heap.size + 1, 0, none⟩ = some (.bool n2) ∧ w'.cell? ⟨w.heap.size + 1, 1, none⟩ = some (.slice B ys.length d))
    (first | exact cells_of (KS.out _ (((k4.mono (by omega)).setCell (by simp) _).setCell (by simp) _)) | exact cells_of (KS.out _ (k4.mono (by omega))) | exact cells_of (KS.out _ (k3.mono (by omega))) | exact cells_of (KS.out _ (k2.mono (by omega))) | exact cells_of (KS.out _ (k1.mono (by omega))) | exact cells_of (KS.out _ (Below.refl _ _).drew) | go_keep)
    (first
      | (go_at_call_of 51 (Value.slice A xs.length c); refine (rtrim_any _ (fun _ => False) (.slice A xs.length c) xs (K1.below (Below.refl _ _).drew) (by omega)).mono ?_; rintro e wa ⟨va, rfl, ha, hka⟩; have k1 := below_undrew hka)
      | (go_at_call_of 51 (Value.slice B ys.length d); refine (rtrim_any _ (fun _ => False) (.slice B ys.length d) ys (K2.below k1) (by omega)).mono ?_; rintro e wb ⟨vb, rfl, hb, hkb⟩; have k2 := k1.trans (hkb.mono k1.size); have ha2 := ha.below hkb)
      | (go_at_call 62; refine (mulWords_any _ (fun _ => False) va vb _ _ (ha2.weak (fun _ _ h => h.elim)) (hb.weak (fun _ _ h => h.elim)) (by omega)).mono ?_; rintro e wc ⟨vm, rfl, hm, hkc⟩; have k3 := k2.trans (hkc.mono k2.size))
      | (go_at_call 50; refine (made_any _ (fun _ => False) _ vm _ (hm.weak (fun _ _ h => h.elim)) (by have := HLM.out; omega)).mono ?_; rintro e w3 ⟨vs, rfl, hs, hb3⟩; have k4 := k3.trans (hb3.mono k3.size); have hk3 := k3.size; rw [sv_mul n1 n2 (trimL xs) (trimL ys) _ (val_dig _), sv_trim, sv_trim] at hs; obtain ⟨bs, As, ns, cs, rfl, hs⟩ := hs.op; have Lr2 := Lr.below k4; have cc := Lr2.cell; have cf := Lr2.frz))
  all_goals
    clear KS Lr
    go_wp2_with fail
    refine bodyPost_ret (by simp [results, Try.results36, go_sem, cc, cf] <;> rfl) rfl ⟨_, rfl, IntV.stored (g := w.heap.size + 1 + 1) (Y := Old w) hs (by simp only [Old]; omega) _ _ (by intro b _ hb; simp only [Old] at hb ⊢; omega), below_set2 (hB0.trans (k4.mono (by omega))) (by omega) _ _⟩
end Go.Proofs.Ytlbgnndjacagkaa
