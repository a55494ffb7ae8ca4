/- Clean, Neg, Abs, Sign, Valid, Mul of package integer. -/
import Derived.Test.YtlbgnndjacagkaaRows
import Derived.Test.YtlbgnndjacagkaaInt4
import Derived.Deep.RegionHeld3
import Derived.Deep.DrawnRows
namespace Go.Proofs.Ytlbgnndjacagkaa
open Go.RowKit
attribute [local go_sem ↓] Go.wp_at_zero Go.wp_at_succ

set_option maxHeartbeats 400000 in
theorem clean_any (w : World) (X : Nat → Prop) (v : Value) (neg : Bool) (xs : List Nat) (h : IntR w X v neg xs) (hsz : xs.length ≤ 10000000000000) :
    Calls Try.prog 20 #[v] w fun e w' => ∃ v', e = .returned v' ∧ IntV w' (Old w) v' (sv neg xs) ∧ Below w.heap.size w w' := by
  obtain ⟨A, c, rfl, _, _, H⟩ := h.open_
  go_enter Try.func20, Try.ntmps20
  go_wp2_with fail
  refine (signed_any _ X _ _ xs (H.below (below2 _ _ _)) hsz).mono ?_
  rintro e w2 ⟨v2, rfl, h2, hb2⟩
  obtain ⟨A2, c2, rfl, hc2, _, H2⟩ := h2.open_
  obtain ⟨La, Lr, hB, hsz2⟩ := locs2 hb2
  have cc := Lr.cell
  have cf := Lr.frz
  go_wp2_with fail
  refine bodyPost_ret (by simp [results, Try.results20, go_sem, cc, cf] <;> rfl) rfl ⟨_, rfl, IntV.stored h2 (by simp [Old]) _ _ (by intro b _; simp [Old]; omega), below_set2 hB (by omega) _ _⟩

set_option maxHeartbeats 1000000 in
theorem mul_any (w : World) (X : Nat → Prop) (v1 v2 : Value) (n1 n2 : Bool) (xs ys : List Nat) (h1 : IntR w X v1 n1 xs) (h2 : IntR w X v2 n2 ys) (hs1 : xs.length ≤ 1099511627776) (hs2 : ys.length ≤ 1099511627776) :
    Calls Try.prog 35 #[v1, v2] w fun e w' => ∃ v', e = .returned v' ∧ IntV w' (Old w) v' (sv n1 xs * sv n2 ys) ∧ Below w.heap.size w w' := by
  obtain ⟨A, c, rfl, _, _, H1⟩ := h1.open_
  obtain ⟨B, d, rfl, _, _, H2⟩ := h2.open_
  go_enter Try.func35, Try.ntmps35
  go_wp2_with fail
  have KS := boxes3 w #[.bool n1, .slice A xs.length c] #[.bool n2, .slice B ys.length d] #[.bool false, .slice none 0 0] 24 24 24
  go_region_held3 (fun w' => w'.cell? ⟨w.heap.size, 0, none⟩ = some (.bool n1) ∧ w'.cell? ⟨w.heap.size, 1, none⟩ = some (.slice A xs.length c) ∧ w'.cell? ⟨w.heap.size + 1, 0, none⟩ = some (.bool n2) ∧ w'.cell? ⟨w.heap.size + 1, 1, none⟩ = some (.slice B ys.length d))
    (first | (refine (fun K => ⟨K.1.cell 0, K.1.cell 1, K.2.cell 0, K.2.cell 1⟩) (KS.out _ ?_); first | exact hbs.mono (by simp) | exact hbt.mono (by simp) | exact ((hbs.mono (by simp)).setCell (by simp) _).setCell (by simp) _) | go_keep)
    (first
      | (go_at_call_of 48 (Value.slice A xs.length c); refine (trim_any _ X (.slice A xs.length c) xs (by exact H1.below (below3 _ _ _ _).drew)).mono ?_; rintro e w' ⟨va, rfl, ha, rfl⟩)
      | (go_at_call_of 48 (Value.slice B ys.length d); refine (trim_any _ X (.slice B ys.length d) ys (by exact H2.below (below3 _ _ _ _).drew)).mono ?_; rintro e w' ⟨vb, rfl, hb, rfl⟩)
      | (go_at_call 55; refine (times_any _ X va vb (trimL xs) (trimL ys) ha hb (by have := trimL_len xs; omega) (by have := trimL_len ys; omega)).mono ?_; rintro e w2 ⟨vt, zs, rfl, ht, hv, hl, hb2⟩; have HV := Lib.hid hv; have HL := Lib.hid hl; clear hv hl; have hbt := below_undrew hb2; have hst := (locs3 hbt).2.2.2.2)
      | (go_at_call 47; refine (signed_any _ _ _ vt zs ht (by have := HL.out; have := trimL_len xs; have := trimL_len ys; omega)).mono ?_; rintro e w3 ⟨vs, rfl, hs, hb3⟩; have hbs := hbt.trans (hb3.mono hbt.size); rw [sv_mul n1 n2 (trimL xs) (trimL ys) zs HV.out, sv_trim, sv_trim] at hs; obtain ⟨As, cs, rfl, _, _, Hs⟩ := hs.open_; obtain ⟨La, Lb, Lr, hB, hsz⟩ := locs3 hbs; have cc := Lr.cell; have cf := Lr.frz))
  all_goals
    go_wp2_with fail
    refine bodyPost_ret (by simp [results, Try.results35, go_sem, cc, cf] <;> rfl) rfl ⟨_, rfl, IntV.stored hs (by simp [Old]; omega) _ _ (by intro b _; simp [Old]; omega), below_set2 hB (by omega) _ _⟩
end Go.Proofs.Ytlbgnndjacagkaa
