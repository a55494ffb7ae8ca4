/- Contracts of the functions that the statements reach, part 6. -/
import Derived.Test.YtooheapikhdllaaRows
import Derived.Deep.QuietTactic
import Derived.BigQuiet
import Derived.Test.YtooheapikhdllaaM5
set_option linter.unusedSimpArgs false
set_option linter.unusedVariables false

/- rational.Valid. -/
namespace Go.Proofs.Ytooheapikhdllaa
open Go.RowKit
attribute [local go_sem ↓] Go.wp_at_zero Go.wp_at_succ

/-- Has a fraction the canonical form of its value? -/
def canR (n1 : Bool) (xs : List Nat) (n2 : Bool) (ys : List Nat) : Bool :=
  sameR n1 xs (decide ((rv n1 xs n2 ys).num < 0)) (dig (rv n1 xs n2 ys).num.natAbs) && sameR n2 ys (decide (((rv n1 xs n2 ys).den : Int) < 0)) (dig ((rv n1 xs n2 ys).den : Int).natAbs)
theorem sameR_valid {n : Bool} {xs : List Nat} {z : Int} (h : sameR n xs (decide (z < 0)) (dig z.natAbs) = true) : validR n xs = true := by
  unfold sameR at h
  simp only [Bool.and_eq_true, beq_iff_eq] at h
  obtain ⟨rfl, rfl⟩ := h
  exact validR_V z

set_option maxHeartbeats 4000000 in
theorem valid_rat (w : World) (X : Nat → Prop) (v : Value) (n1 n2 : Bool) (xs ys : List Nat) (h : RatR w X v n1 xs n2 ys) (hs1 : xs.length ≤ 100000000) (hs2 : ys.length ≤ 100000000) :
    Calls Try.prog 48 #[v] w fun e w' => e = .returned (.bool (canR n1 xs n2 ys)) ∧ Below w.heap.size w w' := by
  have h0 := h
  obtain ⟨A, c, B, d, rfl, i1, i2⟩ := h
  obtain ⟨b1, hv1⟩ : ∃ b, validR n1 xs = b := ⟨_, rfl⟩
  obtain ⟨b2, hv2⟩ : ∃ b, validR n2 ys = b := ⟨_, rfl⟩
  have HV1 := Lib.hid hv1
  have HV2 := Lib.hid hv2
  obtain ⟨r, hr⟩ : ∃ r, canR n1 xs n2 ys = r := ⟨_, rfl⟩
  rw [hr]
  have HR := Lib.hid hr
  have HF : Hid (b1 = false ∨ b2 = false → r = false) := by
    intro hb
    rw [← hr]
    cases hc : canR n1 xs n2 ys with
    | false => rfl
    | true =>
      unfold canR at hc
      rw [Bool.and_eq_true] at hc
      rw [← hv1, ← hv2, sameR_valid hc.1, sameR_valid hc.2] at hb
      simp at hb
  clear hv1 hv2 hr
  have L1 := made1 w #[.bool n1, .slice A xs.length c, .bool n2, .slice B ys.length d] 27
  go_enter Try.func48, Try.ntmps48
  go_wp2_with fail
  cases b1
  · have hr := HF.out (.inl rfl)
    subst hr
    refine wp_region_noPanic ?_
    refine wp_region_held_drew (S := (fun W => (W.cell? ⟨w.heap.size, 0, none⟩ = some (.bool n1) ∧ W.cell? ⟨w.heap.size, 1, none⟩ = some (.slice A xs.length c)) ∧ W.cell? ⟨w.heap.size, 2, none⟩ = some (.bool n2) ∧ W.cell? ⟨w.heap.size, 3, none⟩ = some (.slice B ys.length d))) (by kernel_rfl) ?_ (fun hHeld => ?_)
    · exact ⟨⟨Loc.c 0 L1, Loc.c 1 L1⟩, Loc.c 2 L1, Loc.c 3 L1⟩
    refine wpAnyH_take (i := 0) (v := ?_) rfl (by kernel_rfl) (by kernel_rfl) (by kernel_rfl) (fun _ _ _ h => h) (Or.inl ⟨by kernel_rfl, ?_⟩) (by assumption) ?_
    rotate_left 1
    · (intro w hSw; (try dsimp only at hSw); first | (go_simp; done) | (go_simp; with_reducible rfl))
    (try simp only [Act.put, List.getElem_toArray, List.getElem_cons_succ, List.getElem_cons_zero, List.setIfInBounds_toArray, List.set_cons_zero, List.set_cons_succ])
    refine wpAnyH_take (i := 1) (v := ?_) rfl (by kernel_rfl) (by kernel_rfl) (by kernel_rfl) (fun _ _ _ h => h) (Or.inl ⟨by kernel_rfl, ?_⟩) (by assumption) ?_
    rotate_left 1
    · (intro w hSw; (try dsimp only at hSw); first | (go_simp; done) | (go_simp; with_reducible rfl))
    (try simp only [Act.put, List.getElem_toArray, List.getElem_cons_succ, List.getElem_cons_zero, List.setIfInBounds_toArray, List.set_cons_zero, List.set_cons_succ])
    refine wpAnyH_ready (rs := [2]) (by kernel_rfl) (by simp) ?_
    refine AllReadyH.cons rfl (fun K hK => ?_) AllReadyH.nil
    go_simp
    refine (valid_any _ (fun _ => False) _ n1 xs i1.to).mono ?_
    rintro e u1 ⟨he, hb1⟩
    rw [HV1.out] at he
    subst he
    (try go_wp2_with fail)
    refine hK.out _ _ ?_ (fun hHeld => ?_)
    · (try dsimp only)
      exact ⟨⟨Loc.c 0 L1, Loc.c 1 L1⟩, Loc.c 2 L1, Loc.c 3 L1⟩
    clear hK K
    (try simp only [Act.put, List.getElem_toArray, List.getElem_cons_succ, List.getElem_cons_zero, List.setIfInBounds_toArray, List.set_cons_zero, List.set_cons_succ])
    refine wpAnyH_take (i := 3) (v := ?_) rfl (by kernel_rfl) (by kernel_rfl) (by kernel_rfl) (fun _ _ _ h => h) (Or.inl ⟨by kernel_rfl, ?_⟩) (by assumption) ?_
    rotate_left 1
    · (intro w hSw; (try dsimp only at hSw); first | (go_simp; done) | (go_simp; with_reducible rfl))
    (try simp only [Act.put, List.getElem_toArray, List.getElem_cons_succ, List.getElem_cons_zero, List.setIfInBounds_toArray, List.set_cons_zero, List.set_cons_succ])
    refine wpAnyH_take (i := 4) (v := undef) rfl (by kernel_rfl) (by kernel_rfl) (by kernel_rfl) (fun _ _ _ h => h) (Or.inr ⟨by kernel_rfl, rfl⟩) (by assumption) ?_
    (try simp only [Act.put, List.getElem_toArray, List.getElem_cons_succ, List.getElem_cons_zero, List.setIfInBounds_toArray, List.set_cons_zero, List.set_cons_succ])
    refine wpAnyH_take (i := 5) (v := undef) rfl (by kernel_rfl) (by kernel_rfl) (by kernel_rfl) (fun _ _ _ h => h) (Or.inr ⟨by kernel_rfl, rfl⟩) (by assumption) ?_
    (try simp only [Act.put, List.getElem_toArray, List.getElem_cons_succ, List.getElem_cons_zero, List.setIfInBounds_toArray, List.set_cons_zero, List.set_cons_succ])
    refine wpAnyH_take (i := 6) (v := undef) rfl (by kernel_rfl) (by kernel_rfl) (by kernel_rfl) (fun _ _ _ h => h) (Or.inr ⟨by kernel_rfl, rfl⟩) (by assumption) ?_
    (try simp only [Act.put, List.getElem_toArray, List.getElem_cons_succ, List.getElem_cons_zero, List.setIfInBounds_toArray, List.set_cons_zero, List.set_cons_succ])
    refine wpAnyH_take (i := 7) (v := ?_) rfl (by kernel_rfl) (by kernel_rfl) (by kernel_rfl) (fun _ _ _ h => h) (Or.inl ⟨by kernel_rfl, ?_⟩) (by assumption) ?_
    rotate_left 1
    · (intro w hSw; (try dsimp only at hSw); first | (go_simp; done) | (go_simp; with_reducible rfl))
    (try simp only [Act.put, List.getElem_toArray, List.getElem_cons_succ, List.getElem_cons_zero, List.setIfInBounds_toArray, List.set_cons_zero, List.set_cons_succ])
    refine wpAnyH_take (i := 8) (v := ?_) rfl (by kernel_rfl) (by kernel_rfl) (by kernel_rfl) (fun _ _ _ h => h) (Or.inl ⟨by kernel_rfl, ?_⟩) (by assumption) ?_
    rotate_left 1
    · (intro w hSw; (try dsimp only at hSw); first | (go_simp; done) | (go_simp; with_reducible rfl))
    (try simp only [Act.put, List.getElem_toArray, List.getElem_cons_succ, List.getElem_cons_zero, List.setIfInBounds_toArray, List.set_cons_zero, List.set_cons_succ])
    refine wpAnyH_take (i := 9) (v := undef) rfl (by kernel_rfl) (by kernel_rfl) (by kernel_rfl) (fun _ _ _ h => h) (Or.inr ⟨by kernel_rfl, rfl⟩) (by assumption) ?_
    (try simp only [Act.put, List.getElem_toArray, List.getElem_cons_succ, List.getElem_cons_zero, List.setIfInBounds_toArray, List.set_cons_zero, List.set_cons_succ])
    refine wpAnyH_take (i := 10) (v := undef) rfl (by kernel_rfl) (by kernel_rfl) (by kernel_rfl) (fun _ _ _ h => h) (Or.inr ⟨by kernel_rfl, rfl⟩) (by assumption) ?_
    (try simp only [Act.put, List.getElem_toArray, List.getElem_cons_succ, List.getElem_cons_zero, List.setIfInBounds_toArray, List.set_cons_zero, List.set_cons_succ])
    refine wpAnyH_take (i := 11) (v := undef) rfl (by kernel_rfl) (by kernel_rfl) (by kernel_rfl) (fun _ _ _ h => h) (Or.inr ⟨by kernel_rfl, rfl⟩) (by assumption) ?_
    (try simp only [Act.put, List.getElem_toArray, List.getElem_cons_succ, List.getElem_cons_zero, List.setIfInBounds_toArray, List.set_cons_zero, List.set_cons_succ])
    refine wpAnyH_take (i := 12) (v := undef) rfl (by kernel_rfl) (by kernel_rfl) (by kernel_rfl) (fun _ _ _ h => h) (Or.inr ⟨by kernel_rfl, rfl⟩) (by assumption) ?_
    (try simp only [Act.put, List.getElem_toArray, List.getElem_cons_succ, List.getElem_cons_zero, List.setIfInBounds_toArray, List.set_cons_zero, List.set_cons_succ])
    refine wpAnyH_take (i := 13) (v := ?_) rfl (by kernel_rfl) (by kernel_rfl) (by kernel_rfl) (fun _ _ _ h => h) (Or.inl ⟨by kernel_rfl, ?_⟩) (by assumption) ?_
    rotate_left 1
    · (intro w hSw; (try dsimp only at hSw); first | (go_simp; done) | (go_simp; with_reducible rfl))
    (try simp only [Act.put, List.getElem_toArray, List.getElem_cons_succ, List.getElem_cons_zero, List.setIfInBounds_toArray, List.set_cons_zero, List.set_cons_succ])
    refine wpAnyH_take (i := 14) (v := ?_) rfl (by kernel_rfl) (by kernel_rfl) (by kernel_rfl) (fun _ _ _ h => h) (Or.inl ⟨by kernel_rfl, ?_⟩) (by assumption) ?_
    rotate_left 1
    · (intro w hSw; (try dsimp only at hSw); first | (go_simp; done) | (go_simp; with_reducible rfl))
    (try simp only [Act.put, List.getElem_toArray, List.getElem_cons_succ, List.getElem_cons_zero, List.setIfInBounds_toArray, List.set_cons_zero, List.set_cons_succ])
    refine wpAnyH_done (by kernel_rfl) ?_ _
    refine NoPanic.normal ?_
    have y1 := hb1.size; (try simp only [World.size_alloc, size_set, size_drew, size_drewN] at y1)
    go_wp2_with fail
    go_ret
    exact ⟨rfl, bel⟩
  · cases b2
    · have hr := HF.out (.inr rfl)
      subst hr
      refine wp_region_noPanic ?_
      refine wp_region_held_drew (S := (fun W => (W.cell? ⟨w.heap.size, 0, none⟩ = some (.bool n1) ∧ W.cell? ⟨w.heap.size, 1, none⟩ = some (.slice A xs.length c)) ∧ W.cell? ⟨w.heap.size, 2, none⟩ = some (.bool n2) ∧ W.cell? ⟨w.heap.size, 3, none⟩ = some (.slice B ys.length d))) (by kernel_rfl) ?_ (fun hHeld => ?_)
      · exact ⟨⟨Loc.c 0 L1, Loc.c 1 L1⟩, Loc.c 2 L1, Loc.c 3 L1⟩
      refine wpAnyH_take (i := 0) (v := ?_) rfl (by kernel_rfl) (by kernel_rfl) (by kernel_rfl) (fun _ _ _ h => h) (Or.inl ⟨by kernel_rfl, ?_⟩) (by assumption) ?_
      rotate_left 1
      · (intro w hSw; (try dsimp only at hSw); first | (go_simp; done) | (go_simp; with_reducible rfl))
      (try simp only [Act.put, List.getElem_toArray, List.getElem_cons_succ, List.getElem_cons_zero, List.setIfInBounds_toArray, List.set_cons_zero, List.set_cons_succ])
      refine wpAnyH_take (i := 1) (v := ?_) rfl (by kernel_rfl) (by kernel_rfl) (by kernel_rfl) (fun _ _ _ h => h) (Or.inl ⟨by kernel_rfl, ?_⟩) (by assumption) ?_
      rotate_left 1
      · (intro w hSw; (try dsimp only at hSw); first | (go_simp; done) | (go_simp; with_reducible rfl))
      (try simp only [Act.put, List.getElem_toArray, List.getElem_cons_succ, List.getElem_cons_zero, List.setIfInBounds_toArray, List.set_cons_zero, List.set_cons_succ])
      refine wpAnyH_ready (rs := [2]) (by kernel_rfl) (by simp) ?_
      refine AllReadyH.cons rfl (fun K hK => ?_) AllReadyH.nil
      go_simp
      refine (valid_any _ (fun _ => False) _ n1 xs i1.to).mono ?_
      rintro e u1 ⟨he, hb1⟩
      rw [HV1.out] at he
      subst he
      (try go_wp2_with fail)
      refine hK.out _ _ ?_ (fun hHeld => ?_)
      · (try dsimp only)
        exact ⟨⟨Loc.c 0 L1, Loc.c 1 L1⟩, Loc.c 2 L1, Loc.c 3 L1⟩
      clear hK K
      (try simp only [Act.put, List.getElem_toArray, List.getElem_cons_succ, List.getElem_cons_zero, List.setIfInBounds_toArray, List.set_cons_zero, List.set_cons_succ])
      refine wpAnyH_take (i := 3) (v := ?_) rfl (by kernel_rfl) (by kernel_rfl) (by kernel_rfl) (fun _ _ _ h => h) (Or.inl ⟨by kernel_rfl, ?_⟩) (by assumption) ?_
      rotate_left 1
      · (intro w hSw; (try dsimp only at hSw); first | (go_simp; done) | (go_simp; with_reducible rfl))
      (try simp only [Act.put, List.getElem_toArray, List.getElem_cons_succ, List.getElem_cons_zero, List.setIfInBounds_toArray, List.set_cons_zero, List.set_cons_succ])
      refine wpAnyH_take (i := 4) (v := ?_) rfl (by kernel_rfl) (by kernel_rfl) (by kernel_rfl) (fun _ _ _ h => h) (Or.inl ⟨by kernel_rfl, ?_⟩) (by assumption) ?_
      rotate_left 1
      · (intro w hSw; (try dsimp only at hSw); first | (go_simp; done) | (go_simp; with_reducible rfl))
      (try simp only [Act.put, List.getElem_toArray, List.getElem_cons_succ, List.getElem_cons_zero, List.setIfInBounds_toArray, List.set_cons_zero, List.set_cons_succ])
      refine wpAnyH_take (i := 5) (v := ?_) rfl (by kernel_rfl) (by kernel_rfl) (by kernel_rfl) (fun _ _ _ h => h) (Or.inl ⟨by kernel_rfl, ?_⟩) (by assumption) ?_
      rotate_left 1
      · (intro w hSw; (try dsimp only at hSw); first | (go_simp; done) | (go_simp; with_reducible rfl))
      (try simp only [Act.put, List.getElem_toArray, List.getElem_cons_succ, List.getElem_cons_zero, List.setIfInBounds_toArray, List.set_cons_zero, List.set_cons_succ])
      refine wpAnyH_ready (rs := [6]) (by kernel_rfl) (by simp) ?_
      refine AllReadyH.cons rfl (fun K hK => ?_) AllReadyH.nil
      go_simp
      refine (valid_any _ (fun _ => False) _ n2 ys i2.to).mono ?_
      rintro e u2 ⟨he, hb2⟩
      rw [HV2.out] at he
      subst he
      (try go_wp2_with fail)
      refine hK.out _ _ ?_ (fun hHeld => ?_)
      · (try dsimp only)
        exact ⟨⟨Loc.c 0 L1, Loc.c 1 L1⟩, Loc.c 2 L1, Loc.c 3 L1⟩
      clear hK K
      (try simp only [Act.put, List.getElem_toArray, List.getElem_cons_succ, List.getElem_cons_zero, List.setIfInBounds_toArray, List.set_cons_zero, List.set_cons_succ])
      refine wpAnyH_take (i := 7) (v := ?_) rfl (by kernel_rfl) (by kernel_rfl) (by kernel_rfl) (fun _ _ _ h => h) (Or.inl ⟨by kernel_rfl, ?_⟩) (by assumption) ?_
      rotate_left 1
      · (intro w hSw; (try dsimp only at hSw); first | (go_simp; done) | (go_simp; with_reducible rfl))
      (try simp only [Act.put, List.getElem_toArray, List.getElem_cons_succ, List.getElem_cons_zero, List.setIfInBounds_toArray, List.set_cons_zero, List.set_cons_succ])
      refine wpAnyH_take (i := 8) (v := ?_) rfl (by kernel_rfl) (by kernel_rfl) (by kernel_rfl) (fun _ _ _ h => h) (Or.inl ⟨by kernel_rfl, ?_⟩) (by assumption) ?_
      rotate_left 1
      · (intro w hSw; (try dsimp only at hSw); first | (go_simp; done) | (go_simp; with_reducible rfl))
      (try simp only [Act.put, List.getElem_toArray, List.getElem_cons_succ, List.getElem_cons_zero, List.setIfInBounds_toArray, List.set_cons_zero, List.set_cons_succ])
      refine wpAnyH_take (i := 9) (v := undef) rfl (by kernel_rfl) (by kernel_rfl) (by kernel_rfl) (fun _ _ _ h => h) (Or.inr ⟨by kernel_rfl, rfl⟩) (by assumption) ?_
      (try simp only [Act.put, List.getElem_toArray, List.getElem_cons_succ, List.getElem_cons_zero, List.setIfInBounds_toArray, List.set_cons_zero, List.set_cons_succ])
      refine wpAnyH_take (i := 10) (v := undef) rfl (by kernel_rfl) (by kernel_rfl) (by kernel_rfl) (fun _ _ _ h => h) (Or.inr ⟨by kernel_rfl, rfl⟩) (by assumption) ?_
      (try simp only [Act.put, List.getElem_toArray, List.getElem_cons_succ, List.getElem_cons_zero, List.setIfInBounds_toArray, List.set_cons_zero, List.set_cons_succ])
      refine wpAnyH_take (i := 11) (v := undef) rfl (by kernel_rfl) (by kernel_rfl) (by kernel_rfl) (fun _ _ _ h => h) (Or.inr ⟨by kernel_rfl, rfl⟩) (by assumption) ?_
      (try simp only [Act.put, List.getElem_toArray, List.getElem_cons_succ, List.getElem_cons_zero, List.setIfInBounds_toArray, List.set_cons_zero, List.set_cons_succ])
      refine wpAnyH_take (i := 12) (v := undef) rfl (by kernel_rfl) (by kernel_rfl) (by kernel_rfl) (fun _ _ _ h => h) (Or.inr ⟨by kernel_rfl, rfl⟩) (by assumption) ?_
      (try simp only [Act.put, List.getElem_toArray, List.getElem_cons_succ, List.getElem_cons_zero, List.setIfInBounds_toArray, List.set_cons_zero, List.set_cons_succ])
      refine wpAnyH_take (i := 13) (v := ?_) rfl (by kernel_rfl) (by kernel_rfl) (by kernel_rfl) (fun _ _ _ h => h) (Or.inl ⟨by kernel_rfl, ?_⟩) (by assumption) ?_
      rotate_left 1
      · (intro w hSw; (try dsimp only at hSw); first | (go_simp; done) | (go_simp; with_reducible rfl))
      (try simp only [Act.put, List.getElem_toArray, List.getElem_cons_succ, List.getElem_cons_zero, List.setIfInBounds_toArray, List.set_cons_zero, List.set_cons_succ])
      refine wpAnyH_take (i := 14) (v := ?_) rfl (by kernel_rfl) (by kernel_rfl) (by kernel_rfl) (fun _ _ _ h => h) (Or.inl ⟨by kernel_rfl, ?_⟩) (by assumption) ?_
      rotate_left 1
      · (intro w hSw; (try dsimp only at hSw); first | (go_simp; done) | (go_simp; with_reducible rfl))
      (try simp only [Act.put, List.getElem_toArray, List.getElem_cons_succ, List.getElem_cons_zero, List.setIfInBounds_toArray, List.set_cons_zero, List.set_cons_succ])
      refine wpAnyH_done (by kernel_rfl) ?_ _
      refine NoPanic.normal ?_
      have y1 := hb1.size; (try simp only [World.size_alloc, size_set, size_drew, size_drewN] at y1)
      have y2 := hb2.size; (try simp only [World.size_alloc, size_set, size_drew, size_drewN] at y2)
      go_wp2_with fail
      go_ret
      exact ⟨rfl, bel⟩
    · skip
      refine wp_region_noPanic ?_
      refine wp_region_held_drew (S := (fun W => (W.cell? ⟨w.heap.size, 0, none⟩ = some (.bool n1) ∧ W.cell? ⟨w.heap.size, 1, none⟩ = some (.slice A xs.length c)) ∧ W.cell? ⟨w.heap.size, 2, none⟩ = some (.bool n2) ∧ W.cell? ⟨w.heap.size, 3, none⟩ = some (.slice B ys.length d))) (by kernel_rfl) ?_ (fun hHeld => ?_)
      · exact ⟨⟨Loc.c 0 L1, Loc.c 1 L1⟩, Loc.c 2 L1, Loc.c 3 L1⟩
      refine wpAnyH_take (i := 0) (v := ?_) rfl (by kernel_rfl) (by kernel_rfl) (by kernel_rfl) (fun _ _ _ h => h) (Or.inl ⟨by kernel_rfl, ?_⟩) (by assumption) ?_
      rotate_left 1
      · (intro w hSw; (try dsimp only at hSw); first | (go_simp; done) | (go_simp; with_reducible rfl))
      (try simp only [Act.put, List.getElem_toArray, List.getElem_cons_succ, List.getElem_cons_zero, List.setIfInBounds_toArray, List.set_cons_zero, List.set_cons_succ])
      refine wpAnyH_take (i := 1) (v := ?_) rfl (by kernel_rfl) (by kernel_rfl) (by kernel_rfl) (fun _ _ _ h => h) (Or.inl ⟨by kernel_rfl, ?_⟩) (by assumption) ?_
      rotate_left 1
      · (intro w hSw; (try dsimp only at hSw); first | (go_simp; done) | (go_simp; with_reducible rfl))
      (try simp only [Act.put, List.getElem_toArray, List.getElem_cons_succ, List.getElem_cons_zero, List.setIfInBounds_toArray, List.set_cons_zero, List.set_cons_succ])
      refine wpAnyH_ready (rs := [2]) (by kernel_rfl) (by simp) ?_
      refine AllReadyH.cons rfl (fun K hK => ?_) AllReadyH.nil
      go_simp
      refine (valid_any _ (fun _ => False) _ n1 xs i1.to).mono ?_
      rintro e u1 ⟨he, hb1⟩
      rw [HV1.out] at he
      subst he
      (try go_wp2_with fail)
      refine hK.out _ _ ?_ (fun hHeld => ?_)
      · (try dsimp only)
        exact ⟨⟨Loc.c 0 L1, Loc.c 1 L1⟩, Loc.c 2 L1, Loc.c 3 L1⟩
      clear hK K
      (try simp only [Act.put, List.getElem_toArray, List.getElem_cons_succ, List.getElem_cons_zero, List.setIfInBounds_toArray, List.set_cons_zero, List.set_cons_succ])
      refine wpAnyH_take (i := 3) (v := ?_) rfl (by kernel_rfl) (by kernel_rfl) (by kernel_rfl) (fun _ _ _ h => h) (Or.inl ⟨by kernel_rfl, ?_⟩) (by assumption) ?_
      rotate_left 1
      · (intro w hSw; (try dsimp only at hSw); first | (go_simp; done) | (go_simp; with_reducible rfl))
      (try simp only [Act.put, List.getElem_toArray, List.getElem_cons_succ, List.getElem_cons_zero, List.setIfInBounds_toArray, List.set_cons_zero, List.set_cons_succ])
      refine wpAnyH_take (i := 4) (v := ?_) rfl (by kernel_rfl) (by kernel_rfl) (by kernel_rfl) (fun _ _ _ h => h) (Or.inl ⟨by kernel_rfl, ?_⟩) (by assumption) ?_
      rotate_left 1
      · (intro w hSw; (try dsimp only at hSw); first | (go_simp; done) | (go_simp; with_reducible rfl))
      (try simp only [Act.put, List.getElem_toArray, List.getElem_cons_succ, List.getElem_cons_zero, List.setIfInBounds_toArray, List.set_cons_zero, List.set_cons_succ])
      refine wpAnyH_take (i := 5) (v := ?_) rfl (by kernel_rfl) (by kernel_rfl) (by kernel_rfl) (fun _ _ _ h => h) (Or.inl ⟨by kernel_rfl, ?_⟩) (by assumption) ?_
      rotate_left 1
      · (intro w hSw; (try dsimp only at hSw); first | (go_simp; done) | (go_simp; with_reducible rfl))
      (try simp only [Act.put, List.getElem_toArray, List.getElem_cons_succ, List.getElem_cons_zero, List.setIfInBounds_toArray, List.set_cons_zero, List.set_cons_succ])
      refine wpAnyH_ready (rs := [6]) (by kernel_rfl) (by simp) ?_
      refine AllReadyH.cons rfl (fun K hK => ?_) AllReadyH.nil
      go_simp
      refine (valid_any _ (fun _ => False) _ n2 ys i2.to).mono ?_
      rintro e u2 ⟨he, hb2⟩
      rw [HV2.out] at he
      subst he
      (try go_wp2_with fail)
      refine hK.out _ _ ?_ (fun hHeld => ?_)
      · (try dsimp only)
        exact ⟨⟨Loc.c 0 L1, Loc.c 1 L1⟩, Loc.c 2 L1, Loc.c 3 L1⟩
      clear hK K
      (try simp only [Act.put, List.getElem_toArray, List.getElem_cons_succ, List.getElem_cons_zero, List.setIfInBounds_toArray, List.set_cons_zero, List.set_cons_succ])
      refine wpAnyH_take (i := 7) (v := ?_) rfl (by kernel_rfl) (by kernel_rfl) (by kernel_rfl) (fun _ _ _ h => h) (Or.inl ⟨by kernel_rfl, ?_⟩) (by assumption) ?_
      rotate_left 1
      · (intro w hSw; (try dsimp only at hSw); first | (go_simp; done) | (go_simp; with_reducible rfl))
      (try simp only [Act.put, List.getElem_toArray, List.getElem_cons_succ, List.getElem_cons_zero, List.setIfInBounds_toArray, List.set_cons_zero, List.set_cons_succ])
      refine wpAnyH_take (i := 8) (v := ?_) rfl (by kernel_rfl) (by kernel_rfl) (by kernel_rfl) (fun _ _ _ h => h) (Or.inl ⟨by kernel_rfl, ?_⟩) (by assumption) ?_
      rotate_left 1
      · (intro w hSw; (try dsimp only at hSw); first | (go_simp; done) | (go_simp; with_reducible rfl))
      (try simp only [Act.put, List.getElem_toArray, List.getElem_cons_succ, List.getElem_cons_zero, List.setIfInBounds_toArray, List.set_cons_zero, List.set_cons_succ])
      refine wpAnyH_take (i := 9) (v := ?_) rfl (by kernel_rfl) (by kernel_rfl) (by kernel_rfl) (fun _ _ _ h => h) (Or.inl ⟨by kernel_rfl, ?_⟩) (by assumption) ?_
      rotate_left 1
      · (intro w hSw; (try dsimp only at hSw); first | (go_simp; done) | (go_simp; with_reducible rfl))
      (try simp only [Act.put, List.getElem_toArray, List.getElem_cons_succ, List.getElem_cons_zero, List.setIfInBounds_toArray, List.set_cons_zero, List.set_cons_succ])
      refine wpAnyH_take (i := 10) (v := ?_) rfl (by kernel_rfl) (by kernel_rfl) (by kernel_rfl) (fun _ _ _ h => h) (Or.inl ⟨by kernel_rfl, ?_⟩) (by assumption) ?_
      rotate_left 1
      · (intro w hSw; (try dsimp only at hSw); first | (go_simp; done) | (go_simp; with_reducible rfl))
      (try simp only [Act.put, List.getElem_toArray, List.getElem_cons_succ, List.getElem_cons_zero, List.setIfInBounds_toArray, List.set_cons_zero, List.set_cons_succ])
      refine wpAnyH_ready (rs := [11]) (by kernel_rfl) (by simp) ?_
      refine AllReadyH.cons rfl (fun K hK => ?_) AllReadyH.nil
      go_simp
      refine (clean_rat _ (fun _ => False) _ _ ⟨n1, xs, n2, ys, h0.to, hs1, hs2, rfl⟩).mono ?_
      rintro e u3 ⟨v3, rfl, h3, hb3⟩
      obtain ⟨b3, A3, m3, c3, b3', A3', m3', c3', rfl, h3, -, -⟩ := h3.op
      (try go_wp2_with fail)
      refine hK.out _ _ ?_ (fun hHeld => ?_)
      · (try dsimp only)
        exact ⟨⟨Loc.c 0 L1, Loc.c 1 L1⟩, Loc.c 2 L1, Loc.c 3 L1⟩
      clear hK K
      (try simp only [Act.put, List.getElem_toArray, List.getElem_cons_succ, List.getElem_cons_zero, List.setIfInBounds_toArray, List.set_cons_zero, List.set_cons_succ])
      refine wpAnyH_ready (rs := [12]) (by kernel_rfl) (by simp) ?_
      refine AllReadyH.cons rfl (fun K hK => ?_) AllReadyH.nil
      go_simp
      refine (psame_any _ (fun _ => False) _ _ _ _ _ _ _ _ _ _ h0.to (RatV.to h3)).mono ?_
      rintro e u4 ⟨he, hb4⟩
      have hr := HR.out
      unfold canR at hr
      rw [hr] at he
      subst he
      clear hr
      (try go_wp2_with fail)
      refine hK.out _ _ ?_ (fun hHeld => ?_)
      · (try dsimp only)
        exact ⟨⟨Loc.c 0 L1, Loc.c 1 L1⟩, Loc.c 2 L1, Loc.c 3 L1⟩
      clear hK K
      (try simp only [Act.put, List.getElem_toArray, List.getElem_cons_succ, List.getElem_cons_zero, List.setIfInBounds_toArray, List.set_cons_zero, List.set_cons_succ])
      refine wpAnyH_take (i := 13) (v := ?_) rfl (by kernel_rfl) (by kernel_rfl) (by kernel_rfl) (fun _ _ _ h => h) (Or.inl ⟨by kernel_rfl, ?_⟩) (by assumption) ?_
      rotate_left 1
      · (intro w hSw; (try dsimp only at hSw); first | (go_simp; done) | (go_simp; with_reducible rfl))
      (try simp only [Act.put, List.getElem_toArray, List.getElem_cons_succ, List.getElem_cons_zero, List.setIfInBounds_toArray, List.set_cons_zero, List.set_cons_succ])
      refine wpAnyH_take (i := 14) (v := ?_) rfl (by kernel_rfl) (by kernel_rfl) (by kernel_rfl) (fun _ _ _ h => h) (Or.inl ⟨by kernel_rfl, ?_⟩) (by assumption) ?_
      rotate_left 1
      · (intro w hSw; (try dsimp only at hSw); first | (go_simp; done) | (go_simp; with_reducible rfl))
      (try simp only [Act.put, List.getElem_toArray, List.getElem_cons_succ, List.getElem_cons_zero, List.setIfInBounds_toArray, List.set_cons_zero, List.set_cons_succ])
      refine wpAnyH_done (by kernel_rfl) ?_ _
      refine NoPanic.normal ?_
      have y1 := hb1.size; (try simp only [World.size_alloc, size_set, size_drew, size_drewN] at y1)
      have y2 := hb2.size; (try simp only [World.size_alloc, size_set, size_drew, size_drewN] at y2)
      have y3 := hb3.size; (try simp only [World.size_alloc, size_set, size_drew, size_drewN] at y3)
      have y4 := hb4.size; (try simp only [World.size_alloc, size_set, size_drew, size_drewN] at y4)
      go_wp2_with fail
      go_ret
      exact ⟨rfl, bel⟩
end Go.Proofs.Ytooheapikhdllaa

/- The text of an integer is parsed as the integer: the plain law. -/
namespace Go.Proofs.Ytooheapikhdllaa
open Go.RowKit

theorem fwd_digits (es : List Nat) (h : Ds es) : (bytesOf (chars es)).map (fun c => c.toNat - 48) = es := by
  induction es with
  | nil => rfl
  | cons d es ih =>
    obtain ⟨hd, hes⟩ := Ds.cons.1 h
    have := ih hes
    simp only [chars, bytesOf, List.map_cons] at this ⊢
    rw [this]
    congr 1
    have : (UInt8.ofNat (48 + d)).toNat = 48 + d := by simp; omega
    rw [this]; omega
theorem bytesOf_reverse (xs : List Nat) : bytesOf xs.reverse = (bytesOf xs).reverse := by simp [bytesOf, List.map_reverse]
/-- The decimal characters of a number. -/
def decB (n : Nat) : List UInt8 := bytesOf (chars (decR n)).reverse
theorem decB_good (n : Nat) : ∀ c ∈ decB n, good c := by
  intro c hc
  simp only [decB, bytesOf, chars, List.mem_map, List.mem_reverse] at hc
  obtain ⟨x, ⟨d, hd, rfl⟩, rfl⟩ := hc
  have := ds_decR n d hd
  unfold good
  have e : (UInt8.ofNat (48 + d)).toNat = 48 + d := by simp; omega
  rw [e]; omega
theorem decB_pval (n : Nat) : pval (decB n) = n := by
  rw [dval_digits]
  unfold decB
  rw [bytesOf_reverse, List.map_reverse, List.reverse_reverse, fwd_digits _ (ds_decR n), dval_decR]
theorem decB_len (n : Nat) : (decB n).length = (decR n).length := by simp [decB, chars]
theorem decB_head (n : Nat) (h : 0 < n) : ∃ c bs, decB n = c :: bs ∧ c ≠ 48 := by
  have hne : decR n ≠ [] := by intro e; have := dval_decR n; rw [e] at this; simp at this; omega
  have hl := decR_last hne
  obtain ⟨es, d, he⟩ : ∃ es d, decR n = es ++ [d] := ⟨(decR n).dropLast, (decR n).getLast hne, (List.dropLast_concat_getLast hne).symm⟩
  have hd10 : d < 10 := ds_decR n d (by rw [he]; simp)
  have hd0 : d ≠ 0 := by
    have e2 : (decR n).getLast hne = d := by simp [he]
    rw [e2] at hl
    exact hl
  refine ⟨UInt8.ofNat (48 + d), bytesOf (chars es).reverse, ?_, ?_⟩
  · unfold decB
    rw [he]
    simp [chars, bytesOf]
  · intro e
    have := congrArg UInt8.toNat e
    have e2 : (UInt8.ofNat (48 + d)).toNat = 48 + d := by simp; omega
    rw [e2] at this
    simp at this
    omega

theorem not_synt {ds bs : List UInt8} {c : UInt8} {b : Bool} (h : ds = c :: bs) (hc : c ≠ 48) : ¬ synt b ds := by
  rw [h]
  rintro (e | ⟨e, _⟩)
  · cases e
  · simp at e; exact hc e

theorem parsed_text (z : Int) (h : (decR z.natAbs).length ≤ 600) : parseC (textB z) = 0 ∧ parseZ (textB z) = z := by
  rcases (by omega : z = 0 ∨ 0 < z ∨ z < 0) with rfl | hz | hz
  · decide
  · obtain ⟨n, rfl⟩ : ∃ n : Nat, z = (n : Int) := ⟨z.natAbs, by omega⟩
    have hn : 0 < n := by omega
    have ht : textB (n : Int) = decB n := textB_pos n hn
    rw [ht]
    obtain ⟨c, bs, hcb, hc⟩ := decB_head n hn
    have hg := decB_good n
    have hneg : isNeg (decB n) = false := by
      rw [hcb, isNeg_cons]
      have := (hg c (by rw [hcb]; simp)).1
      simp
      rintro rfl
      simp at this
    have hs := strip_pos hneg
    have hl : (decB n).length ≤ 600 := by rw [decB_len]; exact h
    have := parse_ok (bs := decB n) (by omega) (by rw [hs, hneg]; exact not_synt hcb hc) (by rw [hs]; intro j hj; exact hg _ (List.getElem_mem hj)) (by rw [hs]; omega)
    refine ⟨this.1, ?_⟩
    rw [this.2, hneg, hs, decB_pval]
    rfl
  · obtain ⟨n, rfl⟩ : ∃ n : Nat, z = -(n : Int) := ⟨z.natAbs, by omega⟩
    have hn : 0 < n := by omega
    have ht : textB (-(n : Int)) = 45 :: decB n := by
      rw [textB_neg n hn, List.reverse_append]
      rfl
    rw [ht]
    obtain ⟨c, bs, hcb, hc⟩ := decB_head n hn
    have hg := decB_good n
    have hneg : isNeg (45 :: decB n) = true := by rw [isNeg_cons]; rfl
    have hs : strip (45 :: decB n) = decB n := by rw [strip_neg hneg]; rfl
    have hl : (decB n).length ≤ 600 := by rw [decB_len]; have := h; rwa [Int.natAbs_neg, Int.natAbs_natCast] at this
    have := parse_ok (bs := 45 :: decB n) (by simp only [List.length_cons]; omega) (by rw [hs, hneg]; exact not_synt hcb hc) (by rw [hs]; intro j hj; exact hg _ (List.getElem_mem hj)) (by rw [hs]; omega)
    refine ⟨this.1, ?_⟩
    rw [this.2, hneg, hs, decB_pval]
    rfl
end Go.Proofs.Ytooheapikhdllaa

/- Texts of fractions: decimal and cut of the program, digits of the reference. -/
namespace Go.Proofs.Ytooheapikhdllaa
open Go.RowKit
attribute [local go_sem ↓] Go.wp_at_zero Go.wp_at_succ

/-- Digits without a leading zero. -/
def decOk (ds : List UInt8) : Bool := decide (ds ≠ [] ∧ ¬ (1 < ds.length ∧ ds.head? = some 48) ∧ ∀ c ∈ ds, good c)
theorem decOk_nil : decOk [] = false := rfl
theorem decOk_lead {ds : List UInt8} (h : 1 < ds.length) (h0 : ∀ h : 0 < ds.length, ds[0] = 48) : decOk ds = false := by
  unfold decOk
  rw [decide_eq_false_iff_not]
  rintro ⟨_, h2, _⟩
  exact h2 ⟨h, by rw [List.head?_eq_getElem?, List.getElem?_eq_getElem (by omega), h0 (by omega)]⟩
theorem decOk_bad {ds : List UInt8} (i : Nat) (hi : i < ds.length) (h : ¬ good ds[i]) : decOk ds = false := by
  unfold decOk
  rw [decide_eq_false_iff_not]
  rintro ⟨_, _, h3⟩
  exact h (h3 _ (List.getElem_mem hi))
theorem decOk_ok {ds : List UInt8} (h1 : 0 < ds.length) (h2 : 1 < ds.length → ∀ h : 0 < ds.length, ds[0] ≠ 48) (h3 : ∀ j, (hj : j < ds.length) → good ds[j]) : decOk ds = true := by
  unfold decOk
  rw [decide_eq_true_eq]
  refine ⟨fun e => by subst e; simp at h1, fun ⟨a, b⟩ => ?_, fun c hc => ?_⟩
  · rw [List.head?_eq_getElem?, List.getElem?_eq_getElem (by omega)] at b
    exact h2 a h1 (by injection b)
  · obtain ⟨j, hj, rfl⟩ := List.getElem_of_mem hc
    exact h3 j hj

set_option maxHeartbeats 2000000 in
theorem decimal_any (w : World) (ds : List UInt8) (hdl : ds.length ≤ 1000000) :
    Calls Try.prog 72 #[str ds] w fun e w' => e = .returned (.bool (decOk ds)) ∧ w = w' := by
  by_cases hl0 : 0 < ds.length
  · have hne : ds.isEmpty = false := by cases ds with | nil => simp at hl0 | cons _ _ => rfl
    by_cases hlead : 1 < ds.length ∧ ∀ h : 0 < ds.length, ds[0] = 48
    · obtain ⟨hl1, h48⟩ := hlead
      have HR := Lib.hid (decOk_lead hl1 h48)
      have hc0 : ∀ h : 0 < ds.length, ((((({ data := ds.toArray } : ByteArray)[0]'h).toNat : Nat) : Int)) = 48 := fun h => by
        show ((ds[0].toNat : Nat) : Int) = 48
        rw [h48 h]; rfl
      clear h48
      go_enter Try.func72, Try.ntmps72
      go_wp2_with fail
      go_ret
      exact ⟨by rw [HR.out]; rfl, rfl⟩
    · have HN : Hid (1 < ds.length → ∀ h : 0 < ds.length, ds[0] ≠ 48) := fun h1 h e => hlead ⟨h1, fun _ => e⟩
      have hcase : ¬ 1 < ds.length ∨ (1 < ds.length ∧ ∀ h : 0 < ds.length, ((((({ data := ds.toArray } : ByteArray)[0]'h).toNat : Nat) : Int) == 48) = false) := by
        by_cases h1 : 1 < ds.length
        · refine Or.inr ⟨h1, fun h => ?_⟩
          rw [beq_eq_false_iff_ne]
          intro e
          apply HN.out h1 h
          apply UInt8.toNat_inj.1
          have : (ds[0].toNat : Int) = 48 := e
          have h48 : (48 : UInt8).toNat = 48 := rfl
          omega
        · exact Or.inl h1
      clear hlead
      rcases hcase with h1 | ⟨h1, hc0⟩
      all_goals
        go_enter Try.func72, Try.ntmps72
        go_wp2_with fail
        clear hne
        try clear hc0
        go_loop [18] (fun i => ∃ k : Nat, k ≤ ds.length ∧ i = .int .i64 k ∧ Hid (∀ j, j < k → (hj : j < ds.length) → good ds[j])) (fun i => ds.length - (intOf i).toNat)
        case atStart => exact ⟨0, by omega, rfl, Lib.hid (fun j hj => by omega)⟩
        case round =>
          obtain ⟨i, hi, rfl, hg⟩ := hrel
          by_cases hlt : i < ds.length
          · obtain ⟨x, hx⟩ : ∃ x, ds[i].toNat = x := ⟨_, rfl⟩
            have hb := byte_at ds i hlt x hx
            have hgx : good ds[i] ↔ 48 ≤ x ∧ x ≤ 57 := by unfold good; rw [hx]
            have HX := Lib.hid hgx
            have HBD := Lib.hid (decOk_bad i hlt)
            have hgi := Lib.hid (fun h : good ds[i] => good_step hlt hg.out h)
            clear hgx hx
            by_cases hx1 : x < 48
            · have HP := Lib.hid (HBD.out (fun hgg => by have := (HX.out.1 hgg).1; omega))
              go_wp2_with fail
              go_ret
              exact ⟨by rw [HP.out]; rfl, rfl⟩
            · by_cases hx2 : 57 < x
              · have HP := Lib.hid (HBD.out (fun hgg => by have := (HX.out.1 hgg).2; omega))
                go_wp2_with fail
                go_ret
                exact ⟨by rw [HP.out]; rfl, rfl⟩
              · go_wp2_with fail
                go_round
                case rel => exact ⟨i + 1, by omega, by go_num, Lib.hid (hgi.out (HX.out.2 ⟨by omega, by omega⟩))⟩
                case measure => simp only [intOf]; omega
          · obtain rfl : i = ds.length := by omega
            have HP := Lib.hid (decOk_ok hl0 HN.out (fun j hj => hg.out j hj hj))
            go_wp2_with fail
            go_ret
            exact ⟨by rw [HP.out]; rfl, rfl⟩
  · have e : ds = [] := List.length_eq_zero_iff.1 (by omega)
    subst e
    go_enter Try.func72, Try.ntmps72
    go_wp2_with fail
    go_ret
    exact ⟨rfl, rfl⟩

set_option maxHeartbeats 2000000 in
theorem rdigits_any (w : World) (ds : List UInt8) (hdl : ds.length ≤ 1000000) :
    Calls Try.prog 75 #[str ds] w fun e w' => e = .returned (.bool (decOk ds)) ∧ w = w' := by
  go_enter Try.func75, Try.ntmps75
  go_wp2_with fail
  go_loop [3] (fun i => ∃ k : Nat, k ≤ ds.length ∧ i = .int .i64 k ∧ Hid (∀ j, j < k → (hj : j < ds.length) → good ds[j])) (fun i => ds.length - (intOf i).toNat)
  case atStart => exact ⟨0, by omega, rfl, Lib.hid (fun j hj => by omega)⟩
  case round =>
    obtain ⟨i, hi, rfl, hg⟩ := hrel
    by_cases hlt : i < ds.length
    · obtain ⟨x, hx⟩ : ∃ x, ds[i].toNat = x := ⟨_, rfl⟩
      have hb := byte_at ds i hlt x hx
      have hgx : good ds[i] ↔ 48 ≤ x ∧ x ≤ 57 := by unfold good; rw [hx]
      have HX := Lib.hid hgx
      have HBD := Lib.hid (decOk_bad i hlt)
      have hgi := Lib.hid (fun h : good ds[i] => good_step hlt hg.out h)
      clear hgx hx
      by_cases hx1 : x < 48
      · have HP := Lib.hid (HBD.out (fun hgg => by have := (HX.out.1 hgg).1; omega))
        go_wp2_with fail
        go_ret
        exact ⟨by rw [HP.out]; rfl, rfl⟩
      · by_cases hx2 : 57 < x
        · have HP := Lib.hid (HBD.out (fun hgg => by have := (HX.out.1 hgg).2; omega))
          go_wp2_with fail
          go_ret
          exact ⟨by rw [HP.out]; rfl, rfl⟩
        · go_wp2_with fail
          go_round
          case rel => exact ⟨i + 1, by omega, by go_num, Lib.hid (hgi.out (HX.out.2 ⟨by omega, by omega⟩))⟩
          case measure => simp only [intOf]; omega
    · obtain rfl : i = ds.length := by omega
      by_cases hl0 : 0 < ds.length
      · by_cases hlead : 1 < ds.length ∧ ∀ h : 0 < ds.length, ds[0] = 48
        · obtain ⟨hl1, h48⟩ := hlead
          have HR := Lib.hid (decOk_lead hl1 h48)
          have hq : ((ds.length : Int) == 1) = false := by rw [beq_eq_false_iff_ne]; omega
          have hc0 : ∀ h : 0 < ds.length, ((((({ data := ds.toArray } : ByteArray)[0]'h).toNat : Nat) : Int)) = 48 := fun h => by
            show ((ds[0].toNat : Nat) : Int) = 48
            rw [h48 h]; rfl
          clear h48
          go_wp2_with fail
          go_ret
          exact ⟨by rw [HR.out]; rfl, rfl⟩
        · have HN : Hid (1 < ds.length → ∀ h : 0 < ds.length, ds[0] ≠ 48) := fun h1 h e => hlead ⟨h1, fun _ => e⟩
          have HP := Lib.hid (decOk_ok hl0 HN.out (fun j hj => hg.out j hj hj))
          clear hlead
          by_cases h1 : 1 < ds.length
          · have hq : ((ds.length : Int) == 1) = false := by rw [beq_eq_false_iff_ne]; omega
            have hc0 : ∀ h : 0 < ds.length, ((((({ data := ds.toArray } : ByteArray)[0]'h).toNat : Nat) : Int) != 48) = true := fun h => by
              rw [bne_iff_ne]
              intro e
              apply HN.out h1 h
              apply UInt8.toNat_inj.1
              have : (ds[0].toNat : Int) = 48 := e
              have h48 : (48 : UInt8).toNat = 48 := rfl
              omega
            go_wp2_with fail
            go_ret
            exact ⟨by rw [HP.out]; rfl, rfl⟩
          · have hq : ((ds.length : Int) == 1) = true := by rw [beq_iff_eq]; omega
            go_wp2_with fail
            go_ret
            exact ⟨by rw [HP.out]; rfl, rfl⟩
      · have e : ds = [] := List.length_eq_zero_iff.1 (by omega)
        subst e
        go_wp2_with fail
        go_ret
        exact ⟨rfl, rfl⟩
end Go.Proofs.Ytooheapikhdllaa

/- Texts of fractions: cut; whole of both. -/
namespace Go.Proofs.Ytooheapikhdllaa
open Go.RowKit
attribute [local go_sem ↓] Go.wp_at_zero Go.wp_at_succ

/-- Where the first slash stands. -/
def slash (bs : List UInt8) : Nat := bs.findIdx (fun c => c == 47)
theorem slash_at {bs : List UInt8} {i : Nat} (h : i < bs.length) (h1 : bs[i] = 47) (h2 : ∀ j, j < i → (hj : j < bs.length) → bs[j] ≠ 47) : slash bs = i := by
  unfold slash
  rw [List.findIdx_eq h]
  exact ⟨by simp [h1], fun j hj => by simpa using h2 j hj (by omega)⟩
theorem slash_none {bs : List UInt8} (h2 : ∀ j, (hj : j < bs.length) → bs[j] ≠ 47) : slash bs = bs.length := by
  unfold slash
  rw [List.findIdx_eq_length]
  intro x hx
  obtain ⟨j, hj, rfl⟩ := List.getElem_of_mem hx
  simpa using h2 j hj
theorem slash_le (bs : List UInt8) : slash bs ≤ bs.length := List.findIdx_le_length
theorem ext_take (bs : List UInt8) (i : Nat) : (⟨bs.toArray⟩ : ByteArray).extract 0 i = ⟨(bs.take i).toArray⟩ := by
  rw [Lib.extract_eq]; simp
theorem ext_drop (bs : List UInt8) (i : Nat) : (⟨bs.toArray⟩ : ByteArray).extract i bs.length = ⟨(bs.drop i).toArray⟩ := by
  rw [Lib.extract_eq]; simp
  exact List.take_of_length_le (by simp)
theorem str_take (bs : List UInt8) (i : Nat) : Value.string ((⟨bs.toArray⟩ : ByteArray).extract 0 i) = str (bs.take i) := by rw [ext_take]
theorem str_drop (bs : List UInt8) (i : Nat) : Value.string ((⟨bs.toArray⟩ : ByteArray).extract i bs.length) = str (bs.drop i) := by rw [ext_drop]

set_option maxHeartbeats 2000000 in
theorem ratcut_any (w : World) (bs : List UInt8) (hdl : bs.length ≤ 1000000) :
    Calls Try.prog 71 #[str bs] w fun e w' => e = .returned (.tuple #[str (bs.take (slash bs)), str (bs.drop (slash bs + 1)), .bool (decide (slash bs < bs.length))]) ∧ ∃ n, w' = w.drewN n := by
  go_enter Try.func71, Try.ntmps71
  go_wp2_with fail
  go_loop [8] (fun i => ∃ k : Nat, k ≤ bs.length ∧ i = .int .i64 k ∧ Hid (∀ j, j < k → (hj : j < bs.length) → bs[j] ≠ 47)) (fun i => bs.length - (intOf i).toNat)
  case atStart => exact ⟨0, by omega, rfl, Lib.hid (fun j hj => by omega)⟩
  case round =>
    obtain ⟨i, hi, rfl, hg⟩ := hrel
    by_cases hlt : i < bs.length
    · obtain ⟨x, hx⟩ : ∃ x, bs[i].toNat = x := ⟨_, rfl⟩
      have hb := byte_at bs i hlt x hx
      have HX := Lib.hid hx
      clear hx
      by_cases hx1 : x = 47
      · subst hx1
        have hs : slash bs = i := slash_at hlt (UInt8.toNat_inj.1 HX.out) hg.out
        have HS := Lib.hid hs
        have HD := Lib.hid (decide_eq_true hlt)
        have E1 := Lib.hid (str_take bs i)
        have E2 := Lib.hid (str_drop bs (i + 1))
        clear hs
        go_wp2_with fail
        go_quiet (fail)
        go_wp2_with fail
        go_ret3
        refine ⟨?_, _, rfl⟩
        rw [HS.out, HD.out, ← E1.out, ← E2.out]
        rfl
      · have hxb : ((x : Int) == 47) = false := by rw [beq_eq_false_iff_ne]; omega
        go_wp2_with fail
        go_round
        case rel =>
          refine ⟨i + 1, by omega, by go_num, Lib.hid (fun j h1 h2 => ?_)⟩
          by_cases hj : j < i
          · exact hg.out j hj h2
          · obtain rfl : j = i := by omega
            intro e; apply hx1; rw [← HX.out, e]; rfl
        case measure => simp only [intOf]; omega
    · obtain rfl : i = bs.length := by omega
      have hs : slash bs = bs.length := slash_none (fun j hj => hg.out j hj hj)
      have HS := Lib.hid hs
      clear hs
      go_wp2_with fail
      go_ret3
      refine ⟨?_, 0, rfl⟩
      rw [HS.out, List.take_length, List.drop_eq_nil_of_le (by omega), decide_eq_false (by omega)]
      rfl

theorem pval_len (ds : List UInt8) (h : ∀ c ∈ ds, good c) : (dig (pval ds)).length ≤ ds.length := by
  refine dig_len_le (Nat.lt_of_lt_of_le (pval_lt ds h) ?_)
  exact Nat.pow_le_pow_left (by decide) _

set_option maxHeartbeats 4000000 in
theorem rwhole_any (w : World) (ds : List UInt8) (hdl : ds.length ≤ 8192) (hgood : ∀ c ∈ ds, good c) :
    Calls Try.prog 76 #[str ds] w fun e w' => ∃ v', e = .returned v' ∧ IntV w' (Old w) v' ((pval ds : Nat) : Int) ∧ Below w.heap.size w w' := by
  have HG := Lib.hid hgood
  clear hgood
  go_enter Try.func76, Try.ntmps76
  go_wp2_with fail
  refine (rsmallI _ 0 (by decide) (by decide)).mono ?_
  rintro e w1 ⟨v1, rfl, i1, hb1⟩
  obtain ⟨b1, A1, m1, c1, rfl, i1⟩ := i1.op
  have z1 := sz1 hb1
  go_wp2_with fail
  have M := made1 w1 #[.bool b1, .slice A1 m1 c1] 24
  have L := made1 w #[.bool false, .slice none 0 0] 24
  go_loopw [4] (fun i wr => ∃ (k : Nat) (b : Bool) (A : Option Addr) (m c : Nat), k ≤ ds.length ∧ i = .int .i64 k ∧ Loc wr w1.heap.size 24 #[.bool b, .slice A m c] ∧ IntV wr (fun b => b ≤ w.heap.size ∨ b = w1.heap.size) (.agg #[.bool b, .slice A m c]) ((pval (ds.take k) : Nat) : Int) ∧
      Loc wr w.heap.size 24 #[.bool false, .slice none 0 0] ∧ Below w.heap.size w wr) (fun i _ => ds.length - (intOf i).toNat)
  case atStart => exact ⟨0, b1, A1, m1, c1, by omega, rfl, M, by simpa [pval_nil] using IntV.out i1, L.to, bel⟩
  case round =>
    obtain ⟨k, b, A, m, c, hk, rfl, M2, i2, L2, hB⟩ := hrel
    obtain ⟨wo, rfl⟩ : ∃ wo : World, wo = wr := ⟨_, rfl⟩
    have q1 := Loc.lt M2
    have q2 := Loc.lt L2
    by_cases hlt : k < ds.length
    · obtain ⟨x, hx⟩ : ∃ x, ds[k].toNat = x := ⟨_, rfl⟩
      have hb := byte_at ds k hlt x hx
      have hgx := HG.out _ (List.getElem_mem hlt)
      unfold good at hgx
      rw [hx] at hgx
      obtain ⟨hx1, hx2⟩ := hgx
      have hx1' : (48 : Int) ≤ (x : Int) := by omega
      have hx2' : (x : Int) ≤ 57 := by omega
      have hpv := pval_take ds k hlt
      rw [hx] at hpv
      have HPV := Lib.hid hpv
      have HPL : Hid ((dig ((pval (ds.take k) : Nat) : Int).natAbs).length ≤ 8192) := by
        rw [Int.natAbs_natCast]
        refine Nat.le_trans (pval_len _ (fun c hc => HG.out c (List.mem_of_mem_take hc))) ?_
        rw [List.length_take]; omega
      have H10 : Hid ((dig (10 : Int).natAbs).length ≤ 2) := dig_i64 10 (by decide) (by decide)
      have HXL : Hid ((dig ((x : Int) - 48).natAbs).length ≤ 2) := dig_i64 _ (by omega) (by omega)
      clear hx hpv
      obtain ⟨e1, f1, -⟩ := Loc.all M2 (w' := wo.drew)
      go_wp2_with fail
      have hw1 : IntKind.u8.wrap ((x : Int) - 48) = (x : Int) - 48 := by rw [IntKind.wrap_u8]; omega
      have hw2 : IntKind.i64.wrap ((x : Int) - 48) = (x : Int) - 48 := by rw [IntKind.wrap_i64]; omega
      go_region_with (first
        | (go_at_call_of 68 (Value.int IntKind.i64 10); refine (rsmallI _ 10 (by decide) (by decide)).mono ?_; rintro e u1 ⟨v5, rfl, i5, hb5⟩; obtain ⟨b5, A5, m5, c5, rfl, i5⟩ := i5.op; have y5 := hb5.size; (try simp only [World.size_alloc, size_set, size_drew, size_drewN] at y5); obtain ⟨e2, f2, -⟩ := Loc.all M2 (w' := u1))
        | (go_at_call 83; refine (rmul_any _ (fun _ => False) _ _ _ _ _ _ i2.to i5.to (Nat.le_trans HPL.out (by omega)) (Nat.le_trans H10.out (by omega))).mono ?_; rintro e u2 ⟨v6, rfl, i6, hb6⟩; rw [sv_dig, sv_dig] at i6; obtain ⟨b6, A6, m6, c6, rfl, i6⟩ := i6.op; have y6 := hb6.size; (try simp only [World.size_alloc, size_set, size_drew, size_drewN] at y6))
        | (go_at_call 68; refine (rsmallI _ ((x : Int) - 48) (by omega) (by omega)).mono ?_; rintro e u3 ⟨v7, rfl, i7, hb7⟩; obtain ⟨b7, A7, m7, c7, rfl, i7⟩ := i7.op; have y7 := hb7.size; (try simp only [World.size_alloc, size_set, size_drew, size_drewN] at y7))
        | (go_at_call 82; refine (radd_any _ (fun _ => False) _ _ _ _ _ _ i6.to i7.to (Nat.le_trans (len_mulI HPL.out H10.out) (by omega)) (Nat.le_trans HXL.out (by omega))).mono ?_; rintro e u4 ⟨v8, rfl, i8, hb8⟩; rw [sv_dig, sv_dig] at i8; obtain ⟨b8, A8, m8, c8, rfl, i8⟩ := i8.op; have y8 := hb8.size; (try simp only [World.size_alloc, size_set, size_drew, size_drewN] at y8); obtain ⟨e3, f3, -⟩ := Loc.all M2 (w' := u4)))
      all_goals
        have hval : ((pval (ds.take k) : Nat) : Int) * 10 + ((x : Int) - 48) = ((pval (ds.take (k + 1)) : Nat) : Int) := by rw [HPV.out]; omega
        rw [hval] at i8
        clear hval hw1 hw2 e1 f1 e2 f2 e3 f3
        go_wp2_with fail
        go_roundw
        case rel => exact ⟨k + 1, b8, A8, m8, c8, by omega, by go_num, Loc.fill2 (Loc.to M2 (w' := u4)), IntV.out i8, Loc.to L2, bel⟩
        case measure => simp only [intOf]; omega
    · obtain rfl : k = ds.length := by omega
      rw [List.take_length] at i2
      obtain ⟨e1, f1, -⟩ := Loc.all M2 (w' := wo)
      obtain ⟨e2, f2, -⟩ := Loc.all L2 (w' := wo)
      go_wp2_with fail
      refine bodyPost_ret (by simp [results, Try.results76, go_sem, e2, f2] <;> rfl) rfl ⟨_, rfl, IntV.out i2, bel⟩
end Go.Proofs.Ytooheapikhdllaa

/- Texts of fractions: whole of the program. -/
namespace Go.Proofs.Ytooheapikhdllaa
open Go.RowKit
attribute [local go_sem ↓] Go.wp_at_zero Go.wp_at_succ

theorem pval_append (xs ys : List UInt8) : pval (xs ++ ys) = pval xs * 10 ^ ys.length + pval ys := by
  suffices H : ∀ n, n ≤ ys.length → pval (xs ++ ys.take n) = pval xs * 10 ^ n + pval (ys.take n) by
    have := H ys.length (Nat.le_refl _); rwa [List.take_length] at this
  intro n
  induction n with
  | zero => intro _; simp [pval_nil]
  | succ n ih =>
    intro hn
    have e := ih (by omega)
    rw [List.take_succ_eq_append_getElem (by omega), ← List.append_assoc, pval_snoc, pval_snoc, e, Nat.pow_succ]
    rw [Nat.mul_add, ← Nat.mul_assoc, Nat.mul_comm 10 (pval xs), Nat.mul_assoc, Nat.mul_comm 10 (10 ^ n), Nat.add_assoc]
def sLen : Value → Nat | .string s => s.size | _ => 0
theorem pow15 {n : Nat} (h : n ≤ 15) : 10 ^ n ≤ 1000000000000000 := Nat.le_trans (Nat.pow_le_pow_right (by omega) h) (by decide)
theorem pow15' {n : Nat} (h : n + 1 ≤ 15) : 10 ^ n * 10 ≤ 1000000000000000 := by rw [← Nat.pow_succ]; exact pow15 h

set_option maxHeartbeats 8000000 in
theorem whole_any (w : World) (ds : List UInt8) (hdl : ds.length ≤ 8192) (hgood : ∀ c ∈ ds, good c) :
    Calls Try.prog 73 #[str ds] w fun e w' => ∃ v', e = .returned v' ∧ IntV w' (Old w) v' ((pval ds : Nat) : Int) ∧ Below w.heap.size w w' := by
  have HG := Lib.hid hgood
  clear hgood
  have L := made1 w #[.bool false, .slice none 0 0] 24
  go_enter Try.func73, Try.ntmps73
  go_wp2_with fail
  refine (of_any _ 0 (by decide) (by decide)).mono ?_
  rintro e w1 ⟨v1, rfl, i1, hb1⟩
  obtain ⟨b1, A1, m1, c1, rfl, i1⟩ := i1.op
  have z1 := sz1 hb1
  go_wp2_with fail
  have M := made1 w1 #[.bool b1, .slice A1 m1 c1] 24
  go_loopw [0] (fun s wr => ∃ (k : Nat) (rs : List UInt8) (b : Bool) (A : Option Addr) (m c : Nat), k ≤ ds.length ∧ s = str rs ∧ Hid (rs = ds.drop k) ∧ Loc wr w1.heap.size 24 #[.bool b, .slice A m c] ∧ IntV wr (fun b => b ≤ w.heap.size ∨ b = w1.heap.size) (.agg #[.bool b, .slice A m c]) ((pval (ds.take k) : Nat) : Int) ∧
      Loc wr w.heap.size 24 #[.bool false, .slice none 0 0] ∧ Below w.heap.size w wr) (fun s _ => sLen s)
  case atStart => exact ⟨0, ds, b1, A1, m1, c1, by omega, rfl, Lib.hid rfl, M, by simpa [pval_nil] using IntV.out i1, L.to, bel⟩
  case round =>
    obtain ⟨k, rs, b, A, m, c, hk, rfl, hrs, M2, i2, L2, hB⟩ := hrel
    obtain ⟨wo, rfl⟩ : ∃ wo : World, wo = wr := ⟨_, rfl⟩
    have q1 := Loc.lt M2
    have q2 := Loc.lt L2
    have hrl : rs.length = ds.length - k := by rw [hrs.out, List.length_drop]
    have hrl1 : rs.length ≤ 8192 := by omega
    have HRL := Lib.hid hrl
    have HGR : Hid (∀ c ∈ rs, good c) := fun c hc => HG.out c (List.mem_of_mem_drop (hrs.out ▸ hc))
    clear hrl
    by_cases hlt : 0 < rs.length
    · obtain ⟨n, hn⟩ : ∃ n, n = min rs.length 15 := ⟨_, rfl⟩
      have hn1 : n ≤ 15 := by omega
      have hn2 : n ≤ rs.length := by omega
      have hn0 : 0 < n := by omega
      have hmin : min (rs.length : Int) 15 = (n : Int) := by omega
      have HN := Lib.hid hn
      clear hn
      go_wp2_with fail
      go_loop [5, 6, 16] (fun v sc i => ∃ j : Nat, j ≤ n ∧ i = .int .i64 j ∧ v = .int .i64 ((pval (rs.take j) : Nat) : Int) ∧ sc = .int .i64 (((10 ^ j : Nat) : Nat) : Int)) (fun _ _ i => n - (intOf i).toNat)
      case atStart => exact ⟨0, by omega, rfl, by simp [pval_nil], by simp⟩
      case round =>
        obtain ⟨j, hj, rfl, rfl, rfl⟩ := hrel
        have hpl := pval_lt (rs.take j) (fun c hc => HGR.out c (List.mem_of_mem_take hc))
        rw [List.length_take, Nat.min_eq_left (by omega)] at hpl
        by_cases hjn : j < n
        · have hjr : j < rs.length := by omega
          obtain ⟨x, hx⟩ : ∃ x, rs[j].toNat = x := ⟨_, rfl⟩
          have hb := byte_at rs j hjr x hx
          have hgx : good rs[j] := HGR.out _ (List.getElem_mem hjr)
          unfold good at hgx
          rw [hx] at hgx
          obtain ⟨hx1, hx2⟩ := hgx
          have hx1' : (48 : Int) ≤ (x : Int) := by omega
          have hx2' : (x : Int) ≤ 57 := by omega
          have hpv := pval_take rs j hjr
          rw [hx] at hpv
          have HPV := Lib.hid hpv
          have h15 := pow15' (n := j) (by omega)
          have HP10 : Hid (10 ^ j * 10 = 10 ^ (j + 1)) := (Nat.pow_succ 10 j).symm
          generalize 10 ^ j = p at *
          generalize pval (rs.take j) = y at *
          have hy : (y : Int) < 1000000000000000 := by omega
          have hp : (p : Int) ≤ 1000000000000000 := by omega
          clear hx hpv hpl
          go_wp2_with fail
          go_round
          case rel => exact ⟨j + 1, by omega, by go_num, int_eq (by rw [HPV.out]; omega), int_eq (by rw [← HP10.out]; omega)⟩
          case measure => simp only [intOf]; omega
        · obtain rfl : j = n := by omega
          have HTA : Hid (pval (ds.take (k + j)) = pval (ds.take k) * 10 ^ j + pval (rs.take j)) := by
            show _ = _
            rw [List.take_add, pval_append, List.length_take, List.length_drop, ← hrs.out]
            have := HRL.out
            rw [Nat.min_eq_left (by omega)]
          have h15 := pow15 hn1
          have HPL : Hid ((dig ((pval (ds.take k) : Nat) : Int).natAbs).length ≤ 8192) := by
            rw [Int.natAbs_natCast]
            refine Nat.le_trans (pval_len _ (fun c hc => HG.out c (List.mem_of_mem_take hc))) ?_
            rw [List.length_take]; omega
          generalize hpp : 10 ^ j = p at *
          generalize hyy : pval (rs.take j) = y at *
          have hy : (y : Int) < 1000000000000000 := by omega
          have hp : (p : Int) ≤ 1000000000000000 := by omega
          have HP2 : Hid ((dig ((p : Nat) : Int).natAbs).length ≤ 2) := dig_i64 _ (by omega) (by omega)
          have HY2 : Hid ((dig ((y : Nat) : Int).natAbs).length ≤ 2) := dig_i64 _ (by omega) (by omega)
          clear hpp hyy hpl h15 hmin
          obtain ⟨e1, f1, -⟩ := Loc.all M2 (w' := wo.drew)
          go_wp2_with fail
          go_region_with (first
            | (go_at_call_of 67 (Value.int IntKind.i64 (p : Int)); refine (of_any _ (p : Int) (by omega) (by omega)).mono ?_; rintro e u1 ⟨v5, rfl, i5, hb5⟩; obtain ⟨b5, A5, m5, c5, rfl, i5⟩ := i5.op; have y5 := hb5.size; (try simp only [World.size_alloc, size_set, size_drew, size_drewN] at y5); obtain ⟨e2, f2, -⟩ := Loc.all M2 (w' := u1))
            | (go_at_call 80; refine (mul_any _ (fun _ => False) _ _ _ _ _ _ i2.to i5.to (Nat.le_trans HPL.out (by omega)) (Nat.le_trans HP2.out (by omega))).mono ?_; rintro e u2 ⟨v6, rfl, i6, hb6⟩; rw [sv_dig, sv_dig] at i6; obtain ⟨b6, A6, m6, c6, rfl, i6⟩ := i6.op; have y6 := hb6.size; (try simp only [World.size_alloc, size_set, size_drew, size_drewN] at y6))
            | (go_at_call 67; refine (of_any _ (y : Int) (by omega) (by omega)).mono ?_; rintro e u3 ⟨v7, rfl, i7, hb7⟩; obtain ⟨b7, A7, m7, c7, rfl, i7⟩ := i7.op; have y7 := hb7.size; (try simp only [World.size_alloc, size_set, size_drew, size_drewN] at y7))
            | (go_at_call 81; refine (add_any _ (fun _ => False) _ _ _ _ _ _ i6.to i7.to (Nat.le_trans (len_mulI HPL.out HP2.out) (by omega)) (Nat.le_trans HY2.out (by omega))).mono ?_; rintro e u4 ⟨v8, rfl, i8, hb8⟩; rw [sv_dig, sv_dig] at i8; obtain ⟨b8, A8, m8, c8, rfl, i8⟩ := i8.op; have y8 := hb8.size; (try simp only [World.size_alloc, size_set, size_drew, size_drewN] at y8); obtain ⟨e3, f3, -⟩ := Loc.all M2 (w' := u4)))
          all_goals
            have hval : ((pval (ds.take k) : Nat) : Int) * (p : Int) + (y : Int) = ((pval (ds.take (k + j)) : Nat) : Int) := by rw [HTA.out]; push_cast; rfl
            rw [hval] at i8
            clear hval e1 f1 e2 f2 e3 f3
            have E1 := Lib.hid (str_drop rs j)
            have E2 : Hid (sLen (str (rs.drop j)) < sLen (str rs)) := by
              show (rs.drop j).toArray.size < rs.toArray.size
              simp; omega
            go_wp2_with fail
            go_roundw
            case rel => exact ⟨k + j, rs.drop j, b8, A8, m8, c8, by have := HRL.out; omega, E1.out, by show _ = _; rw [hrs.out, List.drop_drop], Loc.fill2 (Loc.to M2 (w' := u4)), IntV.out i8, Loc.to L2, bel⟩
            case measure => rw [E1.out]; exact E2.out
    · have hk2 : k = ds.length := by have := HRL.out; omega
      subst hk2
      rw [List.take_length] at i2
      have hr0 : rs = [] := List.length_eq_zero_iff.1 (by omega)
      subst hr0
      obtain ⟨e1, f1, -⟩ := Loc.all M2 (w' := wo)
      obtain ⟨e2, f2, -⟩ := Loc.all L2 (w' := wo)
      go_wp2_with fail
      refine bodyPost_ret (by simp [results, Try.results73, go_sem, e2, f2] <;> rfl) rfl ⟨_, rfl, IntV.out i2, bel⟩
end Go.Proofs.Ytooheapikhdllaa

/- rational.Parse. -/
namespace Go.Proofs.Ytooheapikhdllaa
open Go.RowKit
attribute [local go_sem ↓] Go.wp_at_zero Go.wp_at_succ

/-- The parts of a fraction's text: in front of the first slash; behind it. -/
def rpTop (bs : List UInt8) : List UInt8 := bs.take (slash bs)
def rpBot (bs : List UInt8) : List UInt8 := bs.drop (slash bs + 1)
def rpDiv (bs : List UInt8) : Bool := decide (slash bs < bs.length)
/-- No fraction's text. -/
def rpBad (ng : Bool) (ds us : List UInt8) (dv : Bool) : Bool := !decOk ds || (ng && decide (ds = [48])) || (dv && !decOk us)
def rpNum (ng : Bool) (ds : List UInt8) : Int := if ng then -((pval ds : Nat) : Int) else ((pval ds : Nat) : Int)
def rpDen (us : List UInt8) (dv : Bool) : Nat := if dv then pval us else 1
def rpCode' (ng : Bool) (ds us : List UInt8) (dv : Bool) : Nat := if rpBad ng ds us dv then 6 else if rpDen us dv = 0 then 3 else 0
/-- The code that Parse returns, and the fraction. -/
def rpCode (bs : List UInt8) : Nat := if 8192 < bs.length then 5 else rpCode' (isNeg (rpTop bs)) (strip (rpTop bs)) (rpBot bs) (rpDiv bs)
def rpVal (bs : List UInt8) : Rat := Rat.divInt (rpNum (isNeg (rpTop bs)) (strip (rpTop bs))) (rpDen (rpBot bs) (rpDiv bs) : Int)
theorem decOk_good {ds : List UInt8} (h : decOk ds = true) : ∀ c ∈ ds, good c := by
  unfold decOk at h
  rw [decide_eq_true_eq] at h
  exact h.2.2
theorem rpBad_ok {ng dv : Bool} {ds us : List UInt8} (h : rpBad ng ds us dv = false) : (∀ c ∈ ds, good c) ∧ (dv = true → ∀ c ∈ us, good c) := by
  unfold rpBad at h
  simp only [Bool.or_eq_false_iff, Bool.not_eq_false', Bool.and_eq_false_iff] at h
  refine ⟨decOk_good h.1.1, fun hd => ?_⟩
  rcases h.2 with h | h
  · rw [hd] at h; cases h
  · exact decOk_good h
/-- What a call that may refuse returns: the fraction, or the struct of zeros. -/
def RatC (w : World) (X : Nat → Prop) (v : Value) (c : Nat) (q : Rat) : Prop := match c with
  | 0 => RatV w X v q
  | _ + 1 => v = .agg #[.bool false, .slice none 0 0, .bool false, .slice none 0 0]

set_option maxHeartbeats 4000000 in
theorem ratparse_any (w : World) (bs : List UInt8) (hbs : bs.length ≤ 1000000) :
    Calls Try.prog 22 #[str bs] w fun e w' => ∃ v', e = .returned (.tuple #[v', .int .i64 (rpCode bs : Nat)]) ∧ RatC w' (Old w) v' (rpCode bs) (rpVal bs) ∧ Below w.heap.size w w' := by
  have L := made1 w #[.bool false, .slice none 0 0, .bool false, .slice none 0 0] 27
  by_cases hl : 8192 < bs.length
  · have HC : Hid (rpCode bs = 5) := by show _ = _; unfold rpCode; rw [if_pos hl]
    obtain ⟨e1, f1, -⟩ := L.all (w' := w.alloc (.cells #[.bool false, .slice none 0 0, .bool false, .slice none 0 0] 27))
    go_enter Try.func22, Try.ntmps22
    go_wp2_with fail
    refine bodyPost_ret (by simp [results, Try.results22, go_sem, e1, f1] <;> rfl) rfl ⟨_, by rw [HC.out]; rfl, by rw [HC.out]; rfl, bel⟩
  · have HC : Hid (rpCode bs = rpCode' (isNeg (rpTop bs)) (strip (rpTop bs)) (rpBot bs) (rpDiv bs)) := by show _ = _; unfold rpCode; rw [if_neg hl]
    have HV : Hid (rpVal bs = Rat.divInt (rpNum (isNeg (rpTop bs)) (strip (rpTop bs))) (rpDen (rpBot bs) (rpDiv bs) : Int)) := rfl
    have hcut := fun w => ratcut_any w bs (by omega)
    have ltop : (rpTop bs).length ≤ 8192 := by unfold rpTop; rw [List.length_take]; omega
    have lbot : (rpBot bs).length ≤ 8192 := by unfold rpBot; rw [List.length_drop]; omega
    have lst := strip_len (rpTop bs)
    change ∀ w, Calls Try.prog 71 #[str bs] w fun e w' => e = .returned (.tuple #[str (rpTop bs), str (rpBot bs), .bool (rpDiv bs)]) ∧ ∃ n, w' = w.drewN n at hcut
    obtain ⟨code, hcode⟩ : ∃ c, rpCode bs = c := ⟨_, rfl⟩
    obtain ⟨q, hq⟩ : ∃ q, rpVal bs = q := ⟨_, rfl⟩
    rw [hcode, hq]
    rw [hcode] at HC
    rw [hq] at HV
    clear hcode hq
    generalize rpTop bs = top at *
    generalize rpBot bs = us at *
    generalize rpDiv bs = dv at *
    have HCUT := Lib.hid hcut
    clear hcut
    go_enter Try.func22, Try.ntmps22
    go_wp2_with fail
    refine (HCUT.out _).mono ?_
    rintro e w1 ⟨rfl, nd, rfl⟩
    go_upto_region 4 with fail
    go_cut [7] (fun d W => d = .bool (isNeg top) ∧ Loc W w.heap.size 27 #[.bool false, .slice none 0 0, .bool false, .slice none 0 0] ∧ Below w.heap.size w W)
    case first =>
      cases hng : isNeg top with
      | true =>
        have HNG := Lib.hid hng
        have hl0 := isNeg_len hng
        have hc0 : ∀ h : 0 < top.length, ((((((({ data := top.toArray } : ByteArray)[0]'h).toNat : Nat) : Int)) == 45)) = true := fun h => by
          rw [beq_iff_eq]
          show ((top[0].toNat : Nat) : Int) = 45
          cases top with
          | nil => cases hng
          | cons a tl => rw [isNeg_cons] at hng; simp at hng; rw [List.getElem_cons_zero, hng]; rfl
        clear hng
        go_wp2_with fail
        go_meet
        exact ⟨by rw [HNG.out], Loc.to L, bel⟩
      | false =>
        have HNG := Lib.hid hng
        by_cases hl0 : 0 < top.length
        · have hc0 : ∀ h : 0 < top.length, ((((((({ data := top.toArray } : ByteArray)[0]'h).toNat : Nat) : Int)) == 45)) = false := fun h => by
            rw [beq_eq_false_iff_ne]
            show ((top[0].toNat : Nat) : Int) ≠ 45
            cases top with
            | nil => simp at h
            | cons a tl =>
              rw [isNeg_cons] at hng
              simp at hng
              rw [List.getElem_cons_zero]
              intro e
              apply hng
              apply UInt8.toNat_inj.1
              have h48 : (45 : UInt8).toNat = 45 := rfl
              omega
          clear hng
          go_wp2_with fail
          go_meet
          exact ⟨by rw [HNG.out], Loc.to L, bel⟩
        · clear hng
          go_wp2_with fail
          go_meet
          exact ⟨by rw [HNG.out], Loc.to L, bel⟩
    case rest =>
      obtain ⟨rfl, L1, hB⟩ := hcut
      have y0 := hB.size; (try simp only [World.size_alloc, size_set, size_drew, size_drewN] at y0)
      obtain ⟨ng, hng⟩ : ∃ ng, isNeg top = ng := ⟨_, rfl⟩
      rw [hng]
      rw [hng] at HC HV
      have HNG := Lib.hid hng
      clear hng
      obtain ⟨wd, rfl⟩ : ∃ wd : World, wd = wc := ⟨_, rfl⟩
      go_upto_if 28 with fail
      go_cut [4] (fun a W => a = str (strip top) ∧ W = wd)
      case first =>
        cases ng with
        | true =>
          have hl0 := isNeg_len HNG.out
          have HS := Lib.hid (strip_neg HNG.out)
          have E1 := Lib.hid (str_drop top 1)
          go_wp2_with fail
          go_meet
          exact ⟨by rw [HS.out]; exact E1.out, rfl⟩
        | false =>
          have HS := Lib.hid (strip_pos HNG.out)
          go_wp2_with fail
          go_meet
          exact ⟨by rw [HS.out], rfl⟩
      case rest =>
        obtain ⟨rfl, rfl⟩ := hcut
        have lds : (strip top).length ≤ 8192 := by omega
        generalize strip top = ds at *
        clear L
        obtain ⟨e1, f1, -⟩ := Loc.all L1 (w' := wc)
        obtain ⟨d1, hd1⟩ : ∃ d, decOk ds = d := ⟨_, rfl⟩
        obtain ⟨d2, hd2⟩ : ∃ d, decOk us = d := ⟨_, rfl⟩
        have HD1 := Lib.hid hd1
        have HD2 := Lib.hid hd2
        clear hd1 hd2
        obtain ⟨s48, hs48⟩ : ∃ s, (ds == [48]) = s := ⟨_, rfl⟩
        have H48 : Hid (decide (ds = [48]) = s48) := by rw [← hs48]; show _ = _; rw [Bool.eq_iff_iff]; simp
        obtain ⟨bad, hbad⟩ : ∃ b, rpBad ng ds us dv = b := ⟨_, rfl⟩
        have HB := Lib.hid hbad
        clear hbad
        obtain ⟨wd, rfl⟩ : ∃ wd : World, wd = wc := ⟨_, rfl⟩
        go_upto_region 7 with fail
        go_cut [48] (fun a W => a = .bool bad ∧ W = wd)
        case first =>
          have hb := HB.out
          unfold rpBad at hb
          rw [HD1.out, HD2.out, H48.out] at hb
          cases d1
          · go_wp2_with fail
            refine (decimal_any _ ds (by omega)).mono ?_
            rintro e w' ⟨he, rfl⟩
            rw [HD1.out] at he
            subst he
            have hb : true = bad := by rw [← hb]; rfl
            subst hb
            go_wp2_with fail
            go_meet
            exact ⟨rfl, rfl⟩
          · cases ng
            · cases dv
              · have hb : false = bad := by rw [← hb]; rfl
                subst hb
                go_wp2_with fail
                refine (decimal_any _ ds (by omega)).mono ?_
                rintro e w' ⟨he, rfl⟩
                rw [HD1.out] at he
                subst he
                go_wp2_with fail
                go_meet
                exact ⟨rfl, rfl⟩
              · have hb : (!d2) = bad := by rw [← hb]; cases d2 <;> rfl
                subst hb
                go_wp2_with fail
                refine (decimal_any _ ds (by omega)).mono ?_
                rintro e w' ⟨he, rfl⟩
                rw [HD1.out] at he
                subst he
                go_wp2_with fail
                refine (decimal_any _ us (by omega)).mono ?_
                rintro e w' ⟨he, rfl⟩
                rw [HD2.out] at he
                subst he
                go_wp2_with fail
                go_meet
                exact ⟨rfl, rfl⟩
            · cases s48
              · cases dv
                · have hb : false = bad := by rw [← hb]; rfl
                  subst hb
                  go_wp2_with fail
                  refine (decimal_any _ ds (by omega)).mono ?_
                  rintro e w' ⟨he, rfl⟩
                  rw [HD1.out] at he
                  subst he
                  go_wp2_with fail
                  go_meet
                  exact ⟨rfl, rfl⟩
                · have hb : (!d2) = bad := by rw [← hb]; cases d2 <;> rfl
                  subst hb
                  go_wp2_with fail
                  refine (decimal_any _ ds (by omega)).mono ?_
                  rintro e w' ⟨he, rfl⟩
                  rw [HD1.out] at he
                  subst he
                  go_wp2_with fail
                  refine (decimal_any _ us (by omega)).mono ?_
                  rintro e w' ⟨he, rfl⟩
                  rw [HD2.out] at he
                  subst he
                  go_wp2_with fail
                  go_meet
                  exact ⟨rfl, rfl⟩
              · have hb : true = bad := by rw [← hb]; rfl
                subst hb
                go_wp2_with fail
                refine (decimal_any _ ds (by omega)).mono ?_
                rintro e w' ⟨he, rfl⟩
                rw [HD1.out] at he
                subst he
                go_wp2_with fail
                go_meet
                exact ⟨rfl, rfl⟩
        case rest =>
          obtain ⟨rfl, rfl⟩ := hcut
          cases bad
          · obtain ⟨hgd, hgu⟩ := rpBad_ok HB.out
            have HGD := Lib.hid hgd
            have HGU := Lib.hid hgu
            have HC2 : Hid (code = if rpDen us dv = 0 then 3 else 0) := by show _ = _; rw [HC.out]; unfold rpCode'; rw [HB.out]; rfl
            have HPD : Hid ((dig ((pval ds : Nat) : Int).natAbs).length ≤ 8192) := by rw [Int.natAbs_natCast]; exact Nat.le_trans (pval_len _ hgd) lds
            clear hgd hgu e1 f1 hs48
            go_wp2_with fail
            refine (whole_any _ ds lds HGD.out).mono ?_
            rintro e w1 ⟨v1, rfl, i1, hb1⟩
            obtain ⟨b1, A1, m1, c1, rfl, i1⟩ := i1.op
            have y1 := hb1.size; (try simp only [World.size_alloc, size_set, size_drew, size_drewN] at y1)
            go_wp2_with fail
            refine (of_any _ 1 (by decide) (by decide)).mono ?_
            rintro e w2 ⟨v2, rfl, i2, hb2⟩
            obtain ⟨b2, A2, m2, c2, rfl, i2⟩ := i2.op
            have y2 := hb2.size; (try simp only [World.size_alloc, size_set, size_drew, size_drewN] at y2)
            have M1 := made1 w2 #[.bool b1, .slice A1 m1 c1] 24
            have M2 := made2 w2 (.cells #[.bool b1, .slice A1 m1 c1] 24) #[.bool b2, .slice A2 m2 c2] 24
            have q1 := Loc.lt L1
            go_upto_if 53 with fail
            go_cut [55] (fun _ W => ∃ (b : Bool) (A : Option Addr) (m c : Nat), Loc W w2.heap.size 24 #[.bool b, .slice A m c] ∧ Loc W (w2.heap.size + 1) 24 #[.bool b2, .slice A2 m2 c2] ∧ Loc W w.heap.size 27 #[.bool false, .slice none 0 0, .bool false, .slice none 0 0] ∧
              IntV W (fun b => w.heap.size = b ∨ w2.heap.size = b ∨ w2.heap.size + 1 = b) (.agg #[.bool b, .slice A m c]) (rpNum ng ds) ∧ IntV W (fun b => w.heap.size = b ∨ w2.heap.size = b ∨ w2.heap.size + 1 = b) (.agg #[.bool b2, .slice A2 m2 c2]) 1 ∧ Below w.heap.size w W)
            case first =>
              cases ng
              · go_wp2_with fail
                go_meet
                exact ⟨_, _, _, _, Loc.to M1, M2, Loc.to L1, IntV.out i1, IntV.out i2, bel⟩
              · go_wp2_with fail
                refine (neg_any _ (fun _ => False) _ _ _ i1.to (Nat.le_trans HPD.out (by omega))).mono ?_
                rintro e w3 ⟨v3, rfl, i3, hb3⟩
                rw [sv_dig] at i3
                obtain ⟨b3, A3, m3, c3, rfl, i3⟩ := i3.op
                have y3 := hb3.size; (try simp only [World.size_alloc, size_set, size_drew, size_drewN] at y3)
                obtain ⟨e3, f3, -⟩ := Loc.all M1 (w' := w3)
                go_wp2_with fail
                go_meet
                exact ⟨_, _, _, _, Loc.fill2 (Loc.to M1 (w' := w3)), Loc.to M2, Loc.to L1, IntV.out i3, IntV.out i2, bel⟩
            case rest =>
              clear i1 i2 hb1 hb2 M1 M2
              obtain ⟨b, A, m, c, M1, M2, L2, i1, i2, hB2⟩ := hcut
              have HPN : Hid ((dig (rpNum ng ds).natAbs).length ≤ 8192) := by
                have := HPD.out
                unfold rpNum
                split
                · rw [Int.natAbs_neg]; exact this
                · exact this
              obtain ⟨we, rfl⟩ : ∃ we : World, we = wc := ⟨_, rfl⟩
              have y5 := hB2.size; (try simp only [World.size_alloc, size_set, size_drew, size_drewN] at y5)
              have q2 := Loc.lt M1
              have q3 := Loc.lt M2
              have q4 := Loc.lt L2
              go_upto_if 56 with fail
              go_cut [58] (fun _ W => ∃ (b' : Bool) (A' : Option Addr) (m' c' : Nat), Loc W w2.heap.size 24 #[.bool b, .slice A m c] ∧ Loc W (w2.heap.size + 1) 24 #[.bool b', .slice A' m' c'] ∧ Loc W w.heap.size 27 #[.bool false, .slice none 0 0, .bool false, .slice none 0 0] ∧
                IntV W (fun b => w.heap.size = b) (.agg #[.bool b, .slice A m c]) (rpNum ng ds) ∧ IntV W (fun b => w.heap.size = b) (.agg #[.bool b', .slice A' m' c']) (rpDen us dv : Int) ∧ Below w.heap.size w W)
              case first =>
                cases dv
                · go_wp2_with fail
                  go_meet
                  exact ⟨_, _, _, _, M1, M2, L2, IntV.out i1, IntV.out i2, hB2⟩
                · go_wp2_with fail
                  refine (whole_any _ us (by omega) (HGU.out (by trivial))).mono ?_
                  rintro e w3 ⟨v3, rfl, i3, hb3⟩
                  obtain ⟨b3, A3, m3, c3, rfl, i3⟩ := i3.op
                  have y6 := hb3.size; (try simp only [World.size_alloc, size_set, size_drew, size_drewN] at y6)
                  obtain ⟨e3, f3, -⟩ := Loc.all M2 (w' := w3)
                  go_wp2_with fail
                  go_meet
                  exact ⟨_, _, _, _, Loc.to M1, Loc.fill2 (Loc.to M2 (w' := w3)), Loc.to L2, IntV.out i1, IntV.out i3, bel⟩
              case rest =>
                have HPU : Hid ((dig ((rpDen us dv : Nat) : Int).natAbs).length ≤ 8192) := by
                  rw [Int.natAbs_natCast]
                  unfold rpDen
                  split
                  · rename_i h; exact Nat.le_trans (pval_len _ (HGU.out h)) (by omega)
                  · exact Nat.le_trans dig_one_len (by omega)
                clear i1 i2 M1 M2 hB2 L2 q2 q3 q4
                obtain ⟨b', A', m', c', M1, M2, L2, i1, i2, hB2⟩ := hcut
                obtain ⟨e3, f3, -⟩ := Loc.all M1 (w' := wc)
                obtain ⟨e4, f4, -⟩ := Loc.all M2 (w' := wc)
                have y7 := hB2.size; (try simp only [World.size_alloc, size_set, size_drew, size_drewN] at y7)
                have q5 := Loc.lt L2
                by_cases hz : rpDen us dv = 0
                · have hc : code = 3 := by rw [HC2.out, if_pos hz]
                  subst hc
                  have HZ := Lib.hid hz
                  clear hz
                  go_wp2_with fail
                  refine (new_zero _ (fun _ => False) _ _ _ _ _ _ i1.to i2.to (by rw [val_dig, HZ.out]; rfl)).mono ?_
                  rintro e w3 ⟨rfl, hb3⟩
                  have y8 := hb3.size; (try simp only [World.size_alloc, size_set, size_drew, size_drewN] at y8)
                  obtain ⟨e5, f5, -⟩ := Loc.all L2 (w' := w3)
                  go_wp2_with fail
                  refine bodyPost_ret (by simp [results, Try.results22, go_sem, e5, f5] <;> rfl) rfl ⟨_, rfl, rfl, bel⟩
                · have hc : code = 0 := by rw [HC2.out, if_neg hz]
                  subst hc
                  have HZ : Hid (val (dig ((rpDen us dv : Nat) : Int).natAbs) ≠ 0) := by show _ ≠ _; rw [val_dig, Int.natAbs_natCast]; exact hz
                  clear hz
                  go_wp2_with fail
                  refine (new_any _ (fun _ => False) _ _ _ _ _ _ i1.to i2.to HZ.out (Nat.le_trans HPN.out (by omega)) (Nat.le_trans HPU.out (by omega))).mono ?_
                  rintro e w3 ⟨v3, rfl, h3, hb3⟩
                  rw [sv_dig, sv_dig, ← HV.out] at h3
                  obtain ⟨b3, A3, m3, c3, b3', A3', m3', c3', rfl, h3, -, -⟩ := h3.op
                  have y8 := hb3.size; (try simp only [World.size_alloc, size_set, size_drew, size_drewN] at y8)
                  obtain ⟨e5, f5, -⟩ := Loc.all L2 (w' := w3)
                  go_wp2_with fail
                  refine bodyPost_ret (by simp [results, Try.results22, go_sem, e5, f5] <;> rfl) rfl ⟨_, rfl, ?_, bel⟩
                  show RatV _ _ _ _
                  exact h3.out
          · have hc : code = 6 := by rw [HC.out]; unfold rpCode'; rw [HB.out]; rfl
            subst hc
            go_wp2_with fail
            refine bodyPost_ret (by simp [results, Try.results22, go_sem, e1, f1] <;> rfl) rfl ⟨_, rfl, rfl, bel⟩
end Go.Proofs.Ytooheapikhdllaa

/- Text of the reference. -/
namespace Go.Proofs.Ytooheapikhdllaa
open Go.RowKit
attribute [local go_sem ↓] Go.wp_at_zero Go.wp_at_succ

theorem wordAt_dig {n : Nat} (h : n < 4294967296) : wordAt (dig n) 0 = n := by
  by_cases h0 : n = 0
  · subst h0; rw [dig_zero]; rfl
  · rw [dig_pos h0]
    show n % 4294967296 = n
    omega
theorem can_ten : Can [10] := ⟨by simp [Ws], fun _ => by simp⟩
theorem chars_push (ds : List Nat) (d : Nat) : bytesOf (chars (ds ++ [d])).reverse = UInt8.ofNat (48 + d) :: bytesOf (chars ds).reverse := by
  simp [chars, bytesOf]

theorem decR_len {k n : Nat} (h : n < 10 ^ k) : (decR n).length ≤ k := by
  induction k generalizing n with
  | zero => rw [(by omega : n = 0), decR_zero]; simp
  | succ k ih =>
    by_cases h0 : n = 0
    · subst h0; rw [decR_zero]; simp
    · rw [decR_pos h0, List.length_cons]
      have := ih (n := n / 10) (by rw [Nat.pow_succ] at h; omega)
      omega
theorem decR_val_len {xs : List Nat} (h : Ws xs) : (decR (val xs)).length ≤ 10 * xs.length := by
  refine decR_len (Nat.lt_of_lt_of_le (val_lt h) ?_)
  rw [Nat.pow_mul]
  exact Nat.pow_le_pow_left (by omega) _

theorem digit_front (d : Nat) (bs : List UInt8) (h : d < 10) : (({ data := #[48, 49, 50, 51, 52, 53, 54, 55, 56, 57] } : ByteArray).extract d (d + 1) ++ { data := bs.toArray } : ByteArray) = ⟨(UInt8.ofNat (48 + d) :: bs).toArray⟩ := by
  have e : (({ data := #[48, 49, 50, 51, 52, 53, 54, 55, 56, 57] } : ByteArray).extract d (d + 1)) = ⟨#[UInt8.ofNat (48 + d)]⟩ := by
    rcases (by omega : d = 0 ∨ d = 1 ∨ d = 2 ∨ d = 3 ∨ d = 4 ∨ d = 5 ∨ d = 6 ∨ d = 7 ∨ d = 8 ∨ d = 9) with rfl | rfl | rfl | rfl | rfl | rfl | rfl | rfl | rfl | rfl <;> rfl
  rw [e]
  apply ByteArray.ext
  simp [ByteArray.data_append]

theorem byte_front (b : UInt8) (bs : List UInt8) : ({ data := #[b] } ++ { data := bs.toArray } : ByteArray) = ⟨(b :: bs).toArray⟩ := by
  apply ByteArray.ext
  simp [ByteArray.data_append]

/-- The length of a string value. -/
def strLen : Value → Nat
  | .string b => b.size
  | _ => 0

set_option maxHeartbeats 2000000 in
theorem rtext_any (w : World) (X : Nat → Prop) (v : Value) (neg : Bool) (xs : List Nat) (h : IntR w X v neg xs) (hsz : xs.length ≤ 1000000000) :
    Calls Try.prog 74 #[v] w fun e w' => e = .returned (.string ⟨(textB (sv neg xs)).toArray⟩) ∧ Below w.heap.size w w' := by
  obtain ⟨A, c, rfl, _, _, H⟩ := h.open_
  generalize hT : textB (sv neg xs) = T
  have HT := Lib.hid hT
  clear hT
  go_enter Try.func74, Try.ntmps74
  go_wp2_with fail
  refine (rtrim_any _ X _ xs (H.below (below1 _ _)) (by omega)).mono ?_
  rintro e w1 ⟨v1, rfl, h1, hb1⟩
  rw [trimL_dig H.2] at h1
  obtain ⟨L, hB1, _⟩ := locs1 hb1
  have cL := L.cell
  have hl1 := dig_val_len H.2
  have hz := dig_len_pos (val xs)
  by_cases hv0 : val xs = 0
  · rw [hv0, dig_zero] at h1
    obtain ⟨A1, c1, rfl, hc1, _, H1⟩ := h1.open_
    rw [List.length_nil] at *
    have ht : textB (sv neg xs) = [48] := by unfold textB; rw [if_pos (by have := sv_abs neg xs; omega)]
    rw [HT.out] at ht
    subst ht
    clear hz hv0 hl1
    go_wp2_with fail
    go_ret
    exact ⟨rfl, hB1⟩
  · obtain ⟨A1, c1, rfl, hc1, _, H1⟩ := h1.open_
    have hl0 : 0 < (dig (val xs)).length := by omega
    clear hz
    have H1' := H1.weak (Y := Old w) (fun b _ hb => by simp only [Old] at hb ⊢; simp only [World.size_alloc]; omega)
    clear H1 h1
    have hdl := decR_val_len H.2
    have hz0 : ((((dig (val xs)).length : Nat) : Int) == 0) = false := by rw [beq_eq_false_iff_ne]; omega
    go_wp2_with fail
    go_loopw [3, 4] (fun vv s wr => ∃ (n : Nat) (ds : List Nat), Words wr (Old w) vv (dig n) ∧ s = .string ⟨(bytesOf (chars ds).reverse).toArray⟩ ∧ decR (val xs) = ds ++ decR n ∧ (dig n).length ≤ xs.length ∧ Loc wr w.heap.size 24 #[.bool neg, .slice A xs.length c] ∧ Below w.heap.size w wr) (fun _ s _ => (decR (val xs)).length - strLen s)
    case atStart => exact ⟨val xs, [], H1', rfl, rfl, hl1, L, hB1⟩
    case round =>
      obtain ⟨n, ds, hn, rfl, hdec, hnl, hL, hbr⟩ := hrel
      have hdsl : ds.length ≤ 10 * xs.length := by
        have e := congrArg List.length hdec
        rw [List.length_append] at e
        omega
      have HDEC := Lib.hid hdec
      clear hdec
      have hzn := dig_len_pos n
      by_cases hn0 : n = 0
      · clear hzn
        rw [hn0, decR_zero, List.append_nil] at HDEC
        rw [hn0, dig_zero] at hn
        obtain ⟨A2, c2, rfl, _, _, H2⟩ := hn.open_
        rw [List.length_nil] at *
        clear hn0 hnl
        have cL2 := hL.cell
        cases neg
        · have ht : textB (sv false xs) = bytesOf (chars ds).reverse := by
            rw [show sv false xs = ((val xs : Nat) : Int) from rfl, textB_pos _ (by omega), HDEC.out]
          rw [HT.out] at ht
          have HTT := Lib.hid ht
          clear ht
          go_wp2_with fail
          go_ret
          exact ⟨by rw [HTT.out]; rfl, hbr⟩
        · have ht : textB (sv true xs) = 45 :: bytesOf (chars ds).reverse := by
            rw [show sv true xs = -((val xs : Nat) : Int) from rfl, textB_neg _ (by omega), HDEC.out, List.reverse_append]
            rfl
          rw [HT.out] at ht
          have HTT := Lib.hid ht
          clear ht
          have hbl : ¬ (9223372036854775807 < 1 + ds.length) := by omega
          go_wp2_with fail
          go_ret
          exact ⟨by rw [HTT.out, ← byte_front]; rfl, hbr⟩
      · obtain ⟨A2, c2, rfl, _, _, H2⟩ := hn.open_
        have hl2 : 0 < (dig n).length := by omega
        clear hzn
        go_wp2_with fail
        refine (divWords_any _ (fun _ => False) _ _ (dig n) [10] ((H2.below (below1 _ _)).weak (fun _ _ h => h.elim)) (Words.lit [10] (Loc.new _ _ _) (by simp) (fun h => h) (by unfold maxLen; simp)) can_ten (by simp) (by simp only [List.length_singleton]; omega)).mono ?_
        rintro e w2 ⟨q, r, rfl, hq, hr, hb2⟩
        rw [val_dig, (show val [10] = 10 from rfl)] at hq hr
        go_wp2_with fail
        refine (word_any _ _ _ _ 0 hr).mono ?_
        rintro e w3 ⟨rfl, rfl⟩
        rw [wordAt_dig (by omega)]
        have hd10 : n % 10 < 10 := by omega
        go_wp2_with fail
        go_roundw
        case rel =>
          refine ⟨n / 10, ds ++ [n % 10], hq.weak (fun b _ hb => by simp only [Old] at hb ⊢; have := hbr.size; simp only [World.size_alloc]; omega), ?_, ?_, ?_, hL.below ((below1 _ _).trans (hb2.mono (by simp))), hbr.trans (((below1 _ _).trans (hb2.mono (by simp))).mono hbr.size)⟩
          · rw [chars_push, digit_front _ _ hd10]
          · rw [HDEC.out, decR_pos hn0]; simp
          · exact Nat.le_trans (dig_len_mono (Nat.div_le_self _ _)) hnl
        case measure =>
          have e := congrArg List.length HDEC.out
          rw [decR_pos hn0, List.length_append, List.length_cons] at e
          have h1 : ∀ b : ByteArray, strLen (.string b) = b.size := fun _ => rfl
          rw [digit_front _ _ hd10]
          simp only [strLen]
          simp [ByteArray.size, chars]
          omega
end Go.Proofs.Ytooheapikhdllaa

/- Text of both. -/
namespace Go.Proofs.Ytooheapikhdllaa
open Go.RowKit
attribute [local go_sem ↓] Go.wp_at_zero Go.wp_at_succ

/-- The text of a fraction. -/
def textR (q : Rat) : List UInt8 := if q.den = 1 then textB q.num else textB q.num ++ 47 :: textB (q.den : Int)
theorem textB_len (z : Int) : (textB z).length ≤ 10 * (dig z.natAbs).length + 2 := by
  rcases (by omega : z = 0 ∨ 0 < z ∨ z < 0) with rfl | hz | hz
  · decide
  · obtain ⟨n, rfl⟩ : ∃ n : Nat, z = (n : Int) := ⟨z.natAbs, by omega⟩
    have h := decR_val_len (ws_dig n)
    rw [val_dig] at h
    rw [textB_pos n (by omega), Int.natAbs_natCast, bytesOf_length, List.length_reverse, chars_length]
    omega
  · obtain ⟨n, rfl⟩ : ∃ n : Nat, z = -(n : Int) := ⟨z.natAbs, by omega⟩
    have h := decR_val_len (ws_dig n)
    rw [val_dig] at h
    rw [textB_neg n (by omega), Int.natAbs_neg, Int.natAbs_natCast, bytesOf_length, List.length_reverse, List.length_append, chars_length]
    simp only [List.length_cons, List.length_nil]
    omega
theorem bytes_app (a b : List UInt8) : (⟨a.toArray⟩ : ByteArray) ++ (⟨b.toArray⟩ : ByteArray) = ⟨(a ++ b).toArray⟩ := by
  apply ByteArray.ext
  rw [ByteArray.data_append]
  simp
theorem dig_one_I : (dig (1 : Int).natAbs).length ≤ 1 := dig_one_len

set_option maxHeartbeats 4000000 in
theorem text_rat (w : World) (X : Nat → Prop) (v : Value) (q : Rat) (h : RatL 100000000 w X v q) :
    Calls Try.prog 21 #[v] w fun e w' => e = .returned (.string ⟨(textR q).toArray⟩) ∧ Below w.heap.size w w' := by
  have HR := Lib.hid (h.rsz (by omega))
  obtain ⟨n1, A, m, c, n2, B, m', d, rfl, h, -⟩ := h.op
  have HT : Hid (textR q = if q.den = 1 then textB q.num else textB q.num ++ 47 :: textB (q.den : Int)) := rfl
  obtain ⟨t, ht⟩ : ∃ t, textR q = t := ⟨_, rfl⟩
  rw [ht]
  rw [ht] at HT
  clear ht
  have L0 := made1 w #[.bool n1, .slice A m c, .bool n2, .slice B m' d] 27
  go_enter Try.func21, Try.ntmps21
  go_wp2_with fail
  refine (clean_rat _ (fun _ => False) _ q h.to).mono ?_
  rintro e w1 ⟨v1, rfl, h1, hb1⟩
  obtain ⟨b2, A2, m2, c2, b3, A3, m3, c3, rfl, h1, j1, j2⟩ := h1.op
  have z1 := sz1 hb1
  obtain ⟨e4, g4, -⟩ := L0.all (w' := w1)
  have L1 := Loc.fill4 (u := .bool b2) (v := .slice A2 m2 c2) (x := .bool b3) (y := .slice A3 m3 c3) (L0.to (w' := w1))
  go_wp2_with fail
  refine (text_V _ (fun _ => False) _ _ j1.to (Nat.le_trans HR.out.1 (by omega))).mono ?_
  rintro e w2 ⟨rfl, hb2⟩
  have y2 := hb2.size; (try simp only [World.size_alloc, size_set, size_drew, size_drewN] at y2)
  clear e4 g4
  have hcmp : Hid ((sv (decide ((q.den : Int) < 0)) (dig ((q.den : Nat) : Int).natAbs) - sv (decide ((1 : Int) < 0)) (dig (1 : Int).natAbs)).sign = ((q.den : Int) - 1).sign) := by show _ = _; rw [sv_dig, sv_dig]
  go_wp2_with fail
  go_region_held3 (fun W => W.cell? ⟨w.heap.size, 2, none⟩ = some (.bool b3) ∧ W.cell? ⟨w.heap.size, 3, none⟩ = some (.slice A3 m3 c3))
    (exact ⟨Loc.c 2 L1, Loc.c 3 L1⟩)
    (first
      | (go_at_call 67; refine (of_any _ 1 (by decide) (by decide)).mono ?_; rintro e u1 ⟨v5, rfl, h5, hb5⟩; obtain ⟨b5, A5, m5, k5, rfl, h5⟩ := h5.op; have y5 := hb5.size; (try simp only [World.size_alloc, size_set, size_drew, size_drewN] at y5))
      | (go_at_call 70; refine (icompare_any _ (fun _ => False) _ _ _ _ _ _ j2.to h5.to).mono ?_; rintro e u2 ⟨he, hb6⟩; rw [hcmp.out] at he; obtain ⟨sg, hsg⟩ : ∃ s, ((q.den : Int) - 1).sign = s := ⟨_, rfl⟩; rw [hsg] at he; have HSG := Lib.hid hsg; clear hsg; subst he; have y6 := hb6.size; (try simp only [World.size_alloc, size_set, size_drew, size_drewN] at y6)))
  all_goals
    by_cases hd : q.den = 1
    · have hs : sg = 0 := by rw [← HSG.out, hd]; rfl
      subst hs
      have ht := HT.out
      rw [if_pos hd] at ht
      subst ht
      clear hd
      go_wp2_with fail
      go_ret
      exact ⟨rfl, bel⟩
    · have hs : (sg != 0) = true := by
        rw [bne_iff_ne, ← HSG.out]
        intro e
        have := Int.sign_eq_zero_iff_zero.1 e
        omega
      have HT2 := Lib.hid HT.out
      have HD := Lib.hid hd
      clear hd
      have hl1 : (textB q.num).length ≤ 2000000000 := by have := textB_len q.num; have := HR.out.1; omega
      have hl2 : (textB (q.den : Int)).length ≤ 2000000000 := by have := textB_len (q.den : Int); have := HR.out.2; omega
      obtain ⟨e7, g7, -⟩ := Loc.all L1 (w' := u2)
      go_wp2_with fail
      refine (text_V _ (fun _ => False) _ _ j2.to (Nat.le_trans HR.out.2 (by omega))).mono ?_
      rintro e w4 ⟨rfl, hb7⟩
      have y7 := hb7.size; (try simp only [World.size_alloc, size_set, size_drew, size_drewN] at y7)
      go_wp2_with fail
      go_ret
      refine ⟨?_, bel⟩
      have ht := HT.out
      rw [if_neg HD.out] at ht
      rw [ht]
      show Ending.returned (Value.string ((⟨(textB q.num).toArray⟩ : ByteArray) ++ ((⟨([47] : List UInt8).toArray⟩ : ByteArray) ++ (⟨(textB (q.den : Int)).toArray⟩ : ByteArray)))) = _
      rw [bytes_app, bytes_app]
      rfl

set_option maxHeartbeats 4000000 in
theorem rtext_rat (w : World) (X : Nat → Prop) (v : Value) (q : Rat) (h : RatL 10000000 w X v q) :
    Calls Try.prog 23 #[v] w fun e w' => e = .returned (.string ⟨(textR q).toArray⟩) ∧ Below w.heap.size w w' := by
  have HR := Lib.hid (h.rsz (by omega))
  obtain ⟨n1, A, m, c, n2, B, m', d, rfl, h, -⟩ := h.op
  have HT : Hid (textR q = if q.den = 1 then textB q.num else textB q.num ++ 47 :: textB (q.den : Int)) := rfl
  obtain ⟨t, ht⟩ : ∃ t, textR q = t := ⟨_, rfl⟩
  rw [ht]
  rw [ht] at HT
  clear ht
  go_enter Try.func23, Try.ntmps23
  go_wp2_with fail
  refine (rclean_rat _ (fun _ => False) _ q h.to).mono ?_
  rintro e w1 ⟨v1, rfl, h1, hb1⟩
  obtain ⟨b2, A2, m2, c2, b3, A3, m3, c3, rfl, h1, j1, j2⟩ := h1.op
  have z1 := sz1 hb1
  have L1 := made1 w1 #[.bool b2, .slice A2 m2 c2, .bool b3, .slice A3 m3 c3] 27
  go_wp2_with fail
  refine (rtext_any _ (fun _ => False) _ _ _ j1.to (Nat.le_trans HR.out.1 (by omega))).mono ?_
  rintro e w2 ⟨he, hb2⟩
  rw [sv_dig] at he
  subst he
  have y2 := hb2.size; (try simp only [World.size_alloc, size_set, size_drew, size_drewN] at y2)
  have hcmp : Hid (sameR (decide ((q.den : Int) < 0)) (dig ((q.den : Nat) : Int).natAbs) (decide ((1 : Int) < 0)) (dig (1 : Int).natAbs) = decide ((q.den : Int) = 1)) := sameR_V _ _
  go_wp2_with fail
  go_region_held3 (fun W => W.cell? ⟨w1.heap.size, 2, none⟩ = some (.bool b3) ∧ W.cell? ⟨w1.heap.size, 3, none⟩ = some (.slice A3 m3 c3))
    (exact ⟨Loc.c 2 L1, Loc.c 3 L1⟩)
    (first
      | (go_at_call 68; refine (rsmallI _ 1 (by decide) (by decide)).mono ?_; rintro e u1 ⟨v5, rfl, h5, hb5⟩; obtain ⟨b5, A5, m5, k5, rfl, h5⟩ := h5.op; have y5 := hb5.size; (try simp only [World.size_alloc, size_set, size_drew, size_drewN] at y5))
      | (go_at_call 66; refine (rsameInt_any _ (fun _ => False) _ _ _ _ _ _ j2.to h5.to).mono ?_; rintro e u2 ⟨he, hb6⟩; rw [hcmp.out] at he; obtain ⟨sg, hsg⟩ : ∃ s, decide ((q.den : Int) = 1) = s := ⟨_, rfl⟩; rw [hsg] at he; have HSG := Lib.hid hsg; clear hsg; subst he; have y6 := hb6.size; (try simp only [World.size_alloc, size_set, size_drew, size_drewN] at y6)))
  all_goals
    by_cases hd : q.den = 1
    · have hs : true = sg := by rw [← HSG.out, hd]; rfl
      subst hs
      have ht := HT.out
      rw [if_pos hd] at ht
      subst ht
      clear hd
      go_wp2_with fail
      go_ret
      exact ⟨rfl, bel⟩
    · have hs : false = sg := by rw [← HSG.out, decide_eq_false (by omega)]
      subst hs
      have HD := Lib.hid hd
      clear hd
      have hl1 : (textB q.num).length ≤ 2000000000 := by have := textB_len q.num; have := HR.out.1; omega
      have hl2 : (textB (q.den : Int)).length ≤ 2000000000 := by have := textB_len (q.den : Int); have := HR.out.2; omega
      obtain ⟨e7, g7, -⟩ := Loc.all L1 (w' := u2)
      go_wp2_with fail
      refine (rtext_any _ (fun _ => False) _ _ _ j2.to (Nat.le_trans HR.out.2 (by omega))).mono ?_
      rintro e w4 ⟨he, hb7⟩
      rw [sv_dig] at he
      subst he
      have y7 := hb7.size; (try simp only [World.size_alloc, size_set, size_drew, size_drewN] at y7)
      go_wp2_with fail
      go_ret
      refine ⟨?_, bel⟩
      have ht := HT.out
      rw [if_neg HD.out] at ht
      rw [ht]
      show Ending.returned (Value.string (((⟨(textB q.num).toArray⟩ : ByteArray) ++ (⟨([47] : List UInt8).toArray⟩ : ByteArray)) ++ (⟨(textB (q.den : Int)).toArray⟩ : ByteArray))) = _
      rw [bytes_app, bytes_app]
      simp
end Go.Proofs.Ytooheapikhdllaa

/- rational.power, scaled. -/
namespace Go.Proofs.Ytooheapikhdllaa
open Go.RowKit
attribute [local go_sem ↓] Go.wp_at_zero Go.wp_at_succ

theorem power_val (n P : Nat) (h : P < 4294967296) : val ((List.replicate (n + 1) 0).set n P) = 4294967296 ^ n * P ∧ Ws ((List.replicate (n + 1) 0).set n P) := by
  have hl : ((List.replicate (n + 1) 0).set n P).length = n + 1 := by simp
  constructor
  · have h1 := val_take_set (List.replicate (n + 1) 0) n P (by simp)
    rw [List.take_of_length_le (by rw [hl]; exact Nat.le_refl _)] at h1
    rw [h1]
    have : val ((List.replicate (n + 1) 0).take n) = 0 := by rw [List.take_replicate]; simp [val_zeros]
    rw [this]; omega
  · intro x hx
    rcases List.mem_or_eq_of_mem_set hx with h' | h'
    · have := List.eq_of_mem_replicate h'; omega
    · omega

set_option maxHeartbeats 1000000 in
theorem power_any (w : World) (k : Nat) (hk : k ≤ 100000000000) :
    Calls Try.prog 104 #[.int .i64 (k : Nat)] w fun e w' => ∃ v' ws, e = .returned v' ∧ IntR w' (Old w) v' false ws ∧ Hid (val ws = 2 ^ k) ∧ ws.length ≤ k / 32 + 1 ∧ Below w.heap.size w w' := by
  obtain ⟨n, hn⟩ : ∃ n, n = k / 32 := ⟨_, rfl⟩
  obtain ⟨s, hs⟩ : ∃ s, s = k % 32 := ⟨_, rfl⟩
  have hs32 : s < 32 := by omega
  have hq : (k : Int) / 32 = (n : Int) := by omega
  have hr : (k : Int) % 32 = (s : Int) := by omega
  have hnk : n ≤ 100000000000 := by omega
  obtain ⟨P, hP⟩ : ∃ P, P = 2 ^ s := ⟨_, rfl⟩
  have hP2 : P ≤ 2147483648 := by rw [hP]; exact Nat.pow_le_pow_right (i := s) (j := 31) (by omega) (by omega)
  have hPi : (2 : Int) ^ s = ((P : Nat) : Int) := by rw [hP]; push_cast; rfl
  have HV : Hid (4294967296 ^ n * P = 2 ^ k) := by
    show _ = _
    have : (4294967296 : Nat) = 2 ^ 32 := by decide
    rw [hP, this, ← Nat.pow_mul, ← Nat.pow_add]
    congr 1; omega
  have HN := Lib.hid hn
  rw [← hn]
  clear hn hs hP
  go_enter Try.func104, Try.ntmps104
  go_wp2_with (at_make; refine wpList_makeN _ rfl _ _ rfl Try.underlying22 info_u32 rfl w.heap.size (n + 1) rfl rfl (by go_num) (by go_num) (by omega) (by unfold maxLen; omega) (by simp only [World.size_alloc]; omega) ?_)
  intro w1 hown hgrow
  have hb1 : Below (w.alloc (.cells #[.bool false, .slice none 0 0] 24)).heap.size (w.alloc (.cells #[.bool false, .slice none 0 0] 24)) w1 := below_none (Below.refl _ _) hgrow (Nat.le_refl _)
  rw [nums_zeros] at hown
  obtain ⟨hrow, -⟩ := Row.of_own hown
  have z1 := sz1 hb1
  have hlt := hrow.lt
  have hcell := hrow.cell (k := n) (by simp)
  rw [List.getElem_replicate] at hcell
  have hfr := hrow.frz n
  obtain ⟨e1, f1, -⟩ := (made1 w #[.bool false, .slice none 0 0] 24).all (w' := w1)
  have hrow2 := hrow.set n P
  have HPV := Lib.hid (power_val n P (by omega))
  have hX : ¬ Old w (w.heap.size + 1) := by unfold Old; omega
  have hw := hrow2.words (X := fun b => b ≤ w.heap.size) HPV.out.2 (by omega) (by simp; unfold maxLen; omega)
  simp only [List.length_set, List.length_replicate] at hw
  have HW := Lib.hid hw
  clear hw
  clear hgrow hown hrow hrow2
  go_wp2_with fail
  refine bodyPost_ret (by simp [results, Try.results104, go_sem, e1, f1] <;> rfl) rfl ⟨_, (List.replicate (n + 1) 0).set n P, rfl, ?_, ?_, by simp, bel⟩
  · exact ⟨_, rfl, (HW.out.keep (keep_set2 (X := fun b => b ≤ w.heap.size) (g := w.heap.size) (Nat.le_refl _) _ _)).weak (fun b _ hb => Nat.le_of_lt hb)⟩
  · show _ = _
    rw [HPV.out.1, HV.out]

/-- The sign that scaled answers. -/
def scl (x : Rat) (k : Int) : Int := if 0 ≤ k then (x.num - (x.den : Int) * ((2 ^ k.toNat : Nat) : Int)).sign else (x.num * ((2 ^ (-k).toNat : Nat) : Int) - (x.den : Int)).sign

set_option maxHeartbeats 4000000 in
theorem scaled_any (w : World) (X : Nat → Prop) (v : Value) (x : Rat) (k : Int) (h : RatV w X v x) (hk1 : -3200000000 ≤ k) (hk2 : k ≤ 3200000000) (hx : Rsz 10000000 x) :
    Calls Try.prog 78 #[v, .int .i64 k] w fun e w' => e = .returned (.int .i64 (scl x k)) ∧ Below w.heap.size w w' := by
  have HX := Lib.hid hx
  obtain ⟨b1, A1, m1, c1, b2, A2, m2, c2, rfl, h, i1, i2⟩ := h.op
  have L1 := made1 w #[.bool b1, .slice A1 m1 c1, .bool b2, .slice A2 m2 c2] 27
  obtain ⟨sg, hsg⟩ : ∃ s, scl x k = s := ⟨_, rfl⟩
  rw [hsg]
  have HS := Lib.hid hsg
  clear hsg hx
  by_cases hk : 0 ≤ k
  · obtain ⟨n, rfl⟩ : ∃ n : Nat, k = (n : Int) := ⟨k.toNat, by omega⟩
    have HE : Hid ((x.num - (x.den : Int) * ((2 ^ n : Nat) : Int)).sign = sg) := by rw [← HS.out]; show _ = _; unfold scl; rw [if_pos hk, Int.toNat_natCast]
    go_enter Try.func78, Try.ntmps78
    go_wp2_with fail
    go_region_held3 (fun W => (W.cell? ⟨w.heap.size, 0, none⟩ = some (.bool b1) ∧ W.cell? ⟨w.heap.size, 1, none⟩ = some (.slice A1 m1 c1)) ∧ W.cell? ⟨w.heap.size, 2, none⟩ = some (.bool b2) ∧ W.cell? ⟨w.heap.size, 3, none⟩ = some (.slice A2 m2 c2))
      (exact ⟨⟨Loc.c 0 L1, Loc.c 1 L1⟩, Loc.c 2 L1, Loc.c 3 L1⟩)
      (first
        | (go_at_call 104; refine (power_any _ n (by omega)).mono ?_; rintro e u1 ⟨v5, ws, rfl, i5, HW, hwl, hb5⟩; have HWL := Lib.hid hwl; clear hwl; obtain ⟨A5, c5, rfl, i5⟩ := i5.op; have y5 := hb5.size; (try simp only [World.size_alloc, size_set, size_drew, size_drewN] at y5))
        | (go_at_call 80; refine (mul_any _ (fun _ => False) _ _ _ _ _ _ i2.to i5.to (Nat.le_trans HX.out.2 (by omega)) (by have := HWL.out; omega)).mono ?_; rintro e u2 ⟨v6, rfl, i6, hb6⟩; rw [sv_dig, sv_false, HW.out] at i6; obtain ⟨b6, A6, m6, c6, rfl, i6⟩ := i6.op; have y6 := hb6.size; (try simp only [World.size_alloc, size_set, size_drew, size_drewN] at y6))
        | (go_at_call 70; refine (icompare_any _ (fun _ => False) _ _ _ _ _ _ i1.to i6.to).mono ?_; rintro e u3 ⟨he, hb7⟩; rw [sv_dig, sv_dig, HE.out] at he; subst he; have y7 := hb7.size; (try simp only [World.size_alloc, size_set, size_drew, size_drewN] at y7)))
    all_goals
      go_wp2_with fail
      go_ret
      exact ⟨rfl, bel⟩
  · obtain ⟨n, rfl⟩ : ∃ n : Nat, k = -(n : Int) := ⟨(-k).toNat, by omega⟩
    have HE : Hid ((x.num * ((2 ^ n : Nat) : Int) - (x.den : Int)).sign = sg) := by rw [← HS.out]; show _ = _; unfold scl; rw [if_neg hk, Int.neg_neg, Int.toNat_natCast]
    have hneg : decide (0 ≤ (n : Int)) = true := by simp
    have hn0 : 0 < (n : Int) := by omega
    have hw1 : IntKind.i64.wrap (- -(n : Int)) = (n : Int) := by rw [IntKind.wrap_i64]; omega
    have hw2 : IntKind.i64.wrap (n : Int) = (n : Int) := by rw [IntKind.wrap_i64]; omega
    go_enter Try.func78, Try.ntmps78
    go_wp2_with fail
    go_region_held3 (fun W => (W.cell? ⟨w.heap.size, 0, none⟩ = some (.bool b1) ∧ W.cell? ⟨w.heap.size, 1, none⟩ = some (.slice A1 m1 c1)) ∧ W.cell? ⟨w.heap.size, 2, none⟩ = some (.bool b2) ∧ W.cell? ⟨w.heap.size, 3, none⟩ = some (.slice A2 m2 c2))
      (exact ⟨⟨Loc.c 0 L1, Loc.c 1 L1⟩, Loc.c 2 L1, Loc.c 3 L1⟩)
      (first
        | (go_at_call 104; refine (power_any _ n (by omega)).mono ?_; rintro e u1 ⟨v5, ws, rfl, i5, HW, hwl, hb5⟩; have HWL := Lib.hid hwl; clear hwl; obtain ⟨A5, c5, rfl, i5⟩ := i5.op; have y5 := hb5.size; (try simp only [World.size_alloc, size_set, size_drew, size_drewN] at y5))
        | (go_at_call 80; refine (mul_any _ (fun _ => False) _ _ _ _ _ _ i1.to i5.to (Nat.le_trans HX.out.1 (by omega)) (by have := HWL.out; omega)).mono ?_; rintro e u2 ⟨v6, rfl, i6, hb6⟩; rw [sv_dig, sv_false, HW.out] at i6; obtain ⟨b6, A6, m6, c6, rfl, i6⟩ := i6.op; have y6 := hb6.size; (try simp only [World.size_alloc, size_set, size_drew, size_drewN] at y6))
        | (go_at_call 70; refine (icompare_any _ (fun _ => False) _ _ _ _ _ _ i6.to i2.to).mono ?_; rintro e u3 ⟨he, hb7⟩; rw [sv_dig, sv_dig, HE.out] at he; subst he; have y7 := hb7.size; (try simp only [World.size_alloc, size_set, size_drew, size_drewN] at y7)))
    all_goals
      go_wp2_with fail
      go_ret
      exact ⟨rfl, bel⟩
end Go.Proofs.Ytooheapikhdllaa

/- Binary logarithms of fractions: the plain law. -/
namespace Go.Proofs.Ytooheapikhdllaa
open Go.RowKit

theorem pow32 (k : Nat) : 4294967296 ^ k = 2 ^ (32 * k) := by rw [Nat.pow_mul]
theorem bitsW_bounds (n : Nat) (h : 0 < n) : 1 ≤ bitsW (dig n) ∧ 2 ^ (bitsW (dig n) - 1) ≤ n ∧ n < 2 ^ bitsW (dig n) ∧ bitsW (dig n) ≤ 32 * (dig n).length := by
  have hl := (dig_len_pos n).2 h
  have hc := can_dig n
  have hv := val_dig n
  generalize dig n = ws at *
  have hlt := hc.1 ws[ws.length - 1] (List.getElem_mem _)
  have hne : ws ≠ [] := List.length_pos_iff.1 hl
  have htop : ws[ws.length - 1] ≠ 0 := by rw [← List.getLast_eq_getElem hne]; exact hc.2 hne
  have hs := val_take_succ ws (ws.length - 1) (by omega)
  rw [List.take_of_length_le (by omega), hv] at hs
  have hlow := val_lt (Ws.take hc.1 (ws.length - 1))
  rw [List.length_take, Nat.min_eq_left (by omega)] at hlow
  rw [bitsW_last hl]
  generalize ws[ws.length - 1] = t at *
  obtain ⟨b1, b2, b3⟩ := bitLen_bounds t (by omega) (by omega)
  have b4 := Lib.bitLen_le t 32 (by omega) (by omega)
  generalize Lib.bitLen t = b at *
  generalize val (ws.take (ws.length - 1)) = lo at *
  obtain ⟨k, hk⟩ : ∃ k, k = ws.length - 1 := ⟨_, rfl⟩
  rw [← hk] at hs hlow ⊢
  rw [pow32] at hs hlow
  have e1 : 2 ^ (32 * k + b - 1) = 2 ^ (32 * k) * 2 ^ (b - 1) := by rw [← Nat.pow_add]; congr 1; omega
  have e2 : 2 ^ (32 * k + b) = 2 ^ (32 * k) * 2 ^ b := Nat.pow_add _ _ _
  refine ⟨by omega, ?_, ?_, by omega⟩
  · rw [e1, hs]
    have := Nat.mul_le_mul_left (2 ^ (32 * k)) b2
    omega
  · rw [e2, hs]
    have := Nat.mul_le_mul_left (2 ^ (32 * k)) (show t + 1 ≤ 2 ^ b by omega)
    rw [Nat.mul_add] at this
    omega

theorem sign_nonneg (z : Int) : 0 ≤ z.sign ↔ 0 ≤ z := by rcases sign_cases z with ⟨a, e⟩ | ⟨a, e⟩ | ⟨a, e⟩ <;> omega
theorem sign_neg' (z : Int) : z.sign < 0 ↔ z < 0 := by rcases sign_cases z with ⟨a, e⟩ | ⟨a, e⟩ | ⟨a, e⟩ <;> omega
theorem sign_pos' (z : Int) : 0 < z.sign ↔ 0 < z := by rcases sign_cases z with ⟨a, e⟩ | ⟨a, e⟩ | ⟨a, e⟩ <;> omega
theorem pos2 (m : Nat) : ((2 ^ m : Nat) : Int).sign = 1 := Int.sign_eq_one_of_pos (Int.natCast_pos.2 (Nat.pow_pos (by decide)))
/-- scaled's sign, over one power for both: k = p - m. -/
theorem scl_eq (x : Rat) (p m : Nat) : (scl x ((p : Int) - (m : Int))) = (x.num * ((2 ^ m : Nat) : Int) - (x.den : Int) * ((2 ^ p : Nat) : Int)).sign := by
  unfold scl
  by_cases h : m ≤ p
  · rw [if_pos (by omega)]
    have e : ((p : Int) - (m : Int)).toNat = p - m := by omega
    have e2 : 2 ^ p = 2 ^ (p - m) * 2 ^ m := by rw [← Nat.pow_add]; congr 1; omega
    rw [e, e2]
    have : x.num * ((2 ^ m : Nat) : Int) - (x.den : Int) * ((2 ^ (p - m) * 2 ^ m : Nat) : Int) = (x.num - (x.den : Int) * ((2 ^ (p - m) : Nat) : Int)) * ((2 ^ m : Nat) : Int) := by
      rw [Int.sub_mul, Int.mul_assoc]; push_cast; rfl
    rw [this, Int.sign_mul, pos2, Int.mul_one]
  · rw [if_neg (by omega)]
    have e : (-((p : Int) - (m : Int))).toNat = m - p := by omega
    have e2 : 2 ^ m = 2 ^ (m - p) * 2 ^ p := by rw [← Nat.pow_add]; congr 1; omega
    rw [e, e2]
    have : x.num * ((2 ^ (m - p) * 2 ^ p : Nat) : Int) - (x.den : Int) * ((2 ^ p : Nat) : Int) = (x.num * ((2 ^ (m - p) : Nat) : Int) - (x.den : Int)) * ((2 ^ p : Nat) : Int) := by
      rw [Int.sub_mul, Int.mul_assoc]; push_cast; rfl
    rw [this, Int.sign_mul, pos2, Int.mul_one]

/-- k is the floor of the binary logarithm of x. -/
def LgF (x : Rat) (k : Int) : Prop := 0 ≤ scl x k ∧ scl x (k + 1) < 0
/-- k is the ceiling of the binary logarithm of x. -/
def LgC (x : Rat) (k : Int) : Prop := scl x k ≤ 0 ∧ 0 < scl x (k - 1)

theorem scl_mono (x : Rat) (j k : Int) (h : j ≤ k) (hk : 0 ≤ scl x k) : 0 ≤ scl x j := by
  obtain ⟨m, p, q, hj, hq⟩ : ∃ m p q : Nat, j = (p : Int) - m ∧ k = (q : Int) - m := ⟨(-j).toNat + (-k).toNat, (j + ((-j).toNat + (-k).toNat : Nat)).toNat, (k + ((-j).toNat + (-k).toNat : Nat)).toNat, by omega, by omega⟩
  rw [hj, scl_eq, sign_nonneg]
  rw [hq, scl_eq, sign_nonneg] at hk
  have h1 : 2 ^ p ≤ 2 ^ q := Nat.pow_le_pow_right (by omega) (by omega)
  have h2 : (x.den : Int) * ((2 ^ p : Nat) : Int) ≤ (x.den : Int) * ((2 ^ q : Nat) : Int) := Int.mul_le_mul_of_nonneg_left (by exact_mod_cast h1) (by omega)
  omega
theorem LgF.uniq {x : Rat} {j k : Int} (hj : LgF x j) (hk : LgF x k) : j = k := by
  rcases Int.lt_trichotomy j k with h | h | h
  · have := scl_mono x (j + 1) k (by omega) hk.1
    have := hj.2
    omega
  · exact h
  · have := scl_mono x (k + 1) j (by omega) hj.1
    have := hk.2
    omega
theorem scl_mono' (x : Rat) (hx : 0 < x.num) (j k : Int) (h : j < k) (hk : 0 ≤ scl x k) : 0 < scl x j := by
  obtain ⟨m, p, q, hj, hq⟩ : ∃ m p q : Nat, j = (p : Int) - m ∧ k = (q : Int) - m := ⟨(-j).toNat + (-k).toNat, (j + ((-j).toNat + (-k).toNat : Nat)).toNat, (k + ((-j).toNat + (-k).toNat : Nat)).toNat, by omega, by omega⟩
  rw [hj, scl_eq, sign_pos']
  rw [hq, scl_eq, sign_nonneg] at hk
  have h1 : 2 ^ p < 2 ^ q := Nat.pow_lt_pow_right (by omega) (by omega)
  have h2 : (x.den : Int) * ((2 ^ p : Nat) : Int) < (x.den : Int) * ((2 ^ q : Nat) : Int) := Int.mul_lt_mul_of_pos_left (by exact_mod_cast h1) (by have := x.den_nz; omega)
  omega
theorem LgC.uniq {x : Rat} (hx : 0 < x.num) {j k : Int} (hj : LgC x j) (hk : LgC x k) : j = k := by
  rcases Int.lt_trichotomy j k with h | h | h
  · rcases Int.lt_or_le (scl x j) 0 with h1 | h1
    · have := scl_mono x j (k - 1) (by omega) (Int.le_of_lt hk.2); omega
    · have h2 := scl_mono x j (k - 1) (by omega) (Int.le_of_lt hk.2)
      rcases Int.lt_or_le j (k - 1) with h3 | h3
      · have := scl_mono' x hx j (k - 1) h3 (Int.le_of_lt hk.2); have := hj.1; omega
      · have e : j = k - 1 := by omega
        rw [e] at hj; have := hj.1; have := hk.2; omega
  · exact h
  · rcases Int.lt_or_le k (j - 1) with h3 | h3
    · have := scl_mono' x hx k (j - 1) h3 (Int.le_of_lt hj.2); have := hk.1; omega
    · have e : k = j - 1 := by omega
      rw [e] at hk; have := hk.1; have := hj.2; omega

/-- The code's first guess. -/
theorem guess_LgF (x : Rat) (hx : 0 < x.num) : let k0 : Int := (bitsW (dig x.num.natAbs) : Int) - (bitsW (dig x.den) : Int); (scl x k0 < 0 → LgF x (k0 - 1)) ∧ (¬ scl x k0 < 0 → LgF x k0) := by
  intro k0
  obtain ⟨a1, a2, a3, -⟩ := bitsW_bounds x.num.natAbs (by omega)
  obtain ⟨b1, b2, b3, -⟩ := bitsW_bounds x.den (by have := x.den_nz; omega)
  have hk0 : k0 = (bitsW (dig x.num.natAbs) : Int) - (bitsW (dig x.den) : Int) := rfl
  generalize bitsW (dig x.num.natAbs) = A at *
  generalize bitsW (dig x.den) = B at *
  have hn : (x.num.natAbs : Int) = x.num := by omega
  generalize x.num.natAbs = N at *
  have up : scl x (k0 + 1) < 0 := by
    have e : k0 + 1 = ((A : Nat) : Int) - ((B - 1 : Nat) : Int) := by omega
    rw [e, scl_eq, sign_neg', ← hn]
    have h1 : N * 2 ^ (B - 1) < 2 ^ A * 2 ^ (B - 1) := Nat.mul_lt_mul_of_pos_right a3 (Nat.pow_pos (by omega))
    have h2 : 2 ^ A * 2 ^ (B - 1) ≤ x.den * 2 ^ A := by rw [Nat.mul_comm]; exact Nat.mul_le_mul_right _ b2
    have : N * 2 ^ (B - 1) < x.den * 2 ^ A := Nat.lt_of_lt_of_le h1 h2
    have h3 : ((N * 2 ^ (B - 1) : Nat) : Int) < ((x.den * 2 ^ A : Nat) : Int) := by exact_mod_cast this
    push_cast at h3 ⊢
    omega
  have lo : 0 ≤ scl x (k0 - 1) := by
    have e : k0 - 1 = ((A - 1 : Nat) : Int) - ((B : Nat) : Int) := by omega
    rw [e, scl_eq, sign_nonneg, ← hn]
    have h1 : x.den * 2 ^ (A - 1) ≤ 2 ^ B * 2 ^ (A - 1) := Nat.mul_le_mul_right _ (by omega)
    have h2 : 2 ^ B * 2 ^ (A - 1) ≤ N * 2 ^ B := by rw [Nat.mul_comm]; exact Nat.mul_le_mul_right _ a2
    have h3 : ((x.den * 2 ^ (A - 1) : Nat) : Int) ≤ ((N * 2 ^ B : Nat) : Int) := by exact_mod_cast Nat.le_trans h1 h2
    push_cast at h3 ⊢
    omega
  refine ⟨fun h => ⟨lo, ?_⟩, fun h => ⟨by omega, up⟩⟩
  have : k0 - 1 + 1 = k0 := by omega
  rw [this]; exact h
/-- From the floor to the ceiling. -/
theorem LgC_of {x : Rat} (hx : 0 < x.num) {k : Int} (h : LgF x k) : (0 < scl x k → LgC x (k + 1)) ∧ (¬ 0 < scl x k → LgC x k) := by
  constructor
  · intro h1
    refine ⟨Int.le_of_lt h.2, ?_⟩
    have : k + 1 - 1 = k := by omega
    rw [this]; exact h1
  · intro h1
    exact ⟨by omega, scl_mono' x hx (k - 1) k (by omega) h.1⟩
end Go.Proofs.Ytooheapikhdllaa

