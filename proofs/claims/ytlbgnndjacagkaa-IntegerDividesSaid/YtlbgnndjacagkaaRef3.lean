/- mulWords of the reference. -/
import Derived.Test.YtlbgnndjacagkaaRows
import Derived.Test.YtlbgnndjacagkaaRef2
import Derived.Test.YtlbgnndjacagkaaApp
import Derived.Deep.RegionHeld3
import Derived.Deep.DrawnRows
namespace Go.Proofs.Ytlbgnndjacagkaa
open Go.RowKit
attribute [local go_sem ↓] Go.wp_at_zero Go.wp_at_succ

theorem below_via {a W w' : World} (hb : Below W.heap.size W w') (h : Below a.heap.size a W) : Below a.heap.size a w' := h.trans (hb.mono h.size)
theorem len_mul {xs ys : List Nat} (hx : Ws xs) (hy : Ws ys) : (dig (val xs * val ys)).length ≤ xs.length + ys.length := by
  refine dig_len_le ?_
  rw [Nat.pow_add]
  have h1 := val_lt hx
  have h2 := val_lt hy
  exact Nat.mul_lt_mul'' h1 h2
theorem len_mul1 {xs : List Nat} (hx : Ws xs) {d : Nat} (hd : d < 4294967296) : (dig (val xs * d)).length ≤ xs.length + 1 := by
  refine dig_len_le ?_
  rw [Nat.pow_succ]
  exact Nat.mul_lt_mul'' (val_lt hx) hd
theorem ws_dig (n : Nat) : Ws (dig n) := (can_dig n).1

set_option maxHeartbeats 1000000 in
theorem mulWords_any (w : World) (X : Nat → Prop) (va vb : Value) (xs ys : List Nat) (ha : Words w X va xs) (hb : Words w X vb ys) (hs : xs.length + ys.length ≤ 100000000000) :
    Calls Try.prog 62 #[va, vb] w fun e w' => ∃ v', e = .returned v' ∧ Words w' (Old w) v' (dig (val xs * val ys)) ∧ Below w.heap.size w w' := by
  obtain ⟨A, c, rfl, hc, _, HA⟩ := ha.open_
  obtain ⟨B, d, rfl, hd, _, HB⟩ := hb.open_
  have hm := HB.lt_max
  go_enter Try.func62, Try.ntmps62
  go_wp2_with fail
  go_loopw [5, 6] (fun o i wr => ∃ (k : Nat), k ≤ ys.length ∧ i = .int .i64 ((k : Int) - 1) ∧ Words wr (Old w) o (dig (val xs * val (ys.drop k))) ∧ Below w.heap.size w wr) (fun _ i _ => (intOf i + 1).toNat)
  case atStart => exact ⟨ys.length, by omega, rfl, by rw [List.drop_length]; show Words _ _ _ (dig (val xs * 0)); rw [Nat.mul_zero, dig_zero]; exact Words.lit [] (Loc.new _ _ _) (by simp) (by simp [Old]) (by unfold maxLen; simp), below1 _ _⟩
  case round =>
    obtain ⟨k, hk, hi, hw, hbr⟩ := hrel
    by_cases hk0 : k = 0
    · subst hk0
      obtain rfl := hi
      rw [List.drop_zero] at hw
      go_wp2_with fail
      go_ret
      exact ⟨_, rfl, hw, hbr⟩
    · obtain ⟨j, rfl⟩ : ∃ j, k = j + 1 := ⟨k - 1, by omega⟩
      obtain rfl := hi.trans (show Value.int .i64 (((j + 1 : Nat) : Int) - 1) = .int .i64 (j : Int) by congr 1; omega)
      clear hi
      have HBr := HB.below hbr
      have HAr := HA.below hbr
      obtain ⟨a, rfl, _, _, hcb⟩ := HBr.at_ (k := j) (by omega)
      have hlt := HB.lt (i := j) (by omega)
      have KS : Hid (∀ W, Below wr.heap.size wr W → W.cell? (a.add j) = some (.int .u32 (ys[j] : Nat))) := fun W hW => by
        obtain ⟨a', e, _, _, hc⟩ := (HBr.below hW).at_ (k := j) (by omega)
        injection e with e
        subst e
        exact hc
      have hsum : val xs * val (ys.drop j) = val (0 :: dig (val xs * val (ys.drop (j + 1)))) + val (dig (val xs * ys[j])) := by
        rw [List.drop_eq_getElem_cons (by omega : j < ys.length), val_dig]
        show val xs * (ys[j] + 4294967296 * val (ys.drop (j + 1))) = 0 + 4294967296 * val (dig _) + _
        rw [val_dig, Nat.mul_add, ← Nat.mul_assoc, Nat.mul_comm (val xs) 4294967296, Nat.mul_assoc]
        omega
      have hl1 := len_mul HA.2 (ys := ys.drop (j + 1)) (fun x hx => HB.2 x (List.mem_of_mem_drop hx))
      have hl2 := len_mul1 HA.2 hlt
      rw [List.length_drop] at hl1
      have HSUM := Lib.hid hsum
      have HL1 := Lib.hid hl1
      have HL2 := Lib.hid hl2
      have b1 : (0 : Int) ≤ (j : Int) := by omega
      have b2 : (j : Int) < (ys.length : Int) := by omega
      have HWD := Lib.hid (ws_dig (val xs * val (ys.drop (j + 1))))
      clear hsum hl1 hl2
      generalize dig (val xs * val (ys.drop (j + 1))) = qs at *
      generalize hx : ys[j] = x at *
      generalize hps : dig (val xs * x) = ps at *
      have HPS := Lib.hid hps
      clear hps hx
      have hql := HL1.out
      have hpl := HL2.out
      go_wp2_with fail
      have hwx := hw.weak (Y := fun _ => False) (fun _ _ h => h.elim)
      have hw64 : IntKind.u64.wrap ((x : Nat) : Int) = ((x : Nat) : Int) := by rw [IntKind.wrap_u64]; omega
      have ho0 : Hid ((wr.alloc (.cells #[.int .u32 0] 44)).drew.ownsRow wr.heap.size 44 1 (.slice (some ⟨wr.heap.size, 0, none⟩) 1 1) 1 [.int .u32 0]) := World.ownsRow_lit (e := 44) (size := 1) wr #[.int .u32 0] 1 (Nat.le_refl _) (by unfold maxLen; omega) rfl
      have hz0 : Hid (∀ {v1 : Value} {w1 w2 : World}, w1.ownsRow wr.heap.size 44 1 v1 (1 + qs.length) ([.int .u32 0] ++ nums .u32 qs) → Below w1.heap.size w1 w2 → Words w2 (fun _ => False) v1 (0 :: qs)) := fun ho hb => (Words.of_own (xs := 0 :: qs) (by rw [List.length_cons, Nat.add_comm]; exact ho) (by intro x hx; rcases List.mem_cons.1 hx with e | e; (subst e; omega); exact HWD.out x e) (fun _ _ _ _ h => h)).below hb
      go_region_held3 (fun W => W.cell? (a.add j) = some (.int .u32 (x : Nat)))
        (first | exact KS.out _ (by repeat' (first | exact a1 | exact t2 | exact t3 | exact Below.refl _ _ | refine Below.drew ?_ | refine Below.alloc ?_ (by first | exact Nat.le_refl _ | exact t2.size) _)))
        (first
          | (go_at_call 57; refine (timesWord_any _ (fun _ => False) _ xs x ((HAr.weak (Y := fun _ => False) (fun _ _ h => h.elim)).below (by repeat' (first | exact a1 | exact t2 | exact t3 | exact Below.refl _ _ | refine Below.drew ?_ | refine Below.alloc ?_ (by first | exact Nat.le_refl _ | exact t2.size) _))) (by omega) (by omega)).mono ?_; rintro e w2 ⟨v2, rfl, h2, hb2⟩; rw [HPS.out] at h2; have hw1 := hz0.out hown1 hb2; have t2 : Below wr.heap.size wr w2 := below_via hb2 (by repeat' (first | exact a1 | exact t2 | exact t3 | exact Below.refl _ _ | refine Below.drew ?_ | refine Below.alloc ?_ (by first | exact Nat.le_refl _ | exact t2.size) _)))
          | (go_at_call 56; refine (addWords_any _ (fun _ => False) _ _ (0 :: qs) ps hw1 (h2.weak (fun _ _ h => h.elim)) (by simp only [List.length_cons]; omega)).mono ?_; rintro e w3 ⟨v3, rfl, h3, hb3⟩; rw [← HSUM.out] at h3; have t3 := t2.trans (hb3.mono t2.size))
          | (refine step_words _ rfl _ _ rfl Try.underlying22 info_u32 wr.heap.size _ 1 [.int .u32 0] rfl ho0.out qs _ rfl (hwx.below (below1 wr _).drew) (by omega) (by unfold maxLen; omega) (by simp) ?_; intro v1 w1 hown1 hg1 hob1; have a1 : Below wr.heap.size wr w1 := below_own (below1 wr (.cells #[.int .u32 0] 44)).drew ho0.out hg1 (Nat.le_refl _) (by simp)))
      all_goals
        clear KS ho0 hz0
        go_wp2_with fail
        go_roundw
        case rel => exact ⟨j, by omega, by go_num, h3.weak (fun b _ hb => by simp only [Old] at hb ⊢; have := hbr.size; have := t2.size; omega), hbr.trans (t3.mono hbr.size)⟩
        case measure => simp only [intOf]; omega
end Go.Proofs.Ytlbgnndjacagkaa
