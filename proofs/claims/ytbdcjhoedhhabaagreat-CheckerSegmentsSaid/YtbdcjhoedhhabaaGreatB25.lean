/- Contracts of the functions that the statements reach, part 25. -/
import Derived.Test.YtbdcjhoedhhabaaGreatRows
import Derived.Test.YtbdcjhoedhhabaaGreatB2
import Derived.Test.YtbdcjhoedhhabaaGreatB22
import Derived.Test.YtbdcjhoedhhabaaGreatB24
set_option linter.unusedSimpArgs false
set_option linter.unusedVariables false

/- Lists of running times in memory; checker.load and bucket.Check. -/
namespace Go.Proofs.YtbdcjhoedhhabaaGreat
open Go.RowKit
attribute [local go_sem ↓] Go.wp_at_zero Go.wp_at_succ

/-- A list of pairs of integers (running time, weight) that is read. -/
def Tims (w : World) (v : Value) (l : List (Int × Int)) : Prop :=
 ∃ A cap, v = .slice A l.length cap ∧ l.length ≤ cap ∧ cap ≤ maxLen ∧ (l.length ≠ 0 → ∃ a, A = some a ∧ a.block < w.heap.size ∧ ∀ (i : Nat) (x : Int × Int), l[i]? = some x → w.cell? (a.add (i * 2)) = some (.int .i64 x.1) ∧ w.cell? ((a.add (i * 2)).add 1) = some (.int .i64 x.2)) ∧ ∀ x ∈ l, (-9223372036854775808 ≤ x.1 ∧ x.1 ≤ 9223372036854775807) ∧ (-9223372036854775808 ≤ x.2 ∧ x.2 ≤ 9223372036854775807)

theorem Tims.keep {w w' : World} {v : Value} {l : List (Int × Int)} (h : Tims w v l) (hk : Keep (fun _ => False) w w') : Tims w' v l := by
 obtain ⟨A, cap, hv, h1, h2, h3, h4⟩ := h
 refine ⟨A, cap, hv, h1, h2, fun hn => ?_, h4⟩
 obtain ⟨a, ha, hb, hc⟩ := h3 hn
 exact ⟨a, ha, Nat.lt_of_lt_of_le hb hk.size, fun i z hz => ⟨cell_keep (hc i z hz).1 (by rw [add_block]; exact hb) id hk, cell_keep (hc i z hz).2 (by rw [add_block, add_block]; exact hb) id hk⟩⟩

theorem Tims.op {w : World} {v : Value} {l : List (Int × Int)} (h : Tims w v l) : ∃ (A : Option Addr) (cap : Nat), v = .slice A l.length cap ∧ Tims w (.slice A l.length cap) l ∧ l.length ≤ cap ∧ cap ≤ maxLen := by
 have h0 := h
 obtain ⟨A, cap, rfl, h1, h2, -⟩ := h
 exact ⟨A, cap, rfl, h0, h1, h2⟩

theorem Tims.at {w : World} {l : List (Int × Int)} {A : Option Addr} {n cap : Nat} (h : Tims w (.slice A n cap) l) {i : Nat} {z : Int × Int} (hz : l[i]? = some z) : ∃ a : Addr, A = some a ∧ a.block < w.heap.size ∧ w.cell? (a.add (i * 2)) = some (.int .i64 z.1) ∧ w.cell? ((a.add (i * 2)).add 1) = some (.int .i64 z.2) ∧ (-9223372036854775808 ≤ z.1 ∧ z.1 ≤ 9223372036854775807) ∧ (-9223372036854775808 ≤ z.2 ∧ z.2 ≤ 9223372036854775807) := by
 obtain ⟨A', cap', hv, h1, h2, h3, h4⟩ := h
 injection hv with e1 e2 e3
 subst e1
 obtain ⟨a, ha, hb, hc⟩ := h3 (by have := (List.getElem?_eq_some_iff.1 hz).1; omega)
 have h9 := h4 z (List.mem_of_getElem? hz)
 exact ⟨a, ha, hb, (hc i z hz).1, (hc i z hz).2, h9.1, h9.2⟩

/-- The code of a list of running times behind a time. -/
def ldGo : Option Int → List (Int × Int) → Int
 | _, [] => 0
 | p, x :: l => if x.1 < 0 ∨ 67108864 < x.1 ∨ x.2 < 1 ∨ 65536 < x.2 then 3 else if (∃ t, p = some t ∧ x.1 ≤ t) then 10 else ldGo (some x.1) l

/-- The code of a list of running times. -/
def ldC (l : List (Int × Int)) : Int := if l.length = 0 then 1 else if 64 < l.length then 4 else ldGo none l

theorem ldGo_zero : ∀ (l : List (Int × Int)) (p : Option Int), ldGo p l = 0 → ∀ x ∈ l, 0 ≤ x.1 ∧ x.1 ≤ 67108864 ∧ 1 ≤ x.2 ∧ x.2 ≤ 65536
 | [], _, _, x, hx => by simp at hx
 | y :: l, p, h, x, hx => by
   unfold ldGo at h
   by_cases hc : y.1 < 0 ∨ 67108864 < y.1 ∨ y.2 < 1 ∨ 65536 < y.2
   ·rw [if_pos hc] at h; cases h
   ·rw [if_neg hc] at h
    by_cases hd : ∃ t, p = some t ∧ y.1 ≤ t
    ·rw [if_pos hd] at h; cases h
    ·rw [if_neg hd] at h
     rcases List.mem_cons.1 hx with rfl | hx
     ·omega
     ·exact ldGo_zero l _ h x hx

theorem ldC_zero {l : List (Int × Int)} (h : ldC l = 0) : 1 ≤ l.length ∧ l.length ≤ 64 ∧ ∀ x ∈ l, 0 ≤ x.1 ∧ x.1 ≤ 67108864 ∧ 1 ≤ x.2 ∧ x.2 ≤ 65536 := by
 unfold ldC at h
 by_cases h0 : l.length = 0
 ·rw [if_pos h0] at h; cases h
 rw [if_neg h0] at h
 by_cases h1 : 64 < l.length
 ·rw [if_pos h1] at h; cases h
 rw [if_neg h1] at h
 exact ⟨by omega, by omega, ldGo_zero l _ h⟩

theorem drop_atP {α : Type} {zs : List α} {c : Nat} {z : α} (h : zs[c]? = some z) : zs.drop c = z :: zs.drop (c + 1) := by
 have hc := (List.getElem?_eq_some_iff.1 h).1
 rw [List.drop_eq_getElem_cons hc, (List.getElem?_eq_some_iff.1 h).2]

/-- The time ahead of an element. -/
def ldP (l : List (Int × Int)) (c : Nat) : Option Int := if c = 0 then none else (l[c - 1]?).map (·.1)

set_option maxRecDepth 100000 in
set_option maxHeartbeats 8000000 in
theorem load_any (w : World) (v : Value) (l : List (Int × Int)) (h : Tims w v l) :
 Calls Tryz.prog 128 #[v] w fun e w' => e = .returned (.int .i64 (ldC l)) ∧ Below w.heap.size w w' := by
 have H := Lib.hid h
 obtain ⟨A, cap, rfl, h, l1, l2⟩ := h.op
 have lm : l.length ≤ 9223372036854775807 := by unfold maxLen at l2; omega
 clear h
 obtain ⟨n, hn⟩ : ∃ n, l.length = n := ⟨_, rfl⟩
 obtain ⟨R, hR⟩ : ∃ R, ldC l = R := ⟨_, rfl⟩
 rw [hR]
 rw [hn] at l1 lm
 have HR : Hid ((if n = 0 then 1 else if 64 < n then 4 else ldGo none l) = R) := by rw [← hR, ← hn]; rfl
 rw [hn]
 have HN := Lib.hid hn
 clear hn hR
 by_cases h0 : n = 0
 ·subst h0
  have HE : Hid ((1 : Int) = R) := HR.out
  go_enter Tryz.func128, Tryz.ntmps128
  go_wp2_with fail
  go_ret
  exact ⟨by rw [← HE.out]; try rfl, bel⟩
 have q1 : ((n : Int) == 0) = false := beq_eq_false_iff_ne.2 (by omega)
 by_cases h1 : 64 < n
 ·have HE : Hid ((4 : Int) = R) := by have h9 := HR.out; rw [if_neg h0, if_pos h1] at h9; exact h9
  have q2 : decide ((64 : Int) < (n : Int)) = true := decide_eq_true (by omega)
  go_enter Tryz.func128, Tryz.ntmps128
  go_wp2_with fail
  go_ret
  exact ⟨by rw [← HE.out]; try rfl, bel⟩
 have q2 : decide ((64 : Int) < (n : Int)) = false := decide_eq_false (by omega)
 have HE : Hid (ldGo (ldP l 0) (l.drop 0) = R) := by have h9 := HR.out; rw [if_neg h0, if_neg h1] at h9; exact h9
 have hn64 : n ≤ 64 := by omega
 clear HR h0 h1
 go_enter Tryz.func128, Tryz.ntmps128
 go_wp2_with fail
 go_loopw [13] (fun i wr => ∃ (c : Nat), c ≤ n ∧ i = .int .i64 c ∧ Hid (ldGo (ldP l c) (l.drop c) = R) ∧ Below w.heap.size w wr) (fun i _ => n - (intOf i).toNat)
 case atStart => exact ⟨0, by omega, rfl, HE, bel⟩
 case round =>
  obtain ⟨c, hc, rfl, hr, hB⟩ := hrel
  obtain ⟨wo, rfl⟩ : ∃ wo : World, wo = wr := ⟨_, rfl⟩
  have y5 := hB.size; (try simp only [zs] at y5)
  clear HE
  by_cases hlt : c < n
  ·obtain ⟨⟨x, y⟩, hz⟩ : ∃ z, l[c]? = some z := ⟨_, List.getElem?_eq_getElem (by rw [HN.out]; exact hlt)⟩
   have hh := H.out.keep (.of_below hB)
   rw [HN.out] at hh
   obtain ⟨a, rfl, hb, x0, x1, zb1, zb2⟩ := hh.at hz
   simp only at x0 x1 zb1 zb2
   rw [addr_one] at x1
   have HH := Lib.hid hh
   have HZ := Lib.hid hz
   have k0 : (0 : Int) ≤ (c : Int) := by omega
   have k1 : (c : Int) < (n : Int) := by omega
   have HS : Hid ((if x < 0 ∨ 67108864 < x ∨ y < 1 ∨ 65536 < y then 3 else if (∃ t, ldP l c = some t ∧ x ≤ t) then 10 else ldGo (some x) (l.drop (c + 1))) = R) := by
    have h9 := hr.out
    rw [drop_atP hz] at h9
    exact h9
   clear hz hh hr
   have L1 := made1 wo #[.int .i64 x, .int .i64 y] 133
   by_cases hx0 : x < 0
   ·have HE : Hid (3 = R) := by have h9 := HS.out; rw [if_pos (.inl hx0)] at h9; exact h9
    have d1 : decide (x < 0) = true := decide_eq_true hx0
    go_wp2_with fail
    go_ret
    exact ⟨by rw [← HE.out]; try rfl, bel⟩
   have d1 : decide (x < 0) = false := decide_eq_false hx0
   by_cases hx1 : 67108864 < x
   ·have HE : Hid (3 = R) := by have h9 := HS.out; rw [if_pos (.inr (.inl hx1))] at h9; exact h9
    have d2 : decide (67108864 < x) = true := decide_eq_true hx1
    go_wp2_with fail
    go_ret
    exact ⟨by rw [← HE.out]; try rfl, bel⟩
   have d2 : decide (67108864 < x) = false := decide_eq_false hx1
   by_cases hy0 : y < 1
   ·have HE : Hid (3 = R) := by have h9 := HS.out; rw [if_pos (.inr (.inr (.inl hy0)))] at h9; exact h9
    have d3 : decide (y < 1) = true := decide_eq_true hy0
    go_wp2_with fail
    go_ret
    exact ⟨by rw [← HE.out]; try rfl, bel⟩
   have d3 : decide (y < 1) = false := decide_eq_false hy0
   by_cases hy1 : 65536 < y
   ·have HE : Hid (3 = R) := by have h9 := HS.out; rw [if_pos (.inr (.inr (.inr hy1)))] at h9; exact h9
    have d4 : decide (65536 < y) = true := decide_eq_true hy1
    go_wp2_with fail
    go_ret
    exact ⟨by rw [← HE.out]; try rfl, bel⟩
   have d4 : decide (65536 < y) = false := decide_eq_false hy1
   have HS2 : Hid ((if (∃ t, ldP l c = some t ∧ x ≤ t) then 10 else ldGo (some x) (l.drop (c + 1))) = R) := by
    have h9 := HS.out
    rw [if_neg (by omega)] at h9
    exact h9
   have HP : Hid (ldP l (c + 1) = some x) := by
    show (if c + 1 = 0 then none else (l[c + 1 - 1]?).map (·.1)) = some x
    rw [if_neg (by omega), Nat.add_sub_cancel, HZ.out]; rfl
   clear HS
   by_cases hc0 : c = 0
   ·have HE : Hid (ldGo (some x) (l.drop (c + 1)) = R) := by
     have h9 := HS2.out
     rw [if_neg (by rintro ⟨t, ht, -⟩; unfold ldP at ht; rw [if_pos hc0] at ht; cases ht)] at h9
     exact h9
    have q3 : decide ((0 : Int) < (c : Int)) = false := decide_eq_false (by omega)
    have q3' : decide (0 < c) = false := decide_eq_false (by omega)
    clear hc0
    go_wp2_with fail
    refine wp_region_noPanic ?_
    refine wp_region_held_drew (S := (fun _ => True)) (by kernel_rfl) ?_ (fun hHeld => ?_)
    ·trivial
    refine takeT 0 hHeld ?_
    (try simp only [Act.put, ly])
    refine takeT 1 hHeld ?_
    (try simp only [Act.put, ly])
    refine takeT 2 hHeld ?_
    (try simp only [Act.put, ly])
    refine offT 3 hHeld ?_
    refine offT 4 hHeld ?_
    refine offT 5 hHeld ?_
    refine offT 6 hHeld ?_
    refine offT 7 hHeld ?_
    refine offT 8 hHeld ?_
    refine offT 9 hHeld ?_
    refine offT 10 hHeld ?_
    refine offT 11 hHeld ?_
    (try simp only [Act.put, ly])
    refine takeT 12 hHeld ?_
    (try simp only [Act.put, ly])
    refine wpAnyH_done (by kernel_rfl) ?_ _
    refine NoPanic.normal ?_
    go_wp2_with fail
    go_roundw
    case rel => exact ⟨c + 1, by omega, by go_num, by rw [HP.out]; exact HE, bel⟩
    case measure => simp only [intOf]; omega
   ·obtain ⟨⟨x', y'⟩, hz'⟩ : ∃ z, l[c - 1]? = some z := ⟨_, List.getElem?_eq_getElem (by rw [HN.out]; omega)⟩
    obtain ⟨a', ea', hb', x0', x1', zb1', zb2'⟩ := HH.out.at hz'
    injection ea' with ea'
    subst ea'
    simp only at x0' x1' zb1' zb2'
    have HQ : Hid (ldP l c = some x') := by
     show (if c = 0 then none else (l[c - 1]?).map (·.1)) = some x'
     rw [if_neg hc0, hz']; rfl
    have q3 : decide ((0 : Int) < (c : Int)) = true := decide_eq_true (by omega)
    have q3' : decide (0 < c) = true := decide_eq_true (by omega)
    have q4 : IntKind.i64.wrap ((c : Int) - 1) = ((c - 1 : Nat) : Int) := by rw [IntKind.wrap_i64]; omega
    have q5 : (0 : Int) ≤ ((c - 1 : Nat) : Int) := by omega
    have q6 : ((c - 1 : Nat) : Int) < (n : Int) := by omega
    have K1 : (wo.alloc (.cells #[.int .i64 x, .int .i64 y] 133)).cell? (a.add ((c - 1) * 2)) = some (.int .i64 x') := cell_keep (X := fun _ => False) x0' (by rw [add_block]; exact hb) id kp
    clear hz' x1' x0'
    by_cases ho : x ≤ x'
    ·have HE : Hid (10 = R) := by have h9 := HS2.out; rw [if_pos ⟨x', HQ.out, ho⟩] at h9; exact h9
     have d5 : decide (x ≤ x') = true := decide_eq_true ho
     go_wp2_with fail
     go_region_held3 (fun W => W.cell? ⟨wo.heap.size, 0, none⟩ = some (.int .i64 x) ∧ W.cell? (a.add ((c - 1) * 2)) = some (.int .i64 x')) (exact ⟨Loc.c 0 (L1.to (w' := _)), K1⟩) (fail)
     all_goals go_wp2_with fail
     go_ret
     exact ⟨by rw [← HE.out]; try rfl, bel⟩
    ·have HE : Hid (ldGo (some x) (l.drop (c + 1)) = R) := by
      have h9 := HS2.out
      rw [if_neg (by rintro ⟨t, ht, h8⟩; rw [HQ.out] at ht; injection ht with ht; subst ht; exact ho h8)] at h9
      exact h9
     have d5 : decide (x ≤ x') = false := decide_eq_false ho
     go_wp2_with fail
     go_region_held3 (fun W => W.cell? ⟨wo.heap.size, 0, none⟩ = some (.int .i64 x) ∧ W.cell? (a.add ((c - 1) * 2)) = some (.int .i64 x')) (exact ⟨Loc.c 0 (L1.to (w' := _)), K1⟩) (fail)
     all_goals go_wp2_with fail
     go_roundw
     case rel => exact ⟨c + 1, by omega, by go_num, by rw [HP.out]; exact HE, bel⟩
     case measure => simp only [intOf]; omega
  ·obtain rfl : c = n := by omega
   have HE : Hid (0 = R) := by
    have h9 := hr.out
    rw [List.drop_eq_nil_of_le (by rw [HN.out]; exact Nat.le_refl _)] at h9
    exact h9
   go_wp2_with fail
   go_ret
   exact ⟨by rw [← HE.out]; try rfl, bel⟩


set_option maxRecDepth 100000 in
set_option maxHeartbeats 8000000 in
theorem bcheck_any (w : World) (v : Value) (l : List (Int × Int)) (h : Tims w v l) :
 Calls Tryz.prog 132 #[v] w fun e w' => e = .returned (.int .i64 (ldC l)) ∧ Below w.heap.size w w' := by
 have H := Lib.hid h
 obtain ⟨A, cap, rfl, h, l1, l2⟩ := h.op
 have lm : l.length ≤ 9223372036854775807 := by unfold maxLen at l2; omega
 clear h
 obtain ⟨n, hn⟩ : ∃ n, l.length = n := ⟨_, rfl⟩
 obtain ⟨R, hR⟩ : ∃ R, ldC l = R := ⟨_, rfl⟩
 rw [hR]
 rw [hn] at l1 lm
 have HR : Hid ((if n = 0 then 1 else if 64 < n then 4 else ldGo none l) = R) := by rw [← hR, ← hn]; rfl
 rw [hn]
 have HN := Lib.hid hn
 clear hn hR
 by_cases h0 : n = 0
 ·subst h0
  have HE : Hid ((1 : Int) = R) := HR.out
  go_enter Tryz.func132, Tryz.ntmps132
  go_wp2_with fail
  go_ret
  exact ⟨by rw [← HE.out]; try rfl, bel⟩
 have q1 : ((n : Int) == 0) = false := beq_eq_false_iff_ne.2 (by omega)
 by_cases h1 : 64 < n
 ·have HE : Hid ((4 : Int) = R) := by have h9 := HR.out; rw [if_neg h0, if_pos h1] at h9; exact h9
  have q2 : decide ((64 : Int) < (n : Int)) = true := decide_eq_true (by omega)
  go_enter Tryz.func132, Tryz.ntmps132
  go_wp2_with fail
  go_ret
  exact ⟨by rw [← HE.out]; try rfl, bel⟩
 have q2 : decide ((64 : Int) < (n : Int)) = false := decide_eq_false (by omega)
 have HE : Hid (ldGo (ldP l 0) (l.drop 0) = R) := by have h9 := HR.out; rw [if_neg h0, if_neg h1] at h9; exact h9
 have hn64 : n ≤ 64 := by omega
 clear HR h0 h1
 go_enter Tryz.func132, Tryz.ntmps132
 go_wp2_with fail
 go_loopw [13] (fun i wr => ∃ (c : Nat), c ≤ n ∧ i = .int .i64 c ∧ Hid (ldGo (ldP l c) (l.drop c) = R) ∧ Below w.heap.size w wr) (fun i _ => n - (intOf i).toNat)
 case atStart => exact ⟨0, by omega, rfl, HE, bel⟩
 case round =>
  obtain ⟨c, hc, rfl, hr, hB⟩ := hrel
  obtain ⟨wo, rfl⟩ : ∃ wo : World, wo = wr := ⟨_, rfl⟩
  have y5 := hB.size; (try simp only [zs] at y5)
  clear HE
  by_cases hlt : c < n
  ·obtain ⟨⟨x, y⟩, hz⟩ : ∃ z, l[c]? = some z := ⟨_, List.getElem?_eq_getElem (by rw [HN.out]; exact hlt)⟩
   have hh := H.out.keep (.of_below hB)
   rw [HN.out] at hh
   obtain ⟨a, rfl, hb, x0, x1, zb1, zb2⟩ := hh.at hz
   simp only at x0 x1 zb1 zb2
   rw [addr_one] at x1
   have HH := Lib.hid hh
   have HZ := Lib.hid hz
   have k0 : (0 : Int) ≤ (c : Int) := by omega
   have k1 : (c : Int) < (n : Int) := by omega
   have HS : Hid ((if x < 0 ∨ 67108864 < x ∨ y < 1 ∨ 65536 < y then 3 else if (∃ t, ldP l c = some t ∧ x ≤ t) then 10 else ldGo (some x) (l.drop (c + 1))) = R) := by
    have h9 := hr.out
    rw [drop_atP hz] at h9
    exact h9
   clear hz hh hr
   have L1 := made1 wo #[.int .i64 x, .int .i64 y] 133
   by_cases hx0 : x < 0
   ·have HE : Hid (3 = R) := by have h9 := HS.out; rw [if_pos (.inl hx0)] at h9; exact h9
    have d1 : decide (x < 0) = true := decide_eq_true hx0
    go_wp2_with fail
    go_ret
    exact ⟨by rw [← HE.out]; try rfl, bel⟩
   have d1 : decide (x < 0) = false := decide_eq_false hx0
   by_cases hx1 : 67108864 < x
   ·have HE : Hid (3 = R) := by have h9 := HS.out; rw [if_pos (.inr (.inl hx1))] at h9; exact h9
    have d2 : decide (67108864 < x) = true := decide_eq_true hx1
    go_wp2_with fail
    go_ret
    exact ⟨by rw [← HE.out]; try rfl, bel⟩
   have d2 : decide (67108864 < x) = false := decide_eq_false hx1
   by_cases hy0 : y < 1
   ·have HE : Hid (3 = R) := by have h9 := HS.out; rw [if_pos (.inr (.inr (.inl hy0)))] at h9; exact h9
    have d3 : decide (y < 1) = true := decide_eq_true hy0
    go_wp2_with fail
    go_ret
    exact ⟨by rw [← HE.out]; try rfl, bel⟩
   have d3 : decide (y < 1) = false := decide_eq_false hy0
   by_cases hy1 : 65536 < y
   ·have HE : Hid (3 = R) := by have h9 := HS.out; rw [if_pos (.inr (.inr (.inr hy1)))] at h9; exact h9
    have d4 : decide (65536 < y) = true := decide_eq_true hy1
    go_wp2_with fail
    go_ret
    exact ⟨by rw [← HE.out]; try rfl, bel⟩
   have d4 : decide (65536 < y) = false := decide_eq_false hy1
   have HS2 : Hid ((if (∃ t, ldP l c = some t ∧ x ≤ t) then 10 else ldGo (some x) (l.drop (c + 1))) = R) := by
    have h9 := HS.out
    rw [if_neg (by omega)] at h9
    exact h9
   have HP : Hid (ldP l (c + 1) = some x) := by
    show (if c + 1 = 0 then none else (l[c + 1 - 1]?).map (·.1)) = some x
    rw [if_neg (by omega), Nat.add_sub_cancel, HZ.out]; rfl
   clear HS
   by_cases hc0 : c = 0
   ·have HE : Hid (ldGo (some x) (l.drop (c + 1)) = R) := by
     have h9 := HS2.out
     rw [if_neg (by rintro ⟨t, ht, -⟩; unfold ldP at ht; rw [if_pos hc0] at ht; cases ht)] at h9
     exact h9
    have q3 : decide ((0 : Int) < (c : Int)) = false := decide_eq_false (by omega)
    have q3' : decide (0 < c) = false := decide_eq_false (by omega)
    clear hc0
    go_wp2_with fail
    refine wp_region_noPanic ?_
    refine wp_region_held_drew (S := (fun _ => True)) (by kernel_rfl) ?_ (fun hHeld => ?_)
    ·trivial
    refine takeT 0 hHeld ?_
    (try simp only [Act.put, ly])
    refine takeT 1 hHeld ?_
    (try simp only [Act.put, ly])
    refine takeT 2 hHeld ?_
    (try simp only [Act.put, ly])
    refine offT 3 hHeld ?_
    refine offT 4 hHeld ?_
    refine offT 5 hHeld ?_
    refine offT 6 hHeld ?_
    refine offT 7 hHeld ?_
    refine offT 8 hHeld ?_
    refine offT 9 hHeld ?_
    refine offT 10 hHeld ?_
    refine offT 11 hHeld ?_
    (try simp only [Act.put, ly])
    refine takeT 12 hHeld ?_
    (try simp only [Act.put, ly])
    refine wpAnyH_done (by kernel_rfl) ?_ _
    refine NoPanic.normal ?_
    go_wp2_with fail
    go_roundw
    case rel => exact ⟨c + 1, by omega, by go_num, by rw [HP.out]; exact HE, bel⟩
    case measure => simp only [intOf]; omega
   ·obtain ⟨⟨x', y'⟩, hz'⟩ : ∃ z, l[c - 1]? = some z := ⟨_, List.getElem?_eq_getElem (by rw [HN.out]; omega)⟩
    obtain ⟨a', ea', hb', x0', x1', zb1', zb2'⟩ := HH.out.at hz'
    injection ea' with ea'
    subst ea'
    simp only at x0' x1' zb1' zb2'
    have HQ : Hid (ldP l c = some x') := by
     show (if c = 0 then none else (l[c - 1]?).map (·.1)) = some x'
     rw [if_neg hc0, hz']; rfl
    have q3 : decide ((0 : Int) < (c : Int)) = true := decide_eq_true (by omega)
    have q3' : decide (0 < c) = true := decide_eq_true (by omega)
    have q4 : IntKind.i64.wrap ((c : Int) - 1) = ((c - 1 : Nat) : Int) := by rw [IntKind.wrap_i64]; omega
    have q5 : (0 : Int) ≤ ((c - 1 : Nat) : Int) := by omega
    have q6 : ((c - 1 : Nat) : Int) < (n : Int) := by omega
    have K1 : (wo.alloc (.cells #[.int .i64 x, .int .i64 y] 133)).cell? (a.add ((c - 1) * 2)) = some (.int .i64 x') := cell_keep (X := fun _ => False) x0' (by rw [add_block]; exact hb) id kp
    clear hz' x1' x0'
    by_cases ho : x ≤ x'
    ·have HE : Hid (10 = R) := by have h9 := HS2.out; rw [if_pos ⟨x', HQ.out, ho⟩] at h9; exact h9
     have d5 : decide (x ≤ x') = true := decide_eq_true ho
     go_wp2_with fail
     go_region_held3 (fun W => W.cell? ⟨wo.heap.size, 0, none⟩ = some (.int .i64 x) ∧ W.cell? (a.add ((c - 1) * 2)) = some (.int .i64 x')) (exact ⟨Loc.c 0 (L1.to (w' := _)), K1⟩) (fail)
     all_goals go_wp2_with fail
     go_ret
     exact ⟨by rw [← HE.out]; try rfl, bel⟩
    ·have HE : Hid (ldGo (some x) (l.drop (c + 1)) = R) := by
      have h9 := HS2.out
      rw [if_neg (by rintro ⟨t, ht, h8⟩; rw [HQ.out] at ht; injection ht with ht; subst ht; exact ho h8)] at h9
      exact h9
     have d5 : decide (x ≤ x') = false := decide_eq_false ho
     go_wp2_with fail
     go_region_held3 (fun W => W.cell? ⟨wo.heap.size, 0, none⟩ = some (.int .i64 x) ∧ W.cell? (a.add ((c - 1) * 2)) = some (.int .i64 x')) (exact ⟨Loc.c 0 (L1.to (w' := _)), K1⟩) (fail)
     all_goals go_wp2_with fail
     go_roundw
     case rel => exact ⟨c + 1, by omega, by go_num, by rw [HP.out]; exact HE, bel⟩
     case measure => simp only [intOf]; omega
  ·obtain rfl : c = n := by omega
   have HE : Hid (0 = R) := by
    have h9 := hr.out
    rw [List.drop_eq_nil_of_le (by rw [HN.out]; exact Nat.le_refl _)] at h9
    exact h9
   go_wp2_with fail
   go_ret
   exact ⟨by rw [← HE.out]; try rfl, bel⟩

/- The costs of groups of running times: the checker's closure. -/

/-- What is waited up to a time. -/
def bsum (t : Int) (xs : List (Int × Int)) : Int := xs.foldl (fun s x => s + x.2 * (t - x.1)) 0
theorem bsum_take (t : Int) (l : List (Int × Int)) (k : Nat) (e : Int × Int) (h : l[k]? = some e) : bsum t (l.take (k + 1)) = bsum t (l.take k) + e.2 * (t - e.1) := by
 unfold bsum
 rw [List.take_add_one, h, List.foldl_append]; rfl
/-- The time of an element. -/
def tim (l : List (Int × Int)) (i : Nat) : Int := ((l[i]?).map (·.1)).getD 0
/-- The cost of the elements from h to i - 1. -/
def bc (l : List (Int × Int)) (h i : Nat) : Int := bsum (tim l (i - 1)) ((l.take i).drop h)
/-- A list of running times is small. -/
def BSmall (l : List (Int × Int)) : Prop := l.length ≤ 64 ∧ ∀ x ∈ l, 0 ≤ x.1 ∧ x.1 ≤ 67108864 ∧ 1 ≤ x.2 ∧ x.2 ≤ 65536

theorem mul_bound {y d : Int} (h1 : 0 ≤ y) (h2 : y ≤ 65536) (h3 : -67108864 ≤ d) (h4 : d ≤ 67108864) : -4398046511104 ≤ y * d ∧ y * d ≤ 4398046511104 := by
 have a1 : 0 ≤ y * (67108864 - d) := Int.mul_nonneg h1 (by omega)
 have a2 : 0 ≤ y * (67108864 + d) := Int.mul_nonneg h1 (by omega)
 rw [Int.mul_sub] at a1
 rw [Int.mul_add] at a2
 omega

theorem tim_range {l : List (Int × Int)} (h : BSmall l) (i : Nat) : 0 ≤ tim l i ∧ tim l i ≤ 67108864 := by
 unfold tim
 cases hx : l[i]? with
 | none => simp
 | some x =>
   have := h.2 x (List.mem_of_getElem? hx)
   simp only [Option.map_some, Option.getD_some]
   omega

theorem bsum_range (t : Int) (h0 : 0 ≤ t) (h1 : t ≤ 67108864) : ∀ (xs : List (Int × Int)) (s : Int) (k : Nat), (∀ x ∈ xs, 0 ≤ x.1 ∧ x.1 ≤ 67108864 ∧ 1 ≤ x.2 ∧ x.2 ≤ 65536) → -(4398046511104 * (k : Int)) ≤ s → s ≤ 4398046511104 * (k : Int) → -(4398046511104 * ((k + xs.length : Nat) : Int)) ≤ xs.foldl (fun s x => s + x.2 * (t - x.1)) s ∧ xs.foldl (fun s x => s + x.2 * (t - x.1)) s ≤ 4398046511104 * ((k + xs.length : Nat) : Int)
 | [], s, k, _, h2, h3 => ⟨h2, h3⟩
 | x :: xs, s, k, h, h2, h3 => by
   have hx := h x (by simp)
   have hb := mul_bound (y := x.2) (d := t - x.1) (by omega) (by omega) (by omega) (by omega)
   have := bsum_range t h0 h1 xs (s + x.2 * (t - x.1)) (k + 1) (fun y hy => h y (by simp [hy])) (by omega) (by omega)
   rw [List.foldl_cons, List.length_cons]
   have e : k + (xs.length + 1) = k + 1 + xs.length := by omega
   rw [e]
   exact this

/-- A part of a list of running times. -/
theorem Tims.part {w : World} {a : Addr} {m cap : Nat} {l : List (Int × Int)} (h : Tims w (.slice (some a) m cap) l) {lo hi : Nat} (h1 : lo ≤ hi) (h2 : hi ≤ m) : Tims w (.slice (some (a.add (lo * 2))) (hi - lo) (cap - lo)) ((l.take hi).drop lo) := by
 obtain ⟨A', cap', hv, q1, q2, q3, q4⟩ := h
 injection hv with e1 e2 e3
 subst e1 e3
 have hlen : ((l.take hi).drop lo).length = hi - lo := by rw [List.length_drop, List.length_take]; omega
 refine ⟨_, _, by rw [hlen], by rw [hlen]; omega, by omega, fun hn => ?_, fun x hx => q4 x (List.mem_of_mem_take (List.mem_of_mem_drop hx))⟩
 obtain ⟨a', ha, hb, hc⟩ := q3 (by rw [hlen] at hn; omega)
 injection ha with ha
 subst ha
 refine ⟨_, rfl, by rw [add_block]; exact hb, fun i x hx => ?_⟩
 have hx2 : l[lo + i]? = some x := by
  rw [List.getElem?_drop, List.getElem?_take] at hx
  split at hx
  ·exact hx
  ·cases hx
 have h9 := hc (lo + i) x hx2
 have e : (a.add (lo * 2)).add (i * 2) = a.add ((lo + i) * 2) := by rw [addr_add_add, Nat.add_mul]
 rw [e]
 exact h9

set_option maxRecDepth 100000 in
set_option maxHeartbeats 8000000 in
theorem kbuck1_any (w : World) (a : Addr) (m cap g : Nat) (l : List (Int × Int)) (h i : Nat) (hl : Tims w (.slice (some a) m cap) l) (hml : l.length = m) (hg : w.cell? ⟨g, 0, none⟩ = some (.slice (some a) m cap)) (hgs : g < w.heap.size) (hb : BSmall l) (hh : h ≤ i) (hi : i ≤ m) :
 Calls Tryz.prog 131 (#[.int .i64 (h : Int), .int .i64 (i : Int)] ++ #[.pointer (some ⟨g, 0, none⟩)]) w fun e w' => e = .returned (.int .i64 (bc l h i)) ∧ Below w.heap.size w w' := by
 have H := Lib.hid hl
 have HM := Lib.hid hml
 have HB := Lib.hid hb
 obtain ⟨A0, cap0, e0, -, l1, l2⟩ := hl.op
 injection e0 with e3 e1 e2
 subst e2
 clear e3
 have hm64 : m ≤ 64 := by have := hb.1; omega
 have HG : Hid (∀ W, Below w.heap.size w W → W.cell? ⟨g, 0, none⟩ = some (.slice (some a) m cap)) := fun W hW => cell_keep (X := fun _ => False) hg hgs id (.of_below hW)
 clear hl hb e1
 have k1 : (h : Int) ≤ (i : Int) := by omega
 have k2 : (0 : Int) ≤ (h : Int) := by omega
 have k3 : (i : Int) ≤ (cap : Int) := by omega
 obtain ⟨R, hR⟩ : ∃ R, bc l h i = R := ⟨_, rfl⟩
 rw [hR]
 have HR : Hid (bsum (tim l (i - 1)) ((l.take i).drop h) = R) := hR
 clear hR
 by_cases hne : cap = h
 ·obtain rfl : i = h := by omega
  have HE : Hid (R = 0) := by
   rw [← HR.out, List.drop_eq_nil_of_le (by rw [List.length_take]; omega)]; rfl
  obtain rfl : cap = i := hne
  go_enter Tryz.func131, Tryz.ntmps131
  go_wp2_with fail
  go_loopw [6, 14] (fun t i wr => t = .int .i64 0 ∧ i = .int .i64 0 ∧ Below w.heap.size w wr) (fun _ _ _ => 0)
  case atStart => exact ⟨rfl, rfl, bel⟩
  case round =>
   obtain ⟨rfl, rfl, hB⟩ := hrel
   go_wp2_with fail
   go_ret
   exact ⟨by first | rfl | (rw [HE.out]; rfl), hB⟩
 have HT := Lib.hid (H.out.part hh hi)
 have HLEN : Hid (((l.take i).drop h).length = i - h) := by show _ = _; rw [List.length_drop, List.length_take, HM.out]; omega
 obtain ⟨xs, hxs⟩ : ∃ xs, (l.take i).drop h = xs := ⟨_, rfl⟩
 rw [hxs] at HT HLEN HR
 obtain ⟨len, hlen⟩ : ∃ n, i - h = n := ⟨_, rfl⟩
 rw [hlen] at HT HLEN
 have HX : Hid (∀ x ∈ xs, 0 ≤ x.1 ∧ x.1 ≤ 67108864 ∧ 1 ≤ x.2 ∧ x.2 ≤ 65536) := fun x hx => HB.out.2 x (by rw [← hxs] at hx; exact List.mem_of_mem_take (List.mem_of_mem_drop hx))
 have HLI : Hid (i = h + len) := by show _ = _; omega
 have hl64 : len ≤ 64 := by omega
 clear hxs
 go_enter Tryz.func131, Tryz.ntmps131
 go_wp2_with fail
 go_loopw [6, 14] (fun t j wr => ∃ (c : Nat), c ≤ len ∧ j = .int .i64 c ∧ t = .int .i64 (bsum (tim l (i - 1)) (xs.take c)) ∧ Below w.heap.size w wr) (fun _ j _ => len - (intOf j).toNat)
 case atStart => exact ⟨0, by omega, rfl, rfl, bel⟩
 case round =>
  obtain ⟨c, hc, rfl, rfl, hB⟩ := hrel
  obtain ⟨wo, rfl⟩ : ∃ wo : World, wo = wr := ⟨_, rfl⟩
  have y5 := hB.size; (try simp only [zs] at y5)
  obtain ⟨S, hS⟩ : ∃ S, bsum (tim l (i - 1)) (xs.take c) = S := ⟨_, rfl⟩
  have HS := Lib.hid hS
  rw [hS]
  clear hS
  by_cases hlt : c < len
  ·obtain ⟨⟨x, y⟩, hz⟩ : ∃ z, xs[c]? = some z := ⟨_, List.getElem?_eq_getElem (by rw [HLEN.out]; exact hlt)⟩
   obtain ⟨b, eb, hbb, x0, x1, zb1, zb2⟩ := (HT.out.keep (.of_below hB)).at hz
   injection eb with eb
   subst eb
   simp only at x0 x1 zb1 zb2
   rw [addr_one] at x1
   have hq := HX.out (x, y) (List.mem_of_getElem? hz)
   simp only at hq
   have hil : i - 1 < l.length := by rw [HM.out]; have := HLI.out; omega
   obtain ⟨⟨x', y'⟩, hz'⟩ : ∃ z, l[i - 1]? = some z := ⟨_, List.getElem?_eq_getElem hil⟩
   obtain ⟨a', ea', hb', x0', -, -, -⟩ := (H.out.keep (.of_below hB)).at hz'
   injection ea' with ea'
   subst ea'
   simp only at x0'
   have HTM : Hid (tim l (i - 1) = x') := by show _ = _; unfold tim; rw [hz']; rfl
   have hx' := tim_range HB.out (i - 1)
   rw [HTM.out] at hx'
   have HNX : Hid (bsum (tim l (i - 1)) (xs.take (c + 1)) = S + y * (x' - x)) := by
    show _ = _
    rw [bsum_take _ _ _ _ hz, HS.out, HTM.out]
   have hSr := bsum_range (tim l (i - 1)) (by rw [HTM.out]; omega) (by rw [HTM.out]; omega) (xs.take c) 0 0 (fun z hz => HX.out z (List.mem_of_mem_take hz)) (by omega) (by omega)
   have hSr2 : -281474976710656 ≤ S ∧ S ≤ 281474976710656 := by
    have e : bsum (tim l (i - 1)) (xs.take c) = S := HS.out
    unfold bsum at e
    rw [e, List.length_take] at hSr
    omega
   have hmb := mul_bound (y := y) (d := x' - x) (by omega) (by omega) (by omega) (by omega)
   have k4 : (c : Int) < (len : Int) := by omega
   have k5 : (0 : Int) ≤ (c : Int) := by omega
   have k6 : IntKind.i64.wrap ((i : Int) - 1) = ((i - 1 : Nat) : Int) := by rw [IntKind.wrap_i64]; have := HLI.out; omega
   have k7 : (0 : Int) ≤ ((i - 1 : Nat) : Int) := by omega
   have k8 : ((i - 1 : Nat) : Int) < (m : Int) := by rw [HM.out] at hil; omega
   have k9 : IntKind.i64.wrap (x' - x) = x' - x := by rw [IntKind.wrap_i64]; omega
   have k10 : IntKind.i64.wrap (y * (x' - x)) = y * (x' - x) := by rw [IntKind.wrap_i64]; omega
   have k11 : IntKind.i64.wrap (S + y * (x' - x)) = S + y * (x' - x) := by rw [IntKind.wrap_i64]; omega
   have hgo := HG.out wo hB
   have L1 := made1 wo #[.int .i64 x, .int .i64 y] 133
   have K0 : (wo.alloc (.cells #[.int .i64 x, .int .i64 y] 133)).cell? (a.add ((i - 1) * 2)) = some (.int .i64 x') := cell_keep (X := fun _ => False) x0' (by rw [add_block]; exact hb') id kp
   have KG : (wo.alloc (.cells #[.int .i64 x, .int .i64 y] 133)).cell? ⟨g, 0, none⟩ = some (.slice (some a) m cap) := HG.out _ bel
   clear hz hz' hSr hil hq hx' x0'
   go_wp2_with fail
   go_region_held3 (fun W => W.cell? ⟨wo.heap.size, 0, none⟩ = some (.int .i64 x) ∧ W.cell? ⟨wo.heap.size, 1, none⟩ = some (.int .i64 y) ∧ W.cell? (a.add ((i - 1) * 2)) = some (.int .i64 x') ∧ W.cell? ⟨g, 0, none⟩ = some (.slice (some a) m cap)) (exact ⟨Loc.c 0 (L1.to (w' := _)), Loc.c 1 (L1.to (w' := _)), K0, KG⟩) (fail)
   go_wp2_with fail
   go_roundw
   case rel => exact ⟨c + 1, by omega, by go_num, by first | rfl | (rw [HNX.out]; rfl) | rw [HNX.out], bel⟩
   case measure => simp only [intOf]; omega
  ·obtain rfl : c = len := by omega
   have HE : Hid (S = R) := by
    show _ = _
    rw [← HS.out, ← HR.out, List.take_of_length_le (by rw [HLEN.out]; exact Nat.le_refl _)]
   go_wp2_with fail
   go_ret
   exact ⟨by first | rfl | (rw [HE.out]; rfl), bel⟩
end Go.Proofs.YtbdcjhoedhhabaaGreat

