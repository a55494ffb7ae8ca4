/- Contracts of the functions that the statements reach, part 33. -/
import Derived.Test.YtbdcjhoedhhabaaGreatRows
import Derived.Test.YtbdcjhoedhhabaaGreatE26
import Derived.Test.YtbdcjhoedhhabaaGreatE29
import Derived.Test.YtbdcjhoedhhabaaGreatE32
set_option linter.unusedSimpArgs false
set_option linter.unusedVariables false

/- mincut.asked; lists of flows in memory. -/
namespace Go.Proofs.YtbdcjhoedhhabaaGreat
open Go.RowKit
attribute [local go_sem ↓] Go.wp_at_zero Go.wp_at_succ

/-- The code of a graph, weights and lists of nodes. -/
structure AskM (n : Int) (es : List (Int × Int)) (ws : List Int) (LL : List (List Int)) (r : Int) : Prop where
 bad : ¬ GraphOk n es → r = 1
 len : GraphOk n es → (ws.length : Int) ≠ n → r = 2
 rng : GraphOk n es → (ws.length : Int) = n → ¬ ((∀ x ∈ ws, x ≤ 1048576) ∧ ∀ l ∈ LL, NodesOk n l) → r = 3
 ok : GraphOk n es → (ws.length : Int) = n → ((∀ x ∈ ws, x ≤ 1048576) ∧ ∀ l ∈ LL, NodesOk n l) → r = 0

set_option maxRecDepth 100000 in
set_option maxHeartbeats 16000000 in
theorem asked_any' (w : World) (n : Int) (vE vW vL : Value) (es : List (Int × Int)) (ws : List Int) (LL : List (List Int)) (hE : Tims w vE es) (hW : IntsV w vW ws) (hL : IMat w vL LL) (hn : -9223372036854775808 ≤ n ∧ n ≤ 9223372036854775807) :
 Calls Tryz.prog 157 #[.agg #[.int .i64 n, vE], vW, vL] w fun e w' => (∃ r : Int, e = .returned (.int .i64 r) ∧ Hid (AskM n es ws LL r)) ∧ Below w.heap.size w w' := by
 have HE0 := Lib.hid hE
 have HW0 := Lib.hid hW
 have HL0 := Lib.hid hL
 obtain ⟨AE, cE, rfl, -, n1, n2⟩ := hE.op
 obtain ⟨AW, cW, rfl, -, w1, w2⟩ := hW.op
 obtain ⟨AL, cL, rfl, -, l1, l2⟩ := hL.op
 obtain ⟨m, hm⟩ : ∃ m, ws.length = m := ⟨_, rfl⟩
 have HM := Lib.hid hm
 have HW : Hid (IntsV w (.slice AW m cW) ws) := by have h9 := HW0.out; rw [hm] at h9; exact h9
 obtain ⟨k, hk⟩ : ∃ m, LL.length = m := ⟨_, rfl⟩
 have HK := Lib.hid hk
 have HL : Hid (IMat w (.slice AL k cL) LL) := by have h9 := HL0.out; rw [hk] at h9; exact h9
 obtain ⟨me, hme⟩ : ∃ m, es.length = m := ⟨_, rfl⟩
 have HE : Hid (Tims w (.slice AE me cE) es) := by have h9 := HE0.out; rw [hme] at h9; exact h9
 rw [hm] at w1 ⊢
 rw [hk] at l1 ⊢
 rw [hme] at n1 ⊢
 have lm : m ≤ 9223372036854775807 := by unfold maxLen at w2; omega
 have lk : k ≤ 9223372036854775807 := by unfold maxLen at l2; omega
 clear hE hW hL hm hk hme HE0 HW0 HL0
 have LG := made1 w #[.int .i64 n, .slice AE me cE] 109
 go_enter Tryz.func157, Tryz.ntmps157
 go_wp2_with fail
 refine (dcheck_any _ n _ es (HE.out.keep kp)).mono ?_
 rintro e w1 ⟨⟨r, rfl, hr⟩, hb1⟩
 have y1 := hb1.size; (try simp only [zs] at y1)
 have HB1 : Hid (Below w.heap.size w w1) := by show Below _ _ _; exact bel
 have HLG : Hid (Loc w1 w.heap.size 109 #[.int .i64 n, .slice AE me cE]) := by show Loc _ _ _ _; exact Loc.below LG hb1
 clear LG hb1
 by_cases hg : GraphOk n es
 case neg =>
  have HV : Hid (AskM n es ws LL 1) := ⟨fun _ => rfl, fun h => absurd h hg, fun h => absurd h hg, fun h => absurd h hg⟩
  have d0 : (r != 0) = true := by rw [bne_iff_ne]; exact fun h => hg (hr.out.1 h)
  clear hr hg
  go_wp2_with fail
  go_ret
  exact ⟨⟨_, rfl, HV⟩, HB1.out⟩
 obtain rfl : r = 0 := hr.out.2 hg
 have HG := Lib.hid hg
 obtain ⟨e1, g1, -⟩ := Loc.all HLG.out (w' := w1)
 clear hr hg
 by_cases hmn : (m : Int) = n
 case neg =>
  have HV : Hid (AskM n es ws LL 2) := ⟨fun h => absurd HG.out h, fun _ _ => rfl, fun _ h => absurd (by rw [HM.out] at h; exact h) hmn, fun _ h => absurd (by rw [HM.out] at h; exact h) hmn⟩
  have d0 : ((m : Int) != n) = true := by rw [bne_iff_ne]; exact hmn
  clear hmn
  go_wp2_with fail
  go_ret
  exact ⟨⟨_, rfl, HV⟩, HB1.out⟩
 subst hmn
 have HWL : Hid ((ws.length : Int) = (m : Int)) := by show _ = _; rw [HM.out]
 have HBAD : Hid (¬ ((∀ x ∈ ws, x ≤ 1048576) ∧ ∀ l ∈ LL, NodesOk m l) → AskM m es ws LL 3) := fun h => ⟨fun h' => absurd HG.out h', fun _ h' => absurd HWL.out h', fun _ _ _ => rfl, fun _ _ h' => absurd h' h⟩
 have HOK : Hid (((∀ x ∈ ws, x ≤ 1048576) ∧ ∀ l ∈ LL, NodesOk m l) → AskM m es ws LL 0) := fun h => ⟨fun h' => absurd HG.out h', fun _ h' => absurd HWL.out h', fun _ _ h' => absurd h h', fun _ _ _ => rfl⟩
 have d0 : ((m : Int) != (m : Int)) = false := bne_self_eq_false _
 go_wp2_with fail
 clear d0 e1 g1
 go_loopw [23] (fun i wr => ∃ (c : Nat), c ≤ m ∧ i = .int .i64 c ∧ Hid (∀ (i : Nat) (x : Int), i < c → ws[i]? = some x → x ≤ 1048576) ∧ Hid (Loc wr w.heap.size 109 #[.int .i64 (m : Int), .slice AE me cE]) ∧ Below w.heap.size w wr) (fun i _ => m - (intOf i).toNat)
 case atStart => exact ⟨0, by omega, rfl, Lib.hid (fun i x hi => absurd hi (by omega)), HLG, HB1.out⟩
 case round =>
  clear HLG HB1
  obtain ⟨c, hc, rfl, hall, hLG, hB⟩ := hrel
  obtain ⟨wo, rfl⟩ : ∃ wo : World, wo = wr := ⟨_, rfl⟩
  have y5 := hB.size; (try simp only [zs] at y5)
  by_cases hlt : c < m
  ·obtain ⟨x, hx⟩ : ∃ z, ws[c]? = some z := ⟨_, List.getElem?_eq_getElem (by rw [HM.out]; exact hlt)⟩
   obtain ⟨a, rfl, hab, hcell, -, -⟩ := (HW.out.keep (.of_below hB)).at hx
   have HX := Lib.hid hx
   have k0 : (0 : Int) ≤ (c : Int) := by omega
   have k1 : (c : Int) < (m : Int) := by omega
   clear hx
   by_cases hb : 1048576 < x
   ·have HV := Lib.hid (HBAD.out (fun h => by have := h.1 x (List.mem_of_getElem? HX.out); omega))
    have d1 : decide (1048576 < x) = true := decide_eq_true hb
    clear hb
    go_wp2_with fail
    go_ret
    exact ⟨⟨_, rfl, HV⟩, hB⟩
   ·have HNX : Hid (∀ (i : Nat) (x : Int), i < c + 1 → ws[i]? = some x → x ≤ 1048576) := fun i z hi hz => by
     by_cases e : i < c
     ·exact hall.out i z e hz
     ·obtain rfl : i = c := by omega
      rw [HX.out] at hz
      injection hz with hz
      omega
    have d1 : decide (1048576 < x) = false := decide_eq_false hb
    clear hb
    go_wp2_with fail
    go_roundw
    case rel => exact ⟨c + 1, by omega, by go_num, HNX, hLG, hB⟩
    case measure => simp only [intOf]; omega
  ·obtain rfl : c = m := by omega
   have HWS : Hid (∀ x ∈ ws, x ≤ 1048576) := fun x hx => by
    obtain ⟨i, hi, e⟩ := List.getElem_of_mem hx
    exact hall.out i x (by rw [← HM.out]; exact hi) (by rw [List.getElem?_eq_getElem hi, e])
   go_wp2_with fail
   go_loopw [32] (fun i wr => ∃ (q : Nat), q ≤ k ∧ i = .int .i64 q ∧ Hid (∀ (i : Nat) (l : List Int), i < q → LL[i]? = some l → NodesOk c l) ∧ Hid (Loc wr w.heap.size 109 #[.int .i64 (c : Int), .slice AE me cE]) ∧ Below w.heap.size w wr) (fun i _ => k - (intOf i).toNat)
   case atStart => exact ⟨0, by omega, rfl, Lib.hid (fun i x hi => absurd hi (by omega)), hLG, hB⟩
   case round =>
    clear hLG hB
    obtain ⟨q, hq, rfl, hlls, hLG, hB⟩ := hrel
    obtain ⟨wp, rfl⟩ : ∃ wp : World, wp = wr := ⟨_, rfl⟩
    have y6 := hB.size; (try simp only [zs] at y6)
    by_cases hlt2 : q < k
    ·obtain ⟨l, hl⟩ : ∃ z, LL[q]? = some z := ⟨_, List.getElem?_eq_getElem (by rw [HK.out]; exact hlt2)⟩
     obtain ⟨aL, BN, cl, rfl, hab, hcl, hnl, l3', l4'⟩ := HL.out.at hl
     have hcell : wp.cell? (aL.add q) = some (.slice BN l.length cl) := cell_keep (X := fun _ => False) hcl (by rw [add_block]; exact hab) id (.of_below hB)
     obtain ⟨ln, hln⟩ : ∃ q, l.length = q := ⟨_, rfl⟩
     have HLN := Lib.hid hln
     rw [hln] at hcell hnl l3'
     have HNL := Lib.hid hnl
     have HLL := Lib.hid hl
     have lln : ln ≤ 9223372036854775807 := by unfold maxLen at l4'; omega
     have k0 : (0 : Int) ≤ (q : Int) := by omega
     have k1 : (q : Int) < (k : Int) := by omega
     clear hl hln hnl hcl
     go_wp2_with fail
     clear hcell
     go_loopw [38] (fun i wr => ∃ (j : Nat), j ≤ ln ∧ i = .int .i64 j ∧ Hid (∀ (i : Nat) (x : Int), i < j → l[i]? = some x → 0 ≤ x ∧ x < (c : Int)) ∧ Hid (Loc wr w.heap.size 109 #[.int .i64 (c : Int), .slice AE me cE]) ∧ Below w.heap.size w wr) (fun i _ => ln - (intOf i).toNat)
     case atStart => exact ⟨0, by omega, rfl, Lib.hid (fun i x hi => absurd hi (by omega)), hLG, hB⟩
     case round =>
      clear hLG hB
      obtain ⟨j, hj, rfl, hnds, hLG, hB⟩ := hrel
      obtain ⟨wq, rfl⟩ : ∃ wq : World, wq = wr := ⟨_, rfl⟩
      have y7 := hB.size; (try simp only [zs] at y7)
      obtain ⟨e1, g1, -⟩ := Loc.all hLG.out (w' := wq)
      by_cases hlt3 : j < ln
      ·obtain ⟨x, hx⟩ : ∃ z, l[j]? = some z := ⟨_, List.getElem?_eq_getElem (by rw [HLN.out]; exact hlt3)⟩
       obtain ⟨aX, rfl, habx, hcx, -, -⟩ := (HNL.out.keep (.of_below hB)).at hx
       have HX := Lib.hid hx
       have HBX : Hid (¬ (0 ≤ x ∧ x < (c : Int)) → AskM c es ws LL 3) := fun h => HBAD.out (fun h' => h (h'.2 l (List.mem_of_getElem? HLL.out) x (List.mem_of_getElem? HX.out)))
       have k2 : (0 : Int) ≤ (j : Int) := by omega
       have k3 : (j : Int) < (ln : Int) := by omega
       clear hx
       by_cases z0 : x < 0
       ·have HV := Lib.hid (HBX.out (fun h => by omega))
        have d1 : decide (x < 0) = true := decide_eq_true z0
        clear z0
        go_wp2_with fail
        go_ret
        exact ⟨⟨_, rfl, HV⟩, hB⟩
       have d1 : decide (x < 0) = false := decide_eq_false z0
       by_cases z1 : (c : Int) ≤ x
       ·have HV := Lib.hid (HBX.out (fun h => by omega))
        have d2 : decide ((c : Int) ≤ x) = true := decide_eq_true z1
        clear z0 z1
        go_wp2_with fail
        go_ret
        exact ⟨⟨_, rfl, HV⟩, hB⟩
       have d2 : decide ((c : Int) ≤ x) = false := decide_eq_false z1
       have HNX : Hid (∀ (i : Nat) (x : Int), i < j + 1 → l[i]? = some x → 0 ≤ x ∧ x < (c : Int)) := fun i z hi hz => by
        by_cases e : i < j
        ·exact hnds.out i z e hz
        ·obtain rfl : i = j := by omega
         rw [HX.out] at hz
         injection hz with hz
         omega
       clear z0 z1
       go_wp2_with fail
       go_roundw
       case rel => exact ⟨j + 1, by omega, by go_num, HNX, hLG, hB⟩
       case measure => simp only [intOf]; omega
      ·obtain rfl : j = ln := by omega
       have HNX : Hid (∀ (i : Nat) (l : List Int), i < q + 1 → LL[i]? = some l → NodesOk c l) := fun i z hi hz => by
        by_cases e : i < q
        ·exact hlls.out i z e hz
        ·obtain rfl : i = q := by omega
         rw [HLL.out] at hz
         injection hz with hz
         subst hz
         exact fun x hx => by
          obtain ⟨i, hi, e⟩ := List.getElem_of_mem hx
          exact hnds.out i x (by rw [← HLN.out]; exact hi) (by rw [List.getElem?_eq_getElem hi, e])
       go_wp2_with fail
       go_roundw
       case rel => exact ⟨q + 1, by omega, by go_num, HNX, hLG, hB⟩
       case measure => simp only [intOf]; omega
    ·obtain rfl : q = k := by omega
     have HV : Hid (AskM c es ws LL 0) := HOK.out ⟨HWS.out, fun l hl => by
      obtain ⟨i, hi, e⟩ := List.getElem_of_mem hl
      exact hlls.out i l (by rw [← HK.out]; exact hi) (by rw [List.getElem?_eq_getElem hi, e])⟩
     go_wp2_with fail
     go_ret
     exact ⟨⟨_, rfl, HV⟩, hB⟩

/-- A list of flows that is read. -/
def FlowsV (w : World) (v : Value) (l : List (List Int × Int)) : Prop :=
 ∃ A cap, v = .slice A l.length cap ∧ l.length ≤ cap ∧ cap ≤ maxLen ∧ (l.length ≠ 0 → ∃ a, A = some a ∧ a.block < w.heap.size ∧ ∀ (i : Nat) (x : List Int × Int), l[i]? = some x → ∃ B c, w.cell? (a.add (i * 2)) = some (.slice B x.1.length c) ∧ w.cell? ((a.add (i * 2)).add 1) = some (.int .i64 x.2) ∧ IntsV w (.slice B x.1.length c) x.1) ∧ ∀ x ∈ l, -9223372036854775808 ≤ x.2 ∧ x.2 ≤ 9223372036854775807
theorem FlowsV.keep {w w' : World} {v : Value} {l : List (List Int × Int)} (h : FlowsV w v l) (hk : Keep (fun _ => False) w w') : FlowsV w' v l := by
 obtain ⟨A, cap, hv, h1, h2, h3, h4⟩ := h
 refine ⟨A, cap, hv, h1, h2, fun hn => ?_, h4⟩
 obtain ⟨a, ha, hb, hc⟩ := h3 hn
 refine ⟨a, ha, Nat.lt_of_lt_of_le hb hk.size, fun i z hz => ?_⟩
 obtain ⟨B, c, q1, q2, q3⟩ := hc i z hz
 exact ⟨B, c, cell_keep q1 (by rw [add_block]; exact hb) id hk, cell_keep q2 (by rw [add_block, add_block]; exact hb) id hk, q3.keep hk⟩
theorem FlowsV.op {w : World} {v : Value} {l : List (List Int × Int)} (h : FlowsV w v l) : ∃ (A : Option Addr) (cap : Nat), v = .slice A l.length cap ∧ FlowsV w (.slice A l.length cap) l ∧ l.length ≤ cap ∧ cap ≤ maxLen := by
 have h0 := h
 obtain ⟨A, cap, rfl, h1, h2, -⟩ := h
 exact ⟨A, cap, rfl, h0, h1, h2⟩
theorem FlowsV.at {w : World} {l : List (List Int × Int)} {A : Option Addr} {n cap : Nat} (h : FlowsV w (.slice A n cap) l) {i : Nat} {z : List Int × Int} (hz : l[i]? = some z) : ∃ (a : Addr) (B : Option Addr) (c : Nat), A = some a ∧ a.block < w.heap.size ∧ w.cell? (a.add (i * 2)) = some (.slice B z.1.length c) ∧ w.cell? ((a.add (i * 2)).add 1) = some (.int .i64 z.2) ∧ IntsV w (.slice B z.1.length c) z.1 ∧ (-9223372036854775808 ≤ z.2 ∧ z.2 ≤ 9223372036854775807) := by
 obtain ⟨A', cap', hv, h1, h2, h3, h4⟩ := h
 injection hv with e1 e2 e3
 subst e1
 obtain ⟨a, ha, hb, hc⟩ := h3 (by have := (List.getElem?_eq_some_iff.1 hz).1; omega)
 obtain ⟨B, c, q1, q2, q3⟩ := hc i z hz
 exact ⟨a, B, c, ha, hb, q1, q2, q3, h4 z (List.mem_of_getElem? hz)⟩
/-- Two lists side by side. -/
theorem imat_two {w : World} {g : Nat} {v1 v2 : Value} {a b : List Int} (L : Loc w g 27 #[v1, v2]) (h1 : IntsV w v1 a) (h2 : IntsV w v2 b) : IMat w (.slice (some ⟨g, 0, none⟩) 2 2) [a, b] := by
 refine ⟨_, _, rfl, Nat.le_refl _, by decide, fun _ => ⟨_, rfl, L.lt, fun i l hl => ?_⟩⟩
 match i, hl with
 | 0, hl =>
   injection hl with hl
   subst hl
   obtain ⟨B, c, e, h3, -, -⟩ := h1.op
   exact ⟨B, c, by rw [add0, Loc.cell L, ← e]; rfl, h3⟩
 | 1, hl =>
   injection hl with hl
   subst hl
   obtain ⟨B, c, e, h3, -, -⟩ := h2.op
   exact ⟨B, c, by rw [add0, Loc.cell L, ← e]; rfl, h3⟩

/- mincut.Check: the code of a cut with flows. -/

theorem RowI.made {w : World} {base g n : Nat} (h : w.ownsRow base 3 1 (.slice (some ⟨g, 0, none⟩) n n) n (List.replicate n (.int .i64 0))) : RowI w g (List.replicate n 0) := rowI_zeros h
theorem good_flow {n : Nat} {es : List (Int × Int)} {ws s t cut : List Int} {fs : List (List Int × Int)} (hg : GoodCut n es ws s t cut fs) {c : Nat} {ld : List Int} (hf : FlowsTo es ws s t fs n c ld) {f : List Int × Int} (he : fs[c]? = some f) : ∃ ld', FlowOk es ws s t f ld ld' := by
 obtain ⟨-, -, ⟨le, hle⟩, -⟩ := hg
 have hc := (List.getElem?_eq_some_iff.1 he).1
 obtain ⟨l1, h1⟩ := FlowsTo.down (c := c + 1) (fs.length - (c + 1)) (by rw [show c + 1 + (fs.length - (c + 1)) = fs.length by omega]; exact hle)
 obtain ⟨ld0, f', h2, h3, h4⟩ := h1
 rw [he] at h3
 injection h3 with h3
 subst h3
 rw [FlowsTo.uniq hf h2]
 exact ⟨l1, h4⟩

set_option maxRecDepth 100000 in
set_option maxHeartbeats 32000000 in
theorem mcheck_any (w : World) (n : Int) (vE vW vF vT vC vX : Value) (es : List (Int × Int)) (ws s t cut : List Int) (fs : List (List Int × Int)) (hE : Tims w vE es) (hW : IntsV w vW ws) (hF : IntsV w vF s) (hT : IntsV w vT t) (hC : IntsV w vC cut) (hX : FlowsV w vX fs)
 (hnb : -9223372036854775808 ≤ n ∧ n ≤ 9223372036854775807) (hel : es.length ≤ 1000) (hcl : cut.length ≤ 1000) (hfl : fs.length ≤ 1000) (hpl : ∀ f ∈ fs, f.1.length ≤ 1000) :
 Calls Tryz.prog 58 #[.agg #[.int .i64 n, vE], vW, vF, vT, vC, vX] w fun e w' => (∃ r : Int, e = .returned (.int .i64 r) ∧ Hid (CutCode n es ws s t cut fs r)) ∧ Below w.heap.size w w' := by
 have HE0 := Lib.hid hE
 have HW0 := Lib.hid hW
 have HF0 := Lib.hid hF
 have HT0 := Lib.hid hT
 have HC0 := Lib.hid hC
 have HX0 := Lib.hid hX
 have HEL := Lib.hid hel
 have HPL := Lib.hid hpl
 obtain ⟨AE, cE, rfl, -, n1, n2⟩ := hE.op
 obtain ⟨AW, cW, rfl, -, w1, w2⟩ := hW.op
 obtain ⟨AF, cF, rfl, -, f1, f2⟩ := hF.op
 obtain ⟨AT, cT, rfl, -, t1, t2⟩ := hT.op
 obtain ⟨AC, cC, rfl, -, c1, c2⟩ := hC.op
 obtain ⟨AX, cX, rfl, -, x1, x2⟩ := hX.op
 obtain ⟨me, hme⟩ : ∃ m, es.length = m := ⟨_, rfl⟩
 have HE : Hid (Tims w (.slice AE me cE) es) := by have h9 := HE0.out; rw [hme] at h9; exact h9
 obtain ⟨mw, hmw⟩ : ∃ m, ws.length = m := ⟨_, rfl⟩
 have HMW := Lib.hid hmw
 have HW : Hid (IntsV w (.slice AW mw cW) ws) := by have h9 := HW0.out; rw [hmw] at h9; exact h9
 obtain ⟨mf, hmf⟩ : ∃ m, s.length = m := ⟨_, rfl⟩
 have HF : Hid (IntsV w (.slice AF mf cF) s) := by have h9 := HF0.out; rw [hmf] at h9; exact h9
 obtain ⟨mt, hmt⟩ : ∃ m, t.length = m := ⟨_, rfl⟩
 have HT : Hid (IntsV w (.slice AT mt cT) t) := by have h9 := HT0.out; rw [hmt] at h9; exact h9
 obtain ⟨mc, hmc⟩ : ∃ m, cut.length = m := ⟨_, rfl⟩
 have HMC := Lib.hid hmc
 have HC : Hid (IntsV w (.slice AC mc cC) cut) := by have h9 := HC0.out; rw [hmc] at h9; exact h9
 obtain ⟨mx, hmx⟩ : ∃ m, fs.length = m := ⟨_, rfl⟩
 have HMX := Lib.hid hmx
 have HX : Hid (FlowsV w (.slice AX mx cX) fs) := by have h9 := HX0.out; rw [hmx] at h9; exact h9
 rw [hme] at n1 ⊢
 rw [hmw] at w1 ⊢
 rw [hmf] at f1 ⊢
 rw [hmt] at t1 ⊢
 rw [hmc] at c1 hcl ⊢
 rw [hmx] at x1 hfl ⊢
 have LG := made1 w #[.int .i64 n, .slice AE me cE] 109
 have L2 := made2 w (.cells #[.int .i64 n, .slice AE me cE] 109) #[.slice AF mf cF, .slice AT mt cT] 27
 clear hE hW hF hT hC hX hel hpl hme hmw hmf hmt hmc hmx HE0 HW0 HF0 HT0 HC0 HX0
 go_enter Tryz.func58, Tryz.ntmps58
 go_wp2_with fail
 refine (asked_any' _ n _ _ _ es ws [s, t] (HE.out.keep kp) (HW.out.keep kp) (imat_two L2 (HF.out.keep kp) (HT.out.keep kp)) hnb).mono ?_
 rintro e w1 ⟨⟨r, rfl, hr⟩, hb1⟩
 have y1 := hb1.size; (try simp only [zs] at y1)
 have HB1 : Hid (Below w.heap.size w w1) := by show Below _ _ _; exact bel
 have HLG : Hid (Loc w1 w.heap.size 109 #[.int .i64 n, .slice AE me cE]) := by
  show Loc _ _ _ _
  exact Loc.below (LG.alloc _) hb1
 have hw1 : w.heap.size < w1.heap.size := HLG.out.lt
 clear LG L2 hb1
 have HBADR : Hid (r ≠ 0 → CutCode n es ws s t cut fs r) := fun h0 => by
  by_cases h1 : GraphOk n es
  ·by_cases h2 : (ws.length : Int) = n
   ·by_cases h3 : (∀ x ∈ ws, x ≤ 1048576) ∧ NodesOk n s ∧ NodesOk n t
    ·exact absurd (hr.out.ok h1 h2 ⟨h3.1, fun l hl => by
      rcases List.mem_cons.1 hl with rfl | hl
      ·exact h3.2.1
      ·rw [List.mem_singleton] at hl; subst hl; exact h3.2.2⟩) h0
    ·have h4 := hr.out.rng h1 h2 (fun h => h3 ⟨h.1, h.2 s (by simp), h.2 t (by simp)⟩)
     exact ⟨fun h => absurd h1 h, fun _ h => absurd h2 h, fun _ _ _ => h4, fun _ _ h => absurd h h3, fun _ _ h => absurd h h3⟩
   ·have h4 := hr.out.len h1 h2
    exact ⟨fun h => absurd h1 h, fun _ _ => h4, fun _ h => absurd h h2, fun _ h => absurd h h2, fun _ h => absurd h h2⟩
  ·have h4 := hr.out.bad h1
   exact ⟨fun _ => h4, fun h => absurd h h1, fun h => absurd h h1, fun h => absurd h h1, fun h => absurd h h1⟩
 by_cases hr0 : r = 0
 case neg =>
  have HV := Lib.hid (HBADR.out hr0)
  have d0 : (r != 0) = true := by rw [bne_iff_ne]; exact hr0
  clear hr hr0
  go_wp2_with fail
  go_ret
  exact ⟨⟨_, rfl, HV⟩, HB1.out⟩
 subst hr0
 have h1 : GraphOk n es := Classical.byContradiction fun h => by have := hr.out.bad h; omega
 have h2 : (ws.length : Int) = n := Classical.byContradiction fun h => by have := hr.out.len h1 h; omega
 have h3 : (∀ x ∈ ws, x ≤ 1048576) ∧ ∀ l ∈ [s, t], NodesOk n l := Classical.byContradiction fun h => by have := hr.out.rng h1 h2 h; omega
 rw [HMW.out] at h2
 subst h2
 have HG := Lib.hid h1
 have HWO : Hid (WsOk mw ws) := ⟨HMW.out, h3.1⟩
 have HS : Hid (NodesOk mw s) := h3.2 s (by simp)
 have HTT : Hid (NodesOk mw t) := h3.2 t (by simp)
 have HNR : Hid (∀ e ∈ es, 0 ≤ e.2 ∧ e.2 < (mw : Int)) := fun e he => (h1.2.2 e he).2
 have hn : mw ≤ 4096 := by have := h1.1; omega
 have HOK : Hid (GoodCut mw es ws s t cut fs → CutCode mw es ws s t cut fs 0) := fun h => ⟨fun h' => absurd HG.out h', fun _ h' => absurd (by rw [HMW.out]) h', fun _ _ h' => absurd ⟨HWO.out.2, HS.out, HTT.out⟩ h', fun _ _ _ _ => rfl, fun _ _ _ h' => absurd h h'⟩
 have HNOT : Hid (¬ GoodCut mw es ws s t cut fs → CutCode mw es ws s t cut fs 13) := fun h => ⟨fun h' => absurd HG.out h', fun _ h' => absurd (by rw [HMW.out]) h', fun _ _ h' => absurd ⟨HWO.out.2, HS.out, HTT.out⟩ h', fun _ _ _ h' => absurd h' h, fun _ _ _ _ => rfl⟩
 have hmw0 : -9223372036854775808 ≤ (mw : Int) := hnb.1
 obtain ⟨⟨e1, e2⟩, g1, q1⟩ := Loc.two HLG.out
 clear hr h1 h3 HBADR hnb
 go_wp2_with fail
 refine (successors_any _ mw _ es (HE.out.keep (.of_below HB1.out)) HG.out HEL.out).mono ?_
 rintro e w2 ⟨⟨gN, L, rfl, hN, hL, hA⟩, hb2⟩
 have y2 := hb2.size; (try simp only [zs] at y2)
 have HB2 : Hid (Below w.heap.size w w2) := HB1.out.trans (hb2.mono HB1.out.size)
 have HLG2 : Hid (Loc w2 w.heap.size 109 #[.int .i64 (mw : Int), .slice AE me cE]) := HLG.out.below hb2
 clear e1 e2 g1 q1
 go_wp2_with fail
 refine (proved_any _ mw _ _ _ _ _ L es ws s t cut hN.out hL.out (HW.out.keep (.of_below HB2.out)) (HF.out.keep (.of_below HB2.out)) (HT.out.keep (.of_below HB2.out)) (HC.out.keep (.of_below HB2.out)) HMW.out hn HS.out HTT.out hA.out HNR.out).mono ?_
 rintro e w3 ⟨⟨b, rfl, hb⟩, hb3⟩
 have y3 := hb3.size; (try simp only [zs] at y3)
 have HB3 : Hid (Below w.heap.size w w3) := HB2.out.trans (hb3.mono HB2.out.size)
 have HLG3 : Hid (Loc w3 w.heap.size 109 #[.int .i64 (mw : Int), .slice AE me cE]) := HLG2.out.below hb3
 have HN3 : Hid (IMat w3 (.slice (some ⟨gN, 0, none⟩) mw mw) L) := hN.out.keep (.of_below hb3)
 cases b
 case false =>
  have HV := Lib.hid (HNOT.out (fun h => by
   have h9 := hb.out.2 ⟨h.1, h.2.1⟩
   cases h9))
  clear hb
  go_wp2_with fail
  go_ret
  exact ⟨⟨_, rfl, HV⟩, HB3.out⟩
 have HCS : Hid (CutTo ws cut mw cut.length ∧ Sep es s t cut) := hb.out.1 rfl
 have HSS : Hid (w3.cell? ⟨w.heap.size, 0, none⟩ = some (.int .i64 (mw : Int))) := Loc.cell HLG3.out 0
 clear hb
 go_wp2_with fail
 refine wp_region_noPanic ?_
 refine wp_region_held_drew (S := (fun W => W.cell? ⟨w.heap.size, 0, none⟩ = some (.int .i64 (mw : Int)))) (by kernel_rfl) ?_ (fun hHeld => ?_)
 ·exact HSS.out
 refine takeT 0 hHeld ?_
 (try simp only [Act.put, ly])
 refine takeT 1 hHeld ?_
 (try simp only [Act.put, ly])
 refine takeT 2 hHeld ?_
 (try simp only [Act.put, ly])
 refine takeT 4 hHeld ?_
 (try simp only [Act.put, ly])
 refine takeT 5 hHeld ?_
 (try simp only [Act.put, ly])
 refine takeT 6 hHeld ?_
 (try simp only [Act.put, ly])
 refine wpAnyH_ready (rs := [3]) (by kernel_rfl) (by simp) ?_
 refine AllReadyH.cons rfl (fun K hK => ?_) AllReadyH.nil
 go_simp
 refine (marks_any _ mw _ s (HF.out.keep (.of_below HB3.out.drew)) HS.out hn).mono ?_
 rintro e w4 ⟨⟨gF, rfl, hgF, hRF⟩, hb4⟩
 have y4 := hb4.size; (try simp only [zs] at y4)
 have HLG4 : Hid (Loc w4 w.heap.size 109 #[.int .i64 (mw : Int), .slice AE me cE]) := Loc.below (w := w3.drew) HLG3.out hb4
 have HB4 : Hid (Below w.heap.size w w4) := HB3.out.drew.trans (hb4.mono HB3.out.size)
 (try go_wp2_with fail)
 refine hK.out _ _ ?_ (fun hHeld => ?_)
 ·(try dsimp only)
  exact Loc.cell HLG4.out 0
 clear hK K
 (try simp only [Act.put, ly])
 refine wpAnyH_ready (rs := [7]) (by kernel_rfl) (by simp) ?_
 refine AllReadyH.cons rfl (fun K hK => ?_) AllReadyH.nil
 go_simp
 refine (marks_any _ mw _ t (HT.out.keep (.of_below HB4.out)) HTT.out hn).mono ?_
 rintro e w5 ⟨⟨gL, rfl, hgL, hRL⟩, hb5⟩
 have y5 := hb5.size; (try simp only [zs] at y5)
 have HLG5 : Hid (Loc w5 w.heap.size 109 #[.int .i64 (mw : Int), .slice AE me cE]) := HLG4.out.below hb5
 have HB5 : Hid (Below w.heap.size w w5) := HB4.out.trans (hb5.mono HB4.out.size)
 (try go_wp2_with fail)
 refine hK.out _ _ ?_ (fun hHeld => ?_)
 ·(try dsimp only)
  exact Loc.cell HLG5.out 0
 clear hK K
 (try simp only [Act.put, ly])
 refine takeT 8 hHeld ?_
 (try simp only [Act.put, ly])
 refine takeT 9 hHeld ?_
 (try simp only [Act.put, ly])
 refine wpAnyH_done (by kernel_rfl) ?_ _
 refine NoPanic.normal ?_
 have HRF : Hid (RowB w5 gF (rowP mw (· ∈ s))) := hRF.out.below hb5
 have HN5 : Hid (IMat w5 (.slice (some ⟨gN, 0, none⟩) mw mw) L) := HN3.out.keep (.of_below ((Below.refl _ w3).drew.trans ((hb4.mono (Nat.le_refl _)).trans (hb5.mono (by simpa using y4)))))
 obtain ⟨⟨e1, e2⟩, g1, q1⟩ := Loc.two HLG5.out
 clear hRF
 go_wp2_with (at_make; refine wpList_makeN _ rfl _ _ rfl Tryz.underlying27 info_int1 rfl w5.heap.size mw rfl rfl rfl rfl (by omega) (by unfold maxLen; omega) (Nat.le_refl _) ?_)
 intro w6 hrow hg6
 have hb6 : Below w5.heap.size w5 w6 := below_none (Below.refl _ _) hg6 (Nat.le_refl _)
 have y6 := hb6.size; (try simp only [zs] at y6)
 have HRD : Hid (RowI w6 w5.heap.size (List.replicate mw 0)) := rowI_zeros hrow
 clear hrow hg6 e1 e2 g1 q1
 go_wp2_with fail
 go_loopw [19, 59] (fun sv i wr => ∃ (c : Nat) (ld : List Int), c ≤ mx ∧ i = .int .i64 c ∧ sv = .int .i64 (sent fs c) ∧ Hid (FlowsTo es ws s t fs mw c ld) ∧ Hid (RowI wr w5.heap.size ld) ∧ Below w5.heap.size w5 wr) (fun _ i _ => mx - (intOf i).toNat)
 case atStart => exact ⟨0, List.replicate mw 0, by omega, rfl, rfl, Lib.hid rfl, HRD, hb6⟩
 case round =>
  clear HRD hb6
  obtain ⟨c, ld, hc, rfl, rfl, hFT, hRD, hB⟩ := hrel
  obtain ⟨wo, rfl⟩ : ∃ wo : World, wo = wr := ⟨_, rfl⟩
  have y7 := hB.size; (try simp only [zs] at y7)
  obtain ⟨S, hSe⟩ : ∃ S, sent fs c = S := ⟨_, rfl⟩
  have HSE := Lib.hid hSe
  have hsb := hFT.out.sent HWO.out HCS.out.2 (fun v hv => by
   obtain ⟨i, hi, e⟩ := List.getElem_of_mem hv
   exact (HCS.out.1 i v hi (by rw [List.getElem?_eq_getElem hi, e])).2.1)
  rw [hSe] at hsb
  rw [hSe]
  clear hSe
  by_cases hlt : c < mx
  ·obtain ⟨⟨p, a⟩, hz⟩ : ∃ z, fs[c]? = some z := ⟨_, List.getElem?_eq_getElem (by rw [HMX.out]; exact hlt)⟩
   have HBO : Hid (Below w.heap.size w wo) := HB5.out.trans (hB.mono HB5.out.size)
   obtain ⟨aX, BP, cP, rfl, hab, cx0, cx1, hip, hba⟩ := (HX.out.keep (.of_below HBO.out)).at hz
   simp only at cx0 cx1 hip hba
   rw [addr_one] at cx1
   obtain ⟨hip0a, hip0⟩ : ∃ z : Unit, IntsV w (.slice BP p.length cP) p := by
    obtain ⟨aX', BP', cP', ea, hab', cy0, -, hip', -⟩ := HX.out.at hz
    injection ea with ea
    subst ea
    have h9 := cell_keep (X := fun _ => False) cy0 (by rw [add_block]; exact hab') id (.of_below HBO.out)
    rw [cx0] at h9
    injection h9 with h9
    rw [h9]
    exact ⟨(), hip'⟩
   clear hip0a
   obtain ⟨pl, hpl⟩ : ∃ q, p.length = q := ⟨_, rfl⟩
   rw [hpl] at cx0 hip0
   have HPV := Lib.hid hip0
   have hp1000 := HPL.out _ (List.mem_of_getElem? hz)
   simp only at hp1000
   have HP1000 := Lib.hid hp1000
   have HZ := Lib.hid hz
   have HSN : Hid (sent fs (c + 1) = S + a) := by
    show sent fs c + ((fs[c]?).getD ([], 0)).2 = S + a
    rw [HSE.out, hz]; rfl
   have LX := made1 wo #[.slice BP pl cP, .int .i64 a] 115
   obtain ⟨wx, hwx⟩ : ∃ W, wo.alloc (.cells #[.slice BP pl cP, .int .i64 a] 115) = W := ⟨_, rfl⟩
   have HWX := Lib.hid hwx
   rw [hwx] at LX
   have HLX := Lib.hid LX
   have hbx : Below wo.heap.size wo wx := by rw [← hwx]; exact below1 _ _
   have HBX : Hid (Below w5.heap.size w5 wx) := hB.trans (hbx.mono (by omega))
   have HRX : Hid (RowI wx w5.heap.size ld) := hRD.out.below hbx
   obtain ⟨⟨e1, e2⟩, g1, q1⟩ := Loc.two LX
   have k0 : (0 : Int) ≤ (c : Int) := by omega
   have k1 : (c : Int) < (mx : Int) := by omega
   clear hz hip hip0 hpl hwx LX hp1000
   go_wp2_with (rw [HWX.out])
   refine (carried_any w5 wx mw _ _ _ gF gL w5.heap.size a L es ws s t p ld HBX.out (Nat.le_refl _) HN5.out hL.out (HW.out.keep (.of_below HB5.out)) HWO.out (HPV.out.keep (.of_below HB5.out)) HRF.out hRL.out HRX.out (hFT.out.ok HWO.out) hn HP1000.out hba HS.out HG.out hA.out).mono ?_
   rintro e w7 ⟨⟨b, rfl, hb⟩, hrow, hk7, hb7⟩
   have hsz7 := hk7.size
   have HLX7 : Hid (Loc w7 wo.heap.size 115 #[.slice BP pl cP, .int .i64 a]) := (hk7.block _ HLX.out.lt (by have := hRD.out.lt; omega)).trans HLX.out
   have HBW7 : Hid (Below w.heap.size w w7) := HB5.out.trans (hb7.mono HB5.out.size)
   cases b
   case false =>
    have HV := Lib.hid (HNOT.out (fun h => by
     have h9 := hb.out.2 (good_flow h hFT.out HZ.out)
     cases h9))
    clear hb hrow e1 e2 g1 q1
    go_wp2_with fail
    go_ret
    exact ⟨⟨_, rfl, HV⟩, HBW7.out⟩
   obtain ⟨ld', hld⟩ := hb.out.1 rfl
   have HFT : Hid (FlowsTo es ws s t fs mw (c + 1) ld') := ⟨ld, (p, a), hFT.out, HZ.out, hld⟩
   have HRD7 : Hid (RowI w7 w5.heap.size ld') := hrow.out ld' hld
   have hsb2 := HFT.out.sent HWO.out HCS.out.2 (fun v hv => by
    obtain ⟨i, hi, e⟩ := List.getElem_of_mem hv
    exact (HCS.out.1 i v hi (by rw [List.getElem?_eq_getElem hi, e])).2.1)
   rw [HSN.out] at hsb2
   have k2 : IntKind.i64.wrap (S + a) = S + a := by rw [IntKind.wrap_i64]; omega
   obtain ⟨⟨e3, e4⟩, g3, q3⟩ := Loc.two HLX7.out
   clear hb hrow hld e1 e2 g1 q1
   go_wp2_with fail
   go_roundw
   case rel => exact ⟨c + 1, ld', by omega, by go_num, by first | rw [HSN.out] | (rw [HSN.out, k2]), HFT, HRD7, hb7⟩
   case measure => simp only [intOf]; omega
  ·obtain rfl : c = mx := by omega
   have HBO : Hid (Below w.heap.size w wo) := HB5.out.trans (hB.mono HB5.out.size)
   go_wp2_with fail
   go_loopw [22, 78] (fun tv i wr => ∃ (q : Nat), q ≤ mc ∧ i = .int .i64 q ∧ tv = .int .i64 (wgt ws cut q) ∧ Below w.heap.size w wr) (fun _ i _ => mc - (intOf i).toNat)
   case atStart => exact ⟨0, by omega, rfl, rfl, HBO.out⟩
   case round =>
    obtain ⟨q, hq, rfl, rfl, hBq⟩ := hrel
    obtain ⟨wp, rfl⟩ : ∃ wp : World, wp = wr := ⟨_, rfl⟩
    have y8 := hBq.size; (try simp only [zs] at y8)
    obtain ⟨T, hTe⟩ : ∃ T, wgt ws cut q = T := ⟨_, rfl⟩
    have HTE := Lib.hid hTe
    have htb := wgt_le (m := mw) (c := q) HWO.out (fun i v hi hv => HCS.out.1 i v (by rw [HMC.out]; omega) hv) (by rw [HMC.out]; exact hq)
    rw [hTe] at htb
    rw [hTe]
    clear hTe
    by_cases hlt2 : q < mc
    ·obtain ⟨v, hv⟩ : ∃ z, cut[q]? = some z := ⟨_, List.getElem?_eq_getElem (by rw [HMC.out]; exact hlt2)⟩
     obtain ⟨a, rfl, hab, hcell, -, -⟩ := (HC.out.keep (.of_below hBq)).at hv
     obtain ⟨hv0, hv1, -⟩ := HCS.out.1 q v (by rw [HMC.out]; exact hlt2) hv
     obtain ⟨k, rfl⟩ : ∃ k : Nat, v = (k : Int) := ⟨v.toNat, by omega⟩
     have hkn : k < mw := by omega
     obtain ⟨x, hx⟩ : ∃ z, ws[k]? = some z := ⟨_, List.getElem?_eq_getElem (by rw [HMW.out]; exact hkn)⟩
     obtain ⟨aW, rfl, habw, hcw, -, -⟩ := (HW.out.keep (.of_below hBq)).at hx
     have hnx : nth ws (k : Int) = x := by show (ws[(k : Int).toNat]?).getD 0 = x; rw [Int.toNat_natCast, hx]; rfl
     have HTN : Hid (wgt ws cut (q + 1) = T + x) := by
      show wgt ws cut q + nth ws ((cut[q]?).getD 0) = T + x
      rw [HTE.out, hv, Option.getD_some, hnx]
     have hxb : x ≤ 1048576 := HWO.out.2 x (List.mem_of_getElem? hx)
     rw [hnx] at hv1
     have k0 : (0 : Int) ≤ (q : Int) := by omega
     have k1 : (q : Int) < (mc : Int) := by omega
     have k2 : (0 : Int) ≤ (k : Int) := by omega
     have k3 : (k : Int) < (mw : Int) := by omega
     have k4 : IntKind.i64.wrap (T + x) = T + x := by rw [IntKind.wrap_i64]; omega
     clear hv hx hnx
     go_wp2_with fail
     go_roundw
     case rel => exact ⟨q + 1, by omega, by go_num, by first | rw [HTN.out] | (rw [HTN.out, k4]), hBq⟩
     case measure => simp only [intOf]; omega
    ·obtain rfl : q = mc := by omega
     by_cases hST : S = T
     ·have HV := Lib.hid (HOK.out ⟨HCS.out.1, HCS.out.2, ⟨ld, by have h9 := hFT.out; rw [HMX.out]; exact h9⟩, by rw [HMX.out, HMC.out, HSE.out, HTE.out]; exact hST⟩)
      have d1 : (S != T) = false := by rw [hST]; exact bne_self_eq_false _
      clear hST
      go_wp2_with fail
      go_ret
      exact ⟨⟨_, rfl, HV⟩, hBq⟩
     ·have HV := Lib.hid (HNOT.out (fun h => by
       have h9 := h.2.2.2
       rw [HMX.out, HMC.out, HSE.out, HTE.out] at h9
       exact hST h9))
      have d1 : (S != T) = true := by rw [bne_iff_ne]; exact hST
      clear hST
      go_wp2_with fail
      go_ret
      exact ⟨⟨_, rfl, HV⟩, hBq⟩
end Go.Proofs.YtbdcjhoedhhabaaGreat

