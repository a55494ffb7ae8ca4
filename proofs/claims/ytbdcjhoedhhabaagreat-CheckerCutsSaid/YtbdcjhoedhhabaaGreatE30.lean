/- Contracts of the functions that the statements reach, part 30. -/
import Derived.Test.YtbdcjhoedhhabaaGreatRows
import Derived.Deep.LoopGhost
import Derived.Test.YtbdcjhoedhhabaaGreatE27
set_option linter.unusedSimpArgs false
set_option linter.unusedVariables false

/- mincut.apart: a search past a cut. -/
namespace Go.Proofs.YtbdcjhoedhhabaaGreat
open Go.RowKit
attribute [local go_sem ↓] Go.wp_at_zero Go.wp_at_succ

/-- What a search past a cut knows: block bS holds the row of the visited nodes, bB that of the cut, bQ the queue. -/
structure AddA (w : World) (base bS bB bQ gS gB n i : Nat) (cut D : List Int) (vq : Value) : Prop where
 S : Loc w bS 137 #[.slice (some ⟨gS, 0, none⟩) n n]
 B : Loc w bB 137 #[.slice (some ⟨gB, 0, none⟩) n n]
 Q : Loc w bQ 27 #[vq]
 rs : RowB w gS (rowP n (· ∈ D))
 rb : RowB w gB (rowP n (· ∈ cut))
 q : OwnQ w base vq (D.drop i)
 le : i ≤ D.length
 ne : gS ≠ gB
 bs : base ≤ gS ∧ base ≤ bQ
section
variable {w w' w2 wA : World} {base bS bB bQ gS gB n i : Nat} {cut D : List Int} {vq : Value}
theorem AddA.below (h : AddA w base bS bB bQ gS gB n i cut D vq) (hb : Below w.heap.size w w') : AddA w' base bS bB bQ gS gB n i cut D vq :=
 ⟨h.S.below hb, h.B.below hb, h.Q.below hb, h.rs.below hb, h.rb.below hb, h.q.below hb, h.le, h.ne, h.bs⟩
theorem OwnQ.other {g : Nat} {t : TypeId} {cs : Array Value} {us : List Int} (h : OwnQ wA base vq us) (hg : wA.grownBy w2 vq.ownBlock) (L : Loc wA g t cs) (ht : t ≠ 3) : Loc w2 g t cs := by
 refine (hg.block g L.lt (fun eq => ?_)).trans L
 rcases h with ⟨rfl, _⟩ | ⟨g', off, cap, cur, rfl, _, hl, _⟩
 ·cases eq
 ·injection eq with eq
  subst eq
  exact loc_ne L hl ht rfl
theorem vis_drop (cut : List Int) {D : List Int} {i : Nat} {k : Int} (hi : i ≤ D.length) (hD : k ∉ D) (hC : k ∉ cut) : (vis cut D k).drop i = D.drop i ++ [k] := by
 unfold vis
 rw [if_neg (fun h => h.elim hD hC), List.drop_append_of_le_length hi]
theorem vis_stay {cut D : List Int} {k : Int} (h : k ∈ D ∨ k ∈ cut) : vis cut D k = D := by
 unfold vis
 rw [if_pos h]
theorem vis_mem {cut D : List Int} {k : Int} (hD : k ∉ D) (hC : k ∉ cut) (x : Int) : (x ∈ D ∨ x = k) ↔ x ∈ vis cut D k := by
 unfold vis
 rw [if_neg (fun h => h.elim hD hC)]
 simp
end

set_option maxRecDepth 100000 in
set_option maxHeartbeats 4000000 in
theorem qadd_any (w : World) (base bS bB bQ gS gB n i k : Nat) (cut D : List Int) (vq : Value) (h : AddA w base bS bB bQ gS gB n i cut D vq) (hk : k < n) (hl : D.length ≤ 100000) (hb : base ≤ w.heap.size) :
 Calls Tryz.prog 375 #[.int .i64 k, .pointer (some ⟨bS, 0, none⟩), .pointer (some ⟨bB, 0, none⟩), .pointer (some ⟨bQ, 0, none⟩)] w fun e w' => e = .returned (.tuple #[]) ∧ (∃ vq', Hid (AddA w' base bS bB bQ gS gB n i cut (vis cut D k) vq')) ∧ Below base w w' := by
 have H := Lib.hid h
 obtain ⟨A, c, e0⟩ := h.q.op
 subst e0
 obtain ⟨qn, hqn⟩ : ∃ qn, (D.drop i).length = qn := ⟨_, rfl⟩
 have HQN := Lib.hid hqn
 have hq1 : qn ≤ 100000 := by rw [← hqn, List.length_drop]; omega
 rw [hqn] at H
 clear h hqn
 obtain ⟨e1, f1, l1⟩ := Loc.all H.out.S (w' := w)
 obtain ⟨e2, f2, l2⟩ := Loc.all H.out.B (w' := w)
 have k0 : (0 : Int) ≤ (k : Int) := by omega
 have k1 : (k : Int) < (n : Int) := by omega
 by_cases hD : (k : Int) ∈ D
 ·have HE : Hid (AddA w base bS bB bQ gS gB n i cut (vis cut D k) (.slice A qn c)) := by show AddA _ _ _ _ _ _ _ _ _ _ _ _; rw [vis_stay (.inl hD)]; exact H.out
  have g0 := RowB.cell H.out.rs (rowP_yes hk hD)
  clear hD
  go_enter Tryz.func375, Tryz.ntmps375
  go_wp2_with fail
  go_end0
  exact ⟨rfl, ⟨_, HE⟩, Below.refl _ _⟩
 by_cases hC : (k : Int) ∈ cut
 ·have HE : Hid (AddA w base bS bB bQ gS gB n i cut (vis cut D k) (.slice A qn c)) := by show AddA _ _ _ _ _ _ _ _ _ _ _ _; rw [vis_stay (.inr hC)]; exact H.out
  have g0 := RowB.cell H.out.rs (rowP_no hk hD)
  have g1 := RowB.cell H.out.rb (rowP_yes hk hC)
  clear hD hC
  go_enter Tryz.func375, Tryz.ntmps375
  go_wp2_with fail
  go_end0
  exact ⟨rfl, ⟨_, HE⟩, Below.refl _ _⟩
 have g0 := RowB.cell H.out.rs (rowP_no hk hD)
 have g1 := RowB.cell H.out.rb (rowP_no hk hC)
 have gf := RowB.frz H.out.rs k
 have HDC : Hid ((k : Int) ∉ D ∧ (k : Int) ∉ cut) := ⟨hD, hC⟩
 obtain ⟨w1, hw1⟩ : ∃ W, w.setCell ⟨gS, k, none⟩ (.bool true) = W := ⟨_, rfl⟩
 have HW1 := Lib.hid hw1
 have LS1 : Hid (Loc w1 bS 137 #[.slice (some ⟨gS, 0, none⟩) n n]) := by show Loc _ _ _ _; rw [← hw1]; exact Loc.far H.out.S (p := ⟨gS, k, none⟩) (loc_ne H.out.S H.out.rs (by decide)) _
 have LB1 : Hid (Loc w1 bB 137 #[.slice (some ⟨gB, 0, none⟩) n n]) := by show Loc _ _ _ _; rw [← hw1]; exact Loc.far H.out.B (p := ⟨gS, k, none⟩) (loc_ne H.out.B H.out.rs (by decide)) _
 have LQ1 : Hid (Loc w1 bQ 27 #[.slice A qn c]) := by show Loc _ _ _ _; rw [← hw1]; exact Loc.far H.out.Q (p := ⟨gS, k, none⟩) (loc_ne H.out.Q H.out.rs (by decide)) _
 have RS1 : Hid (RowB w1 gS (rowP n (· ∈ vis cut D k))) := by
  have h9 := RowB.set H.out.rs k true
  rw [rowP_set, rowP_ext (fun i _ => vis_mem hD hC (i : Int)), hw1] at h9
  exact h9
 have RB1 : Hid (RowB w1 gB (rowP n (· ∈ cut))) := by show RowB _ _ _; rw [← hw1]; exact Loc.far H.out.rb (p := ⟨gS, k, none⟩) (fun e => H.out.ne e.symm) _
 have OQ1 : Hid (OwnQ w1 base (.slice A qn c) (D.drop i)) := by show OwnQ _ _ _ _; rw [← hw1]; exact OwnQ.far H.out.q H.out.rs (by decide) _ _
 have HB1 : Hid (Below base w w1) := by show Below _ _ _; rw [← hw1]; exact (Below.refl _ _).setCell H.out.bs.1 _
 have hsz : w1.heap.size = w.heap.size := by rw [← hw1]; simp only [zs]
 have HSZ := Lib.hid hsz
 obtain ⟨e3, f3, l3⟩ := Loc.all LQ1.out (w' := w1)
 clear hsz hD hC
 go_enter Tryz.func375, Tryz.ntmps375
 go_wp2_with (first | rw [hw1] | (at_builtin; refine wpList_pushQ _ rfl _ _ rfl base _ (D.drop i) rfl (OQ1.out.below (below1 _ _)) w1.heap.size (k : Int) rfl (made1 w1 #[.int .i64 (k : Int)] 3) qn HQN.out hq1 (by have := HSZ.out; simp only [World.size_alloc]; omega) ?_))
 intro A' c' w2 ho2 hg2 hb2
 have hsz := HSZ.out
 have y2 := hg2.size
 (try simp only [World.size_alloc] at y2 hb2)
 have LS2 : Loc w2 bS 137 #[.slice (some ⟨gS, 0, none⟩) n n] := OwnQ.other (OQ1.out.below (below1 _ _)) hg2 (LS1.out.alloc _) (by decide)
 have LB2 : Loc w2 bB 137 #[.slice (some ⟨gB, 0, none⟩) n n] := OwnQ.other (OQ1.out.below (below1 _ _)) hg2 (LB1.out.alloc _) (by decide)
 have LQ2 : Loc w2 bQ 27 #[.slice A qn c] := OwnQ.other (OQ1.out.below (below1 _ _)) hg2 (LQ1.out.alloc _) (by decide)
 have RS2 : RowB w2 gS (rowP n (· ∈ vis cut D k)) := OwnQ.other (OQ1.out.below (below1 _ _)) hg2 (Loc.alloc RS1.out _) (by decide)
 have RB2 : RowB w2 gB (rowP n (· ∈ cut)) := OwnQ.other (OQ1.out.below (below1 _ _)) hg2 (Loc.alloc RB1.out _) (by decide)
 have HB2 : Below base w w2 := (HB1.out.alloc (by omega) _).grown hg2 (by simp only [World.size_alloc]; omega) (fun b hb => (OQ1.out.lt hb).2)
 have HE : Hid (AddA (w2.setCell ⟨bQ, 0, none⟩ (.slice A' (qn + 1) c')) base bS bB bQ gS gB n i cut (vis cut D k) (.slice A' (qn + 1) c')) := by
  refine ⟨Loc.far LS2 (p := ⟨bQ, 0, none⟩) (loc_ne LS2 LQ2 (by decide)) _, Loc.far LB2 (p := ⟨bQ, 0, none⟩) (loc_ne LB2 LQ2 (by decide)) _, LQ2.fill1, Loc.far RS2 (p := ⟨bQ, 0, none⟩) (loc_ne RS2 LQ2 (by decide)) _, Loc.far RB2 (p := ⟨bQ, 0, none⟩) (loc_ne RB2 LQ2 (by decide)) _, ?_, Nat.le_trans H.out.le (vis_len _ _ _), H.out.ne, H.out.bs⟩
  rw [vis_drop cut H.out.le HDC.out.1 HDC.out.2]
  exact OwnQ.far ho2 LQ2 (by decide) _ _
 have HBE : Hid (Below base w (w2.setCell ⟨bQ, 0, none⟩ (.slice A' (qn + 1) c'))) := HB2.setCell (p := ⟨bQ, 0, none⟩) H.out.bs.2 _
 obtain ⟨e4, f4, l4⟩ := Loc.all LQ2 (w' := w2)
 clear e1 f1 l1 e2 f2 l2 e3 f3 l3 g0 g1 gf
 go_wp2_with fail
 go_end0
 exact ⟨rfl, ⟨_, HE⟩, HBE.out⟩

theorem drop_head {D : List Int} {i : Nat} {u : Int} (h : D[i]? = some u) : D.drop i = u :: D.drop (i + 1) := by
 obtain ⟨hi, rfl⟩ := List.getElem?_eq_some_iff.1 h
 exact List.drop_eq_getElem_cons hi

set_option maxRecDepth 100000 in
set_option maxHeartbeats 16000000 in
theorem apart_any (w : World) (n : Nat) (vN vF vT : Value) (gB : Nat) (L : List (List Int)) (es : List (Int × Int)) (s t cut : List Int) (hN : IMat w vN L) (hl : L.length = n) (hF : IntsV w vF s) (hT : IntsV w vT t) (hR : RowB w gB (rowP n (· ∈ cut))) (hn : n ≤ 4096) (hs : NodesOk n s) (ht : NodesOk n t)
 (hA : ∀ (i : Nat) (l : List Int), L[i]? = some l → ∀ x, x ∈ l ↔ ((i : Int), x) ∈ es) (hE : ∀ e ∈ es, 0 ≤ e.2 ∧ e.2 < (n : Int)) :
 Calls Tryz.prog 280 #[vN, vF, vT, .slice (some ⟨gB, 0, none⟩) n n] w fun e w' => Tells (Sep es s t cut) e ∧ Below w.heap.size w w' := by
 have HN0 := Lib.hid hN
 have HF0 := Lib.hid hF
 have HT0 := Lib.hid hT
 have HS := Lib.hid hs
 have HTT := Lib.hid ht
 have HA := Lib.hid hA
 have HEE := Lib.hid hE
 have HL := Lib.hid hl
 have HRB := Lib.hid hR
 have hgB : gB < w.heap.size := hR.lt
 obtain ⟨AN, cN, rfl, -, n1, n2⟩ := hN.op
 obtain ⟨AF, cF, rfl, -, f1, f2⟩ := hF.op
 obtain ⟨AT, cT, rfl, -, t1, t2⟩ := hT.op
 clear hN hF hT hs ht hA hE hR
 have HN : Hid (IMat w (.slice AN n cN) L) := by have h9 := HN0.out; rw [hl] at h9; exact h9
 obtain ⟨m, hm⟩ : ∃ m, s.length = m := ⟨_, rfl⟩
 have HM := Lib.hid hm
 have HF : Hid (IntsV w (.slice AF m cF) s) := by have h9 := HF0.out; rw [hm] at h9; exact h9
 obtain ⟨mt, hmt⟩ : ∃ m, t.length = m := ⟨_, rfl⟩
 have HT : Hid (IntsV w (.slice AT mt cT) t) := by have h9 := HT0.out; rw [hmt] at h9; exact h9
 rw [hl] at n1 ⊢
 rw [hm] at f1 ⊢
 rw [hmt] at t1 ⊢
 have lm : m ≤ 9223372036854775807 := by unfold maxLen at f2; omega
 clear hl hm hmt HN0 HF0 HT0
 have LB := made1 w #[.slice (some ⟨gB, 0, none⟩) n n] 137
 go_enter Tryz.func280, Tryz.ntmps280
 go_wp2_with fail
 refine (marks_any _ n _ t (HT.out.keep kp) HTT.out hn).mono ?_
 rintro e w1 ⟨⟨gE, rfl, hgE, hRE⟩, hb1⟩
 have y1 := hb1.size; (try simp only [zs] at y1)
 have hgE1 : gE < w1.heap.size := hRE.out.lt
 have HLB : Hid (Loc w1 w.heap.size 137 #[.slice (some ⟨gB, 0, none⟩) n n]) := by show Loc _ _ _ _; exact Loc.below LB hb1
 have HB1 : Hid (Below w.heap.size w w1) := by show Below _ _ _; exact bel
 have hw1 : w.heap.size < w1.heap.size := HLB.out.lt
 clear LB
 go_wp2_with (at_make; refine wpList_makeN _ rfl _ _ rfl Tryz.underlying137 info_bool1 rfl w1.heap.size n rfl rfl rfl rfl (by omega) (by unfold maxLen; omega) (Nat.le_refl _) ?_)
 intro w2 hrow hg2
 have hb2 : Below w1.heap.size w1 w2 := below_none (Below.refl _ _) hg2 (Nat.le_refl _)
 have y2 := hb2.size; (try simp only [zs] at y2)
 have hgs : w1.heap.size < w2.heap.size := (rowB_zeros hrow).lt
 have HAD : Hid (AddA ((w2.alloc (.cells #[.slice (some ⟨w1.heap.size, 0, none⟩) n n] 137)).alloc (.cells #[.slice none 0 0] 27)) w1.heap.size w2.heap.size w.heap.size (w2.heap.size + 1) w1.heap.size gB n 0 cut [] (.slice none 0 0)) := by
  refine ⟨?_, ?_, ?_, ?_, ?_, OwnQ.nil _ _, Nat.le_refl _, by omega, by omega, by omega⟩
  ·exact (made1 w2 _ _).alloc _
  ·exact ((HLB.out.below hb2).alloc _).alloc _
  ·exact made2 w2 _ _ _
  ·refine Loc.alloc (Loc.alloc ?_ _) _
   have h9 := rowB_zeros hrow
   rw [rowP_false, rowP_ext (q := (· ∈ ([] : List Int))) (fun i _ => by simp)] at h9
   exact h9
  ·exact Loc.alloc (Loc.alloc ((HRB.out.below HB1.out).below hb2) _) _
 have HB2 : Hid (Below w.heap.size w ((w2.alloc (.cells #[.slice (some ⟨w1.heap.size, 0, none⟩) n n] 137)).alloc (.cells #[.slice none 0 0] 27))) := ((HB1.out.trans (hb2.mono (by omega))).alloc (by omega) _).alloc (by simp only [World.size_alloc]; omega) _
 have HRE : Hid (RowB ((w2.alloc (.cells #[.slice (some ⟨w1.heap.size, 0, none⟩) n n] 137)).alloc (.cells #[.slice none 0 0] 27)) gE (rowP n (· ∈ t))) := Loc.alloc (Loc.alloc (hRE.out.below hb2) _) _
 clear hrow hg2 hb2 hRE
 go_wp2_with fail
 go_loopw [28] (fun i wr => ∃ (c : Nat) (D : List Int) (vq : Value), c ≤ m ∧ i = .int .i64 c ∧ Hid (AddA wr w1.heap.size w2.heap.size w.heap.size (w2.heap.size + 1) w1.heap.size gB n 0 cut D vq) ∧ Hid (Srch es cut s D n) ∧ Hid (Seen cut D s c) ∧ Hid (RowB wr gE (rowP n (· ∈ t))) ∧ w1.heap.size ≤ wr.heap.size ∧ Below w.heap.size w wr) (fun i _ => m - (intOf i).toNat)
 case atStart => exact ⟨0, [], _, by omega, rfl, HAD, Srch.start _ _ _ _, Lib.hid (fun i x hi => absurd hi (by omega)), HRE, by simp only [World.size_alloc]; omega, HB2.out⟩
 case round =>
  clear HAD HRE HB2
  obtain ⟨c, D, vq, hc, rfl, hAD, hSR, hSN, hRE, hsz, hB⟩ := hrel
  obtain ⟨wo, rfl⟩ : ∃ wo : World, wo = wr := ⟨_, rfl⟩
  have y5 := hB.size; (try simp only [zs] at y5)
  have hDl : D.length ≤ 100000 := by have := hSR.out.len; omega
  by_cases hlt : c < m
  ·obtain ⟨z, hz⟩ : ∃ z, s[c]? = some z := ⟨_, List.getElem?_eq_getElem (by rw [HM.out]; exact hlt)⟩
   obtain ⟨a, rfl, hab, hcell, -, -⟩ := (HF.out.keep (.of_below hB)).at hz
   obtain ⟨hz0, hz1⟩ := HS.out z (List.mem_of_getElem? hz)
   obtain ⟨k, rfl⟩ : ∃ k : Nat, z = (k : Int) := ⟨z.toNat, by omega⟩
   have hkn : k < n := by omega
   have HZ := Lib.hid hz
   have k0 : (0 : Int) ≤ (c : Int) := by omega
   have k1 : (c : Int) < (m : Int) := by omega
   clear hz
   go_wp2_with fail
   refine (qadd_any wo _ _ _ _ _ _ n 0 k cut D vq hAD.out hkn hDl hsz).mono ?_
   rintro e w3 ⟨rfl, ⟨vq', hAD'⟩, hb3⟩
   have y3 := hb3.size; (try simp only [zs] at y3)
   have HSR : Hid (Srch es cut s (vis cut D k) n) := hSR.out.vis (fun h => .start (List.mem_of_getElem? HZ.out) h) ⟨hz0, hz1⟩
   have HSN : Hid (Seen cut (vis cut D k) s (c + 1)) := hSN.out.next HZ.out
   have HRE : Hid (RowB w3 gE (rowP n (· ∈ t))) := Loc.under hRE.out hb3 hgE1
   have HB3 : Hid (Below w.heap.size w w3) := hB.trans (hb3.mono (by omega))
   go_wp2_with fail
   go_roundw
   case rel => exact ⟨c + 1, _, _, by omega, by go_num, hAD', HSR, HSN, HRE, by omega, HB3.out⟩
   case measure => simp only [intOf]; omega
  ·obtain rfl : c = m := by omega
   go_wp2_with fail
   go_loopg [] n (fun gk wr => ∃ (i : Nat) (D : List Int) (vq : Value), gk + i = n ∧ Hid (AddA wr w1.heap.size w2.heap.size w.heap.size (w2.heap.size + 1) w1.heap.size gB n i cut D vq) ∧ Hid (Srch es cut s D n) ∧ Hid (Seen cut D s c) ∧ Hid (Done es cut D i) ∧ Hid (∀ (j : Nat) (u : Int), j < i → D[j]? = some u → u ∉ t) ∧ Hid (RowB wr gE (rowP n (· ∈ t))) ∧ w1.heap.size ≤ wr.heap.size ∧ Below w.heap.size w wr)
   case atStart => exact ⟨0, D, vq, by omega, hAD, hSR, hSN, Lib.hid (fun i u x hi => absurd hi (by omega)), Lib.hid (fun j u hj => absurd hj (by omega)), hRE, hsz, hB⟩
   case round =>
    clear hAD hSR hSN hRE hsz hB hDl
    obtain ⟨i, D, vq, hgk, hAD, hSR, hSN, hDN, hNE, hRE, hsz, hB⟩ := hrel
    obtain ⟨wo, rfl⟩ : ∃ wo : World, wo = wr := ⟨_, rfl⟩
    have y6 := hB.size; (try simp only [zs] at y6)
    have hDl := hSR.out.len
    obtain ⟨A, cq, e0⟩ := hAD.out.q.op
    subst e0
    obtain ⟨qn, hqn⟩ : ∃ qn, (D.drop i).length = qn := ⟨_, rfl⟩
    rw [hqn] at hAD
    have hql : D.length - i = qn := by rw [← hqn, List.length_drop]
    have hil := hAD.out.le
    obtain ⟨e3, f3, l3⟩ := Loc.all hAD.out.Q (w' := wo)
    clear hqn
    by_cases hq0 : qn = 0
    ·have HV : Hid (Sep es s t cut) := fun v hv hr => by
      obtain rfl : i = D.length := by omega
      have h9 := (hSR.out.found hDN.out (hSN.out.all (by rw [HM.out]; exact Nat.le_refl _)) v).2 hr
      obtain ⟨j, hj, e⟩ := List.getElem_of_mem h9
      exact hNE.out j v hj (by rw [List.getElem?_eq_getElem hj, e]) hv
     subst hq0
     have d1 : decide ((0 : Int) < 0) = false := rfl
     go_wp2_with fail
     go_ret
     exact ⟨Tells.yes HV.out, hB⟩
    obtain ⟨u, hu⟩ : ∃ u, D[i]? = some u := ⟨_, List.getElem?_eq_getElem (by omega)⟩
    obtain ⟨hu0, hu1⟩ := hSR.out.rng u (List.mem_of_getElem? hu)
    obtain ⟨k, rfl⟩ : ∃ k : Nat, u = (k : Int) := ⟨u.toNat, by omega⟩
    have hkn : k < n := by omega
    have HU := Lib.hid hu
    have hdh := drop_head hu
    obtain ⟨a, ea, hcell⟩ := hAD.out.q.head (z := (k : Int)) (by rw [hdh]; rfl)
    subst ea
    have HQ : Hid (OwnQ wo w1.heap.size (.slice (some a) qn cq) ((k : Int) :: D.drop (i + 1))) := by have h9 := hAD.out.q; rw [hdh] at h9; exact h9
    obtain ⟨q1, hq1⟩ : ∃ q1, (D.drop (i + 1)).length = q1 := ⟨_, rfl⟩
    have HQ1 := Lib.hid hq1
    have d1 : decide ((0 : Int) < (qn : Int)) = true := decide_eq_true (by omega)
    have d1' : decide (0 < qn) = true := decide_eq_true (by omega)
    have d1'' : (0 : Int) < (qn : Int) := by omega
    clear hu hdh hq1
    go_wp2_with (refine wpList_popQ _ rfl _ rfl w1.heap.size _ (k : Int) (D.drop (i + 1)) rfl HQ.out q1 HQ1.out ?_)
    intro A' c' ho' hbo'
    have HAD2 : Hid (AddA (wo.setCell ⟨w2.heap.size + 1, 0, none⟩ (.slice A' q1 c')) w1.heap.size w2.heap.size w.heap.size (w2.heap.size + 1) w1.heap.size gB n (i + 1) cut D (.slice A' q1 c')) := by
     have h9 := hAD.out
     exact ⟨Loc.far h9.S (p := ⟨w2.heap.size + 1, 0, none⟩) (loc_ne h9.S h9.Q (by decide)) _, Loc.far h9.B (p := ⟨w2.heap.size + 1, 0, none⟩) (loc_ne h9.B h9.Q (by decide)) _, h9.Q.fill1, Loc.far h9.rs (p := ⟨w2.heap.size + 1, 0, none⟩) (loc_ne h9.rs h9.Q (by decide)) _, Loc.far h9.rb (p := ⟨w2.heap.size + 1, 0, none⟩) (loc_ne h9.rb h9.Q (by decide)) _, OwnQ.far ho' h9.Q (by decide) _ _, by omega, h9.ne, h9.bs⟩
    have HRE2 : Hid (RowB (wo.setCell ⟨w2.heap.size + 1, 0, none⟩ (.slice A' q1 c')) gE (rowP n (· ∈ t))) := Loc.far hRE.out (p := ⟨w2.heap.size + 1, 0, none⟩) (loc_ne hRE.out hAD.out.Q (by decide)) _
    have HB6 : Hid (Below w.heap.size w (wo.setCell ⟨w2.heap.size + 1, 0, none⟩ (.slice A' q1 c'))) := hB.setCell (p := ⟨w2.heap.size + 1, 0, none⟩) (by show w.heap.size ≤ w2.heap.size + 1; omega) _
    obtain ⟨wq, hwq⟩ : ∃ W, wo.setCell ⟨w2.heap.size + 1, 0, none⟩ (.slice A' q1 c') = W := ⟨_, rfl⟩
    rw [hwq] at HAD2 HRE2 HB6
    have hszq : w1.heap.size ≤ wq.heap.size := by rw [← hwq]; simp only [zs]; exact hsz
    obtain ⟨l, hl⟩ : ∃ l, L[k]? = some l := ⟨_, List.getElem?_eq_getElem (by rw [HL.out]; exact hkn)⟩
    have hB6 := HB6.out
    have y7 := hB6.size; (try simp only [zs] at y7)
    obtain ⟨aN, BN, cl, rfl, hab, hcl0, hnl, l3', l4'⟩ := HN.out.at hl
    have hcl : wq.cell? (aN.add k) = some (.slice BN l.length cl) := cell_keep (X := fun _ => False) hcl0 (by rw [add_block]; exact hab) id (.of_below hB6)
    obtain ⟨ln, hln⟩ : ∃ q, l.length = q := ⟨_, rfl⟩
    have HLN := Lib.hid hln
    rw [hln] at hcl l3' hnl
    clear hcl0
    have HNL := Lib.hid hnl
    have HLM := Lib.hid (HA.out k l hl)
    have lln : ln ≤ 9223372036854775807 := by unfold maxLen at l4'; omega
    have k2 : (0 : Int) ≤ (k : Int) := by omega
    have k3 : (k : Int) < (n : Int) := by omega
    clear hcell hl hln hnl ho' hbo'
    by_cases hut : (k : Int) ∈ t
    ·have HV : Hid (¬ Sep es s t cut) := fun h => h _ hut (hSR.out.rch _ (List.mem_of_getElem? HU.out))
     have g0 := RowB.cell HRE2.out (rowP_yes hkn hut)
     clear hut
     go_wp2_with (rw [hwq])
     go_ret
     exact ⟨Tells.no HV.out, HB6.out⟩
    have HNE2 : Hid (∀ (j : Nat) (u : Int), j < i + 1 → D[j]? = some u → u ∉ t) := fun j u hj hu => by
     by_cases e : j < i
     ·exact hNE.out j u e hu
     ·obtain rfl : j = i := by omega
      rw [HU.out] at hu
      injection hu with hu
      rw [← hu]; exact hut
    have g0 := RowB.cell HRE2.out (rowP_no hkn hut)
    clear hut
    go_wp2_with (rw [hwq])
    clear g0 hcl
    go_loopw [53] (fun iv wr => ∃ (j : Nat) (D' : List Int) (vq : Value), j ≤ ln ∧ iv = .int .i64 j ∧ Hid (AddA wr w1.heap.size w2.heap.size w.heap.size (w2.heap.size + 1) w1.heap.size gB n (i + 1) cut D' vq) ∧ Hid (Srch es cut s D' n) ∧ Hid (Seen cut D' s c) ∧ Hid (Done es cut D' i) ∧ Hid (∀ (j : Nat) (u : Int), j < i + 1 → D'[j]? = some u → u ∉ t) ∧ Hid (D'[i]? = some (k : Int)) ∧ Hid (Seen cut D' l j) ∧ Hid (RowB wr gE (rowP n (· ∈ t))) ∧ w1.heap.size ≤ wr.heap.size ∧ Below w.heap.size w wr) (fun iv _ => ln - (intOf iv).toNat)
    case atStart => exact ⟨0, D, _, by omega, rfl, HAD2, hSR, hSN, hDN, HNE2, HU, Lib.hid (fun i x hi => absurd hi (by omega)), HRE2, hszq, HB6.out⟩
    case round =>
     clear HAD2 hSR hSN hDN HNE2 HU HRE2 hszq HB6 hAD hNE hRE hsz hB
     obtain ⟨j, D', vq', hj, rfl, hAD, hSR, hSN, hDN, hNE, hU, hSL, hRE, hsz, hB⟩ := hrel
     obtain ⟨wp, rfl⟩ : ∃ wp : World, wp = wr := ⟨_, rfl⟩
     have y8 := hB.size; (try simp only [zs] at y8)
     have hDl' : D'.length ≤ 100000 := by have := hSR.out.len; omega
     by_cases hlt2 : j < ln
     ·obtain ⟨x, hx⟩ : ∃ z, l[j]? = some z := ⟨_, List.getElem?_eq_getElem (by rw [HLN.out]; exact hlt2)⟩
      have hxe := (HLM.out x).1 (List.mem_of_getElem? hx)
      obtain ⟨hx0, hx1⟩ := HEE.out _ hxe
      obtain ⟨aX, rfl, habx, hcx, -, -⟩ := (HNL.out.keep (.of_below hB)).at hx
      simp only at hx0 hx1
      obtain ⟨q, rfl⟩ : ∃ q : Nat, x = (q : Int) := ⟨x.toNat, by omega⟩
      have hqn2 : q < n := by omega
      have HX := Lib.hid hx
      have HXE := Lib.hid hxe
      have k4 : (0 : Int) ≤ (j : Int) := by omega
      have k5 : (j : Int) < (ln : Int) := by omega
      clear hx hxe
      go_wp2_with fail
      refine (qadd_any wp _ _ _ _ _ _ n (i + 1) q cut D' vq' hAD.out hqn2 hDl' hsz).mono ?_
      rintro e w3 ⟨rfl, ⟨vq3, hAD'⟩, hb3⟩
      have y3 := hb3.size; (try simp only [zs] at y3)
      have HSR : Hid (Srch es cut s (vis cut D' q) n) := hSR.out.vis (fun h => .step (hSR.out.rch _ (List.mem_of_getElem? hU.out)) HXE.out h) ⟨hx0, hx1⟩
      have hiD : i < D'.length := (List.getElem?_eq_some_iff.1 hU.out).1
      have HNE3 : Hid (∀ (j : Nat) (u : Int), j < i + 1 → (vis cut D' q)[j]? = some u → u ∉ t) := fun j u hj hu => by
       have hg : D'[j]? = some D'[j] := List.getElem?_eq_getElem (by omega)
       rw [vis_get hg] at hu
       exact hNE.out j u hj (by rw [hg]; exact hu)
      have HDN3 : Hid (Done es cut (vis cut D' q) i) := hDN.out.vis (by omega) q
      have HSN3 : Hid (Seen cut (vis cut D' q) s c) := hSN.out.vis q
      have HU3 : Hid ((vis cut D' q)[i]? = some (k : Int)) := vis_get hU.out
      have HSL3 : Hid (Seen cut (vis cut D' q) l (j + 1)) := hSL.out.next HX.out
      have HRE3 : Hid (RowB w3 gE (rowP n (· ∈ t))) := Loc.under hRE.out hb3 hgE1
      have HB3 : Hid (Below w.heap.size w w3) := hB.trans (hb3.mono (by omega))
      go_wp2_with fail
      go_roundw
      case rel => exact ⟨j + 1, _, _, by omega, by go_num, hAD', HSR, HSN3, HDN3, HNE3, HU3, HSL3, HRE3, by omega, HB3.out⟩
      case measure => simp only [intOf]; omega
     ·obtain rfl : j = ln := by omega
      have HDN4 : Hid (Done es cut D' (i + 1)) := hDN.out.next hU.out (fun x hx => (HLM.out x).2 hx) (hSL.out.all (by rw [HLN.out]; exact Nat.le_refl _))
      go_wp2_with fail
      go_roundg (gk - 1)
      case rel => exact ⟨i + 1, D', vq', by omega, hAD, hSR, hSN, HDN4, hNE, hRE, hsz, hB⟩
      case measure => omega

/- mincut.proved: a cut is right, and separates. -/

theorem CutTo.next {ws cut : List Int} {n : Int} {c : Nat} (h : CutTo ws cut n c) {v : Int} (hv : cut[c]? = some v) (h1 : 0 ≤ v ∧ v < n) (h2 : 0 ≤ nth ws v) (h3 : ∀ (j : Nat) (u : Int), c = j + 1 → cut[j]? = some u → u < v) : CutTo ws cut n (c + 1) := fun i u hi hu => by
 by_cases e : i < c
 ·exact h i u e hu
 ·obtain rfl : i = c := by omega
  rw [hv] at hu
  injection hu with hu
  subst hu
  exact ⟨h1, h2, h3⟩

set_option maxRecDepth 100000 in
set_option maxHeartbeats 16000000 in
theorem proved_any (w : World) (n : Nat) (vN vW vF vT vC : Value) (L : List (List Int)) (es : List (Int × Int)) (ws s t cut : List Int) (hN : IMat w vN L) (hl : L.length = n) (hW : IntsV w vW ws) (hF : IntsV w vF s) (hT : IntsV w vT t) (hC : IntsV w vC cut) (hw : ws.length = n) (hn : n ≤ 4096) (hs : NodesOk n s) (ht : NodesOk n t)
 (hA : ∀ (i : Nat) (l : List Int), L[i]? = some l → ∀ x, x ∈ l ↔ ((i : Int), x) ∈ es) (hE : ∀ e ∈ es, 0 ≤ e.2 ∧ e.2 < (n : Int)) :
 Calls Tryz.prog 159 #[vN, vW, vF, vT, vC] w fun e w' => Tells (CutTo ws cut n cut.length ∧ Sep es s t cut) e ∧ Below w.heap.size w w' := by
 have HN0 := Lib.hid hN
 have HW0 := Lib.hid hW
 have HF := Lib.hid hF
 have HT := Lib.hid hT
 have HC0 := Lib.hid hC
 have HS := Lib.hid hs
 have HTT := Lib.hid ht
 have HA := Lib.hid hA
 have HEE := Lib.hid hE
 have HL := Lib.hid hl
 have HWL := Lib.hid hw
 obtain ⟨AN, cN, rfl, -, n1, n2⟩ := hN.op
 obtain ⟨AW, cW, rfl, -, w1, w2⟩ := hW.op
 obtain ⟨AC, cC, rfl, -, c1, c2⟩ := hC.op
 obtain ⟨AF, cF, rfl, -, f1, f2⟩ := hF.op
 obtain ⟨AT, cT, rfl, -, t1, t2⟩ := hT.op
 have HN : Hid (IMat w (.slice AN n cN) L) := by have h9 := HN0.out; rw [hl] at h9; exact h9
 have HW : Hid (IntsV w (.slice AW n cW) ws) := by have h9 := HW0.out; rw [hw] at h9; exact h9
 obtain ⟨m, hm⟩ : ∃ m, cut.length = m := ⟨_, rfl⟩
 have HM := Lib.hid hm
 have HC : Hid (IntsV w (.slice AC m cC) cut) := by have h9 := HC0.out; rw [hm] at h9; exact h9
 obtain ⟨mf, hmf⟩ : ∃ m, s.length = m := ⟨_, rfl⟩
 obtain ⟨mt, hmt⟩ : ∃ m, t.length = m := ⟨_, rfl⟩
 rw [hmf] at HF f1 ⊢
 rw [hmt] at HT t1 ⊢
 rw [hl] at n1 ⊢
 rw [hw] at w1 ⊢
 rw [hm] at c1 ⊢
 have lm : m ≤ 9223372036854775807 := by unfold maxLen at c2; omega
 obtain ⟨P, hP⟩ : ∃ P, (CutTo ws cut n m ∧ Sep es s t cut) = P := ⟨_, rfl⟩
 have HP : Hid (P ↔ (CutTo ws cut n m ∧ Sep es s t cut)) := by show _ ↔ _; rw [← hP]
 rw [hP]
 clear hN hW hC hF hT hs ht hA hE hl hw hm hmf hmt HN0 HW0 HC0 hP
 go_enter Tryz.func159, Tryz.ntmps159
 go_wp2_with fail
 go_loopw [15] (fun i wr => ∃ (c : Nat), c ≤ m ∧ i = .int .i64 c ∧ Hid (CutTo ws cut n c) ∧ Below w.heap.size w wr) (fun i _ => m - (intOf i).toNat)
 case atStart => exact ⟨0, by omega, rfl, Lib.hid (fun i v hi => absurd hi (by omega)), bel⟩
 case round =>
  obtain ⟨c, hc, rfl, hCT, hB⟩ := hrel
  obtain ⟨wo, rfl⟩ : ∃ wo : World, wo = wr := ⟨_, rfl⟩
  have y5 := hB.size; (try simp only [zs] at y5)
  by_cases hlt : c < m
  ·obtain ⟨v, hv⟩ : ∃ z, cut[c]? = some z := ⟨_, List.getElem?_eq_getElem (by rw [HM.out]; exact hlt)⟩
   obtain ⟨a, rfl, hab, hcell, zb1, zb2⟩ := (HC.out.keep (.of_below hB)).at hv
   have HV := Lib.hid hv
   have HBAD : Hid (¬ ((0 ≤ v ∧ v < (n : Int)) ∧ 0 ≤ nth ws v ∧ ∀ (j : Nat) (u : Int), c = j + 1 → cut[j]? = some u → u < v) → ¬ P) := fun h hp => h ((HP.out.1 hp).1 c v hlt HV.out)
   have k0 : (0 : Int) ≤ (c : Int) := by omega
   have k1 : (c : Int) < (m : Int) := by omega
   clear hv
   by_cases z0 : v < 0
   ·have HX := Lib.hid (HBAD.out (fun h => by omega))
    have d0 : decide (v < 0) = true := decide_eq_true z0
    clear z0
    go_wp2_with fail
    go_ret
    exact ⟨Tells.no HX.out, hB⟩
   have d0 : decide (v < 0) = false := decide_eq_false z0
   by_cases z1 : (n : Int) ≤ v
   ·have HX := Lib.hid (HBAD.out (fun h => by omega))
    have d1 : decide ((n : Int) ≤ v) = true := decide_eq_true z1
    clear z0 z1
    go_wp2_with fail
    go_ret
    exact ⟨Tells.no HX.out, hB⟩
   have d1 : decide ((n : Int) ≤ v) = false := decide_eq_false z1
   obtain ⟨k, rfl⟩ : ∃ k : Nat, v = (k : Int) := ⟨v.toNat, by omega⟩
   have hkn : k < n := by omega
   obtain ⟨x, hx⟩ : ∃ z, ws[k]? = some z := ⟨_, List.getElem?_eq_getElem (by rw [HWL.out]; exact hkn)⟩
   obtain ⟨aW, rfl, habw, hcw, -, -⟩ := (HW.out.keep (.of_below hB)).at hx
   have HNT : Hid (nth ws (k : Int) = x) := by show (ws[(k : Int).toNat]?).getD 0 = x; rw [Int.toNat_natCast, hx]; rfl
   have k2 : (0 : Int) ≤ (k : Int) := by omega
   have k3 : (k : Int) < (n : Int) := by omega
   have d1' : decide (n ≤ k) = false := decide_eq_false (by omega)
   clear hx z0 z1
   by_cases z2 : x < 0
   ·have HX := Lib.hid (HBAD.out (fun h => by rw [HNT.out] at h; omega))
    have d2 : decide (x < 0) = true := decide_eq_true z2
    clear z2
    go_wp2_with fail
    go_ret
    exact ⟨Tells.no HX.out, hB⟩
   have d2 : decide (x < 0) = false := decide_eq_false z2
   have HX0 : Hid (0 ≤ x) := by show _ ≤ _; omega
   clear z2
   by_cases hc0 : c = 0
   ·have HC0 := Lib.hid hc0
    have HNX : Hid (CutTo ws cut n (c + 1)) := hCT.out.next HV.out ⟨by omega, by omega⟩ (by rw [HNT.out]; exact HX0.out) (fun j u e => absurd e (by have := HC0.out; omega))
    have d3 : decide ((0 : Int) < (c : Int)) = false := decide_eq_false (by omega)
    have d3' : decide (0 < c) = false := decide_eq_false (by omega)
    clear hc0
    go_wp2_with fail
    go_roundw
    case rel => exact ⟨c + 1, by omega, by go_num, HNX, hB⟩
    case measure => simp only [intOf]; omega
   ·obtain ⟨p, hp⟩ : ∃ p, c = p + 1 := ⟨c - 1, by omega⟩
    obtain ⟨u, hu⟩ : ∃ z, cut[p]? = some z := ⟨_, List.getElem?_eq_getElem (by rw [HM.out]; omega)⟩
    obtain ⟨a', ea, hab', hcu, -, -⟩ := (HC.out.keep (.of_below hB)).at hu
    injection ea with ea
    subst ea
    have HU := Lib.hid hu
    have HPC := Lib.hid hp
    have k4 : IntKind.i64.wrap ((c : Int) - 1) = (p : Int) := by rw [IntKind.wrap_i64]; omega
    have k5 : (0 : Int) ≤ (p : Int) := by omega
    have k6 : (p : Int) < (m : Int) := by omega
    have d3 : decide ((0 : Int) < (c : Int)) = true := decide_eq_true (by omega)
    have d3' : decide (0 < c) = true := decide_eq_true (by omega)
    have d3'' : 0 < c := by omega
    clear hu hp hc0
    by_cases z3 : (k : Int) ≤ u
    ·have HX := Lib.hid (HBAD.out (fun h => by have := h.2.2 p u HPC.out HU.out; omega))
     have d4 : decide ((k : Int) ≤ u) = true := decide_eq_true z3
     clear z3
     go_wp2_with fail
     go_ret
     exact ⟨Tells.no HX.out, hB⟩
    have HNX : Hid (CutTo ws cut n (c + 1)) := hCT.out.next HV.out ⟨by omega, by omega⟩ (by rw [HNT.out]; exact HX0.out) (fun j u' e hu' => by
     obtain rfl : j = p := by have := HPC.out; omega
     rw [HU.out] at hu'
     injection hu' with hu'
     omega)
    have d4 : decide ((k : Int) ≤ u) = false := decide_eq_false z3
    clear z3
    go_wp2_with fail
    go_roundw
    case rel => exact ⟨c + 1, by omega, by go_num, HNX, hB⟩
    case measure => simp only [intOf]; omega
  ·obtain rfl : c = m := by omega
   have HCN : Hid (NodesOk n cut) := fun v hv => by
    obtain ⟨i, hi, e⟩ := List.getElem_of_mem hv
    exact (hCT.out i v (by rw [← HM.out]; exact hi) (by rw [List.getElem?_eq_getElem hi, e])).1
   go_wp2_with fail
   refine (marks_any _ n _ cut (HC.out.keep (.of_below hB)) HCN.out hn).mono ?_
   rintro e w3 ⟨⟨gB, rfl, hgB, hRB⟩, hb3⟩
   have y3 := hb3.size; (try simp only [zs] at y3)
   have HB3 : Hid (Below w.heap.size w w3) := hB.trans (hb3.mono y5)
   go_wp2_with fail
   refine (apart_any _ n _ _ _ gB L es s t cut (HN.out.keep (.of_below HB3.out)) HL.out (HF.out.keep (.of_below HB3.out)) (HT.out.keep (.of_below HB3.out)) hRB.out hn HS.out HTT.out HA.out HEE.out).mono ?_
   rintro e w4 ⟨⟨b, rfl, hb⟩, hb4⟩
   have y4 := hb4.size; (try simp only [zs] at y4)
   have HB4 : Hid (Below w.heap.size w w4) := HB3.out.trans (hb4.mono (by omega))
   have HV : Hid (Tells P (.returned (.bool b))) := ⟨b, rfl, hb.out.trans ⟨fun h => HP.out.2 ⟨hCT.out, h⟩, fun h => (HP.out.1 h).2⟩⟩
   clear hb
   go_wp2_with fail
   go_ret
   exact ⟨HV.out, HB4.out⟩
end Go.Proofs.YtbdcjhoedhhabaaGreat

