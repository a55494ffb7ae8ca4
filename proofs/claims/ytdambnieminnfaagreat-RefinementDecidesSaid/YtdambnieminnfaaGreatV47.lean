/- Contracts of the functions that the statements reach, part 47. -/
import Derived.Test.YtdambnieminnfaaGreatRows
import Derived.Test.YtdambnieminnfaaGreatV22
import Derived.Test.YtdambnieminnfaaGreatV45
import Derived.Test.YtdambnieminnfaaGreatV46
set_option linter.unusedSimpArgs false
set_option linter.unusedVariables false

/- Channels of few rows and columns: their systems are small. -/
namespace Go.Proofs.YtdambnieminnfaaGreat

theorem Few40.wd {L : List (List Int)} (h : Few40 L) : wid L ≤ 5 := by
 by_cases h0 : 0 < L.length
 ·exact h.2 _ (getD_mem h0)
 ·have : L = [] := List.eq_nil_of_length_eq_zero (by omega)
  subst this
  exact Nat.zero_le _
theorem Few40.sz {L1 L2 : List (List Int)} (h1 : Few40 L1) (h2 : Few40 L2) : SZ L1 L2 := sz_few h1.1 h1.2 h2.1 h2.2

theorem Few40.nk {L1 L2 : List (List Int)} (h1 : Few40 L1) (h2 : Few40 L2) : wid L1 * wid L2 ≤ 80 ∧ neq L1 L2 ≤ 80 := by
 have a := h1.wd
 have b := h2.wd
 have c := h1.1
 have d : wid L1 * wid L2 ≤ 5 * 5 := Nat.mul_le_mul a b
 have e : L1.length * wid L2 ≤ 5 * 5 := Nat.mul_le_mul c b
 unfold neq
 omega
theorem Few40.code {L1 L2 : List (List Int)} (h1 : Few40 L1) (h2 : Few40 L2) {code : Int} {b : Bool} {m Kn : Nat} {F G : Nat → Nat → Rat} (h : DecSays L1 L2 code b m F Kn G) (v1 : VC L1) (v2 : VC L2) (hl : L1.length = L2.length) : code = 0 :=
 dec_code h v1 v2 hl (h1.nk h2).1 (h1.nk h2).2
/-- An accepted witness: Decide's code is 0, and it holds. -/
theorem Few40.dec_wit {L1 L2 : List (List Int)} (h1 : Few40 L1) (h2 : Few40 L2) {code : Int} {b : Bool} {m Kn m' : Nat} {F G F' : Nat → Nat → Rat} {N' : Nat → Nat} (h : DecSays L1 L2 code b m F Kn G) (hw : WIT L1 L2 m' N' F') : code = 0 ∧ b = true := by
 obtain rfl := h1.code h2 h hw.1 hw.2.1 hw.2.2.1
 exact ⟨rfl, dec_true h hw⟩
theorem Few40.dec_gn {L1 L2 : List (List Int)} (h1 : Few40 L1) (h2 : Few40 L2) {code : Int} {b : Bool} {m Kn m' : Nat} {F G F' : Nat → Nat → Rat} {N' : Nat → Nat} (h : DecSays L1 L2 code b m F Kn G) (hw : GN L1 L2 m' N' F') : code = 0 ∧ b = false := by
 obtain rfl := h1.code h2 h hw.1 hw.2.1 hw.2.2.1
 exact ⟨rfl, dec_false h hw⟩
end Go.Proofs.YtdambnieminnfaaGreat

/- The law's side of layer 40: decided. -/
namespace Go.Proofs.YtdambnieminnfaaGreat
open Go.RowKit
attribute [local go_sem ↓] Go.wp_at_zero Go.wp_at_succ

/-- Decide's code, plainly. -/
def DCode (L1 L2 : List (List Int)) (code : Int) : Prop :=
 (¬ (VC L1 ∧ VC L2) → code = 1) ∧ (VC L1 ∧ VC L2 → L1.length ≠ L2.length → code = 2) ∧ (VC L1 ∧ VC L2 → L1.length = L2.length → (80 < wid L1 * wid L2 ∨ 80 < neq L1 L2) → code = 4) ∧
 (VC L1 ∧ VC L2 → L1.length = L2.length → ¬ (80 < wid L1 * wid L2 ∨ 80 < neq L1 L2) → code = 0)
theorem DCode.uniq {L1 L2 : List (List Int)} {c d : Int} (h : DCode L1 L2 c) (h' : DCode L1 L2 d) : c = d := by
 by_cases h0 : VC L1 ∧ VC L2
 ·by_cases h1 : L1.length = L2.length
  ·by_cases h2 : 80 < wid L1 * wid L2 ∨ 80 < neq L1 L2
   ·rw [h.2.2.1 h0 h1 h2, h'.2.2.1 h0 h1 h2]
   ·rw [h.2.2.2 h0 h1 h2, h'.2.2.2 h0 h1 h2]
  ·rw [h.2.1 h0 h1, h'.2.1 h0 h1]
 ·rw [h.1 h0, h'.1 h0]
theorem DecSays.dcode {L1 L2 : List (List Int)} {code : Int} {b : Bool} {m Kn : Nat} {F G : Nat → Nat → Rat} (h : DecSays L1 L2 code b m F Kn G) : DCode L1 L2 code := ⟨h.1, h.2.1, h.2.2.1, h.2.2.2.1⟩

set_option maxRecDepth 100000 in
set_option maxHeartbeats 8000000 in
theorem decided_any (w : World) (v1 v2 : Value) (L1 L2 : List (List Int)) (h1 : IMat w v1 L1) (h2 : IMat w v2 L2) :
 Calls Tryz.prog 23 #[.agg #[v1], .agg #[v2]] w fun e w' => ∃ code : Int, e = .returned (.int .i64 code) ∧ Hid (DCode L1 L2 code) ∧ Below w.heap.size w w' := by
 have H1 := Lib.hid h1
 have H2 := Lib.hid h2
 obtain ⟨A1, c1, rfl, -, la1, la2⟩ := h1.op
 obtain ⟨A2, c2, rfl, -, lb1, lb2⟩ := h2.op
 obtain ⟨r, hr⟩ : ∃ r, L1.length = r := ⟨_, rfl⟩
 obtain ⟨s, hs⟩ : ∃ s, L2.length = s := ⟨_, rfl⟩
 have HR := Lib.hid hr
 have HS := Lib.hid hs
 rw [hr] at la1 H1
 rw [hs] at lb1 H2
 rw [hr, hs]
 have L := made1 w #[.slice A1 r c1] 24
 have M := made2 w (.cells #[.slice A1 r c1] 24) #[.slice A2 s c2] 24
 clear h1 h2 hr hs
 go_enter Tryz.func23, Tryz.ntmps23
 go_wp2_with fail
 refine (lvalid_any _ _ L1 (H1.out.keep kp)).mono ?_
 rintro e w1 ⟨⟨b, rfl, hb⟩, hb1⟩
 obtain ⟨z1, z2⟩ := sz2 hb1
 have L1' : Loc w1 w.heap.size _ _ := L.to
 have M1' : Loc w1 (w.heap.size + 1) _ _ := M.to
 have HB1 : Hid (Below w.heap.size w w1) := bel
 clear L M hb1
 obtain ⟨e1, f1, -⟩ := L1'.all (w' := w1)
 obtain ⟨e2, f2, -⟩ := M1'.all (w' := w1)
 cases b
 ·have HV : Hid (¬ VC L1) := fun h => by have := hb.out.2 h; cases this
  clear hb
  go_wp2_with fail
  go_ret
  exact ⟨1, rfl, ⟨fun _ => rfl, fun h => absurd h.1 HV.out, fun h => absurd h.1 HV.out, fun h => absurd h.1 HV.out⟩, HB1.out⟩
 have HV1 : Hid (VC L1) := hb.out.1 rfl
 clear hb
 go_wp2_with fail
 refine (lvalid_any _ _ L2 (H2.out.keep (.of_below HB1.out))).mono ?_
 rintro e w2 ⟨⟨b, rfl, hb⟩, hb2⟩
 have y2 := hb2.size; (try simp only [zs] at y2)
 have HB2 : Hid (Below w.heap.size w w2) := HB1.out.trans (hb2.mono (by omega))
 have L2' : Loc w2 w.heap.size _ _ := L1'.to
 have M2' : Loc w2 (w.heap.size + 1) _ _ := M1'.to
 clear e1 f1 e2 f2 L1' M1' hb2
 obtain ⟨e1, f1, -⟩ := L2'.all (w' := w2)
 obtain ⟨e2, f2, -⟩ := M2'.all (w' := w2)
 cases b
 ·have HV : Hid (¬ VC L2) := fun h => by have := hb.out.2 h; cases this
  clear hb
  go_wp2_with fail
  go_ret
  exact ⟨1, rfl, ⟨fun _ => rfl, fun h => absurd h.2 HV.out, fun h => absurd h.2 HV.out, fun h => absurd h.2 HV.out⟩, HB2.out⟩
 have HV2 : Hid (VC L2) := hb.out.1 rfl
 clear hb
 have hr1 : 0 < r := by have := HV1.out.1; have := HR.out; omega
 have hr2 : r ≤ 256 := by have := HV1.out.2.1; have := HR.out; omega
 have hs1 : 0 < s := by have := HV2.out.1; have := HS.out; omega
 have hs2 : s ≤ 256 := by have := HV2.out.2.1; have := HS.out; omega
 by_cases hrs : r = s
 case neg =>
  have d1 : ((r : Int) != (s : Int)) = true := by simp only [bne_iff_ne]; omega
  have HNE : Hid (¬ L1.length = L2.length) := by show ¬ _; rw [HR.out, HS.out]; exact hrs
  clear hrs
  go_wp2_with fail
  go_ret
  exact ⟨2, rfl, ⟨fun h => absurd ⟨HV1.out, HV2.out⟩ h, fun _ _ => rfl, fun _ h => absurd h HNE.out, fun _ h => absurd h HNE.out⟩, HB2.out⟩
 have HL : Hid (L1.length = L2.length) := by show _ = _; rw [HR.out, HS.out]; exact hrs
 subst hrs
 have d1 : ((r : Int) != (r : Int)) = false := bne_self_eq_false _
 obtain ⟨n2, hn2⟩ : ∃ n2, wid L2 = n2 := ⟨_, rfl⟩
 obtain ⟨n1, hn1⟩ : ∃ n1, wid L1 = n1 := ⟨_, rfl⟩
 have hn1b : 1 ≤ n1 ∧ n1 ≤ 256 := by rw [← hn1]; exact ⟨HV1.out.2.2.1, HV1.out.2.2.2.1⟩
 have hn2b : 1 ≤ n2 ∧ n2 ≤ 256 := by rw [← hn2]; exact ⟨HV2.out.2.2.1, HV2.out.2.2.2.1⟩
 obtain ⟨l1', he1⟩ : ∃ l, L1[0]? = some l := ⟨_, List.getElem?_eq_getElem (by have := HR.out; omega)⟩
 obtain ⟨l2', he2⟩ : ∃ l, L2[0]? = some l := ⟨_, List.getElem?_eq_getElem (by have := HS.out; omega)⟩
 obtain ⟨a1, D1, d1', rfl, hab1, hcell1, -, lc1, -⟩ := H1.out.at he1
 obtain ⟨a2, D2, d2', rfl, hab2, hcell2, -, lc2, -⟩ := H2.out.at he2
 rw [(HV1.out.row he1).1, hn1] at hcell1 lc1
 rw [(HV2.out.row he2).1, hn2] at hcell2 lc2
 rw [addr_zero] at hcell1 hcell2
 have HN1 := Lib.hid hn1
 have HN2 := Lib.hid hn2
 obtain ⟨P, hP⟩ : ∃ P, n1 * n2 = P := ⟨_, rfl⟩
 obtain ⟨Q, hQ⟩ : ∃ P, r * n2 = P := ⟨_, rfl⟩
 have hPb : P ≤ 65536 := by rw [← hP]; exact Nat.mul_le_mul hn1b.2 hn2b.2
 have hQb : Q ≤ 65536 := by rw [← hQ]; exact Nat.mul_le_mul hr2 hn2b.2
 have hPi : (n1 : Int) * (n2 : Int) = (P : Int) := by rw [← hP, Int.natCast_mul]
 have hQi : (r : Int) * (n2 : Int) = (Q : Int) := by rw [← hQ, Int.natCast_mul]
 have hPw : IntKind.i64.wrap ((n1 : Int) * (n2 : Int)) = (P : Int) := by rw [hPi, IntKind.wrap_i64]; omega
 have hQw : IntKind.i64.wrap ((r : Int) * (n2 : Int)) = (Q : Int) := by rw [hQi, IntKind.wrap_i64]; omega
 obtain ⟨S, hS⟩ : ∃ S, Q + n1 = S := ⟨_, rfl⟩
 have hMw : IntKind.i64.wrap ((Q : Int) + (n1 : Int)) = (S : Int) := by rw [IntKind.wrap_i64]; omega
 have HPP := Lib.hid hP
 have HQQ : Hid (neq L1 L2 = S) := by show _ = _; unfold neq; rw [HR.out, hn1, hn2, hQ, hS]
 have HC1 : Hid (∀ W, Below w2.heap.size w2 W → W.cell? a1 = some (.slice D1 n1 d1') ∧ W.cell? a2 = some (.slice D2 n2 d2')) := fun W hW => ⟨cell_keep (X := fun _ => False) hcell1 hab1 id (.of_below (HB2.out.trans (hW.mono (by omega)))), cell_keep (X := fun _ => False) hcell2 hab2 id (.of_below (HB2.out.trans (hW.mono (by omega))))⟩
 have i1 : (0 : Int) < (r : Int) := by omega
 clear he1 he2 hcell1 hcell2 hn1 hn2 hP hQ hPi hQi hS
 go_wp2_with fail
 go_upto_region 5 with fail
 go_cut [5, 6] (fun p q W => p = .int .i64 n1 ∧ q = .int .i64 n2 ∧ W = w2.drew)
 case first =>
  go_wp2_with fail
  refine wp_region_noPanic ?_
  refine wp_region_held_drew (S := (fun W => (W.cell? ⟨w.heap.size, 0, none⟩ = some (.slice (some a1) r c1) ∧ W.cell? ⟨w.heap.size + 1, 0, none⟩ = some (.slice (some a2) r c2)) ∧ W.cell? a1 = some (.slice D1 n1 d1') ∧ W.cell? a2 = some (.slice D2 n2 d2'))) (by kernel_rfl) ?_ (fun hHeld => ?_)
  ·exact ⟨⟨Loc.cell L2' 0, Loc.cell M2' 0⟩, HC1.out w2 (Below.refl _ _)⟩
  refine takeT 0 hHeld ?_
  (try simp only [Act.put, ly])
  refine takeT 1 hHeld ?_
  (try simp only [Act.put, ly])
  refine takeT 2 hHeld ?_
  (try simp only [Act.put, ly])
  refine takeT 3 hHeld ?_
  (try simp only [Act.put, ly])
  refine takeT 4 hHeld ?_
  (try simp only [Act.put, ly])
  refine takeT 5 hHeld ?_
  (try simp only [Act.put, ly])
  refine takeT 6 hHeld ?_
  (try simp only [Act.put, ly])
  refine takeT 7 hHeld ?_
  (try simp only [Act.put, ly])
  refine takeT 8 hHeld ?_
  (try simp only [Act.put, ly])
  refine takeT 9 hHeld ?_
  (try simp only [Act.put, ly])
  refine takeT 10 hHeld ?_
  (try simp only [Act.put, ly])
  refine takeT 11 hHeld ?_
  (try simp only [Act.put, ly])
  refine wpAnyH_done (by kernel_rfl) ?_ _
  refine NoPanic.normal ?_
  go_wp2_with fail
  go_meet
  exact ⟨rfl, rfl, rfl⟩
 case rest =>
  obtain ⟨rfl, rfl, rfl⟩ := hcut
  clear e1 f1 e2 f2
  obtain ⟨e1, f1, -⟩ := L2'.all (w' := w2)
  have HB2d : Hid (Below w.heap.size w w2.drew) := HB2.out.drew
  by_cases hbig : 80 < P
  ·have d5 : decide ((80 : Int) < (P : Int)) = true := decide_eq_true (by omega)
   have HBG : Hid (80 < wid L1 * wid L2) := by show _ < _; rw [HN1.out, HN2.out, HPP.out]; exact hbig
   clear hbig
   go_wp2_with fail
   go_ret
   exact ⟨4, rfl, ⟨fun h => absurd ⟨HV1.out, HV2.out⟩ h, fun _ h => absurd HL.out h, fun _ _ _ => rfl, fun _ _ h => absurd (.inl HBG.out) h⟩, HB2d.out⟩
  have d5 : decide ((80 : Int) < (P : Int)) = false := decide_eq_false (by omega)
  by_cases hbig2 : 80 < S
  ·have d6 : decide ((80 : Int) < (S : Int)) = true := decide_eq_true (by omega)
   have HBG : Hid (80 < neq L1 L2) := by show _ < _; rw [HQQ.out]; exact hbig2
   clear hbig2 hbig
   go_wp2_with fail
   go_ret
   exact ⟨4, rfl, ⟨fun h => absurd ⟨HV1.out, HV2.out⟩ h, fun _ h => absurd HL.out h, fun _ _ _ => rfl, fun _ _ h => absurd (.inr HBG.out) h⟩, HB2d.out⟩
  have d6 : decide ((80 : Int) < (S : Int)) = false := decide_eq_false (by omega)
  have HBG : Hid (¬ (80 < wid L1 * wid L2 ∨ 80 < neq L1 L2)) := by show ¬ _; rw [HN1.out, HN2.out, HPP.out, HQQ.out]; omega
  clear hbig hbig2
  go_wp2_with fail
  go_ret
  exact ⟨0, rfl, ⟨fun h => absurd ⟨HV1.out, HV2.out⟩ h, fun _ h => absurd HL.out h, fun _ _ h => absurd h HBG.out, fun _ _ _ => rfl⟩, HB2d.out⟩
end Go.Proofs.YtdambnieminnfaaGreat

