/- Contracts of the functions that the statements reach, part 40. -/
import Derived.Test.YtdambnieminnfaaGreatRows
import Derived.Test.YtdambnieminnfaaGreatZ18
import Derived.Test.YtdambnieminnfaaGreatZ21
import Derived.Test.YtdambnieminnfaaGreatZ22
import Derived.Test.YtdambnieminnfaaGreatZ25
import Derived.Test.YtdambnieminnfaaGreatZ30
import Derived.Test.YtdambnieminnfaaGreatZ38
import Derived.Test.YtdambnieminnfaaGreatZ39
set_option linter.unusedSimpArgs false
set_option linter.unusedVariables false

/- The law's side of layer 40: decided. -/
namespace Go.Proofs.YtdambnieminnfaaGreat
open Go.RowKit
attribute [local go_sem ↓] Go.wp_at_zero Go.wp_at_succ

/-- Decide's code, plainly. -/
def DCode (L1 L2 : List (List Int)) (code : Int) : Prop :=
 (¬ (VC L1 ∧ VC L2) → code = 1) ∧ (VC L1 ∧ VC L2 → L1.length ≠ L2.length → code = 2) ∧ (VC L1 ∧ VC L2 → L1.length = L2.length → (80 < wid L1 * wid L2 ∨ 80 < neq L1 L2) → code = 4) ∧
 (VC L1 ∧ VC L2 → L1.length = L2.length → ¬ (80 < wid L1 * wid L2 ∨ 80 < neq L1 L2) → code = 0)
theorem DCode.uniq {L1 L2 : List (List Int)} {c d : Int} (h : DCode L1 L2 c) (h' : DCode L1 L2 d) : c = d := by
 by_cases h0 : VC L1 ∧ VC L2
 ·by_cases h1 : L1.length = L2.length
  ·by_cases h2 : 80 < wid L1 * wid L2 ∨ 80 < neq L1 L2
   ·rw [h.2.2.1 h0 h1 h2, h'.2.2.1 h0 h1 h2]
   ·rw [h.2.2.2 h0 h1 h2, h'.2.2.2 h0 h1 h2]
  ·rw [h.2.1 h0 h1, h'.2.1 h0 h1]
 ·rw [h.1 h0, h'.1 h0]
theorem DecSays.dcode {L1 L2 : List (List Int)} {code : Int} {b : Bool} {m Kn : Nat} {F G : Nat → Nat → Rat} (h : DecSays L1 L2 code b m F Kn G) : DCode L1 L2 code := ⟨h.1, h.2.1, h.2.2.1, h.2.2.2.1⟩

set_option maxRecDepth 100000 in
set_option maxHeartbeats 8000000 in
theorem decided_any (w : World) (v1 v2 : Value) (L1 L2 : List (List Int)) (h1 : IMat w v1 L1) (h2 : IMat w v2 L2) :
 Calls Tryz.prog 23 #[.agg #[v1], .agg #[v2]] w fun e w' => ∃ code : Int, e = .returned (.int .i64 code) ∧ Hid (DCode L1 L2 code) ∧ Below w.heap.size w w' := by
 have H1 := Lib.hid h1
 have H2 := Lib.hid h2
 obtain ⟨A1, c1, rfl, -, la1, la2⟩ := h1.op
 obtain ⟨A2, c2, rfl, -, lb1, lb2⟩ := h2.op
 obtain ⟨r, hr⟩ : ∃ r, L1.length = r := ⟨_, rfl⟩
 obtain ⟨s, hs⟩ : ∃ s, L2.length = s := ⟨_, rfl⟩
 have HR := Lib.hid hr
 have HS := Lib.hid hs
 rw [hr] at la1 H1
 rw [hs] at lb1 H2
 rw [hr, hs]
 have L := made1 w #[.slice A1 r c1] 24
 have M := made2 w (.cells #[.slice A1 r c1] 24) #[.slice A2 s c2] 24
 clear h1 h2 hr hs
 go_enter Tryz.func23, Tryz.ntmps23
 go_wp2_with fail
 refine (lvalid_any _ _ L1 (H1.out.keep kp)).mono ?_
 rintro e w1 ⟨⟨b, rfl, hb⟩, hb1⟩
 obtain ⟨z1, z2⟩ := sz2 hb1
 have L1' : Loc w1 w.heap.size _ _ := L.to
 have M1' : Loc w1 (w.heap.size + 1) _ _ := M.to
 have HB1 : Hid (Below w.heap.size w w1) := bel
 clear L M hb1
 obtain ⟨e1, f1, -⟩ := L1'.all (w' := w1)
 obtain ⟨e2, f2, -⟩ := M1'.all (w' := w1)
 cases b
 ·have HV : Hid (¬ VC L1) := fun h => by have := hb.out.2 h; cases this
  clear hb
  go_wp2_with fail
  go_ret
  exact ⟨1, rfl, ⟨fun _ => rfl, fun h => absurd h.1 HV.out, fun h => absurd h.1 HV.out, fun h => absurd h.1 HV.out⟩, HB1.out⟩
 have HV1 : Hid (VC L1) := hb.out.1 rfl
 clear hb
 go_wp2_with fail
 refine (lvalid_any _ _ L2 (H2.out.keep (.of_below HB1.out))).mono ?_
 rintro e w2 ⟨⟨b, rfl, hb⟩, hb2⟩
 have y2 := hb2.size; (try simp only [zs] at y2)
 have HB2 : Hid (Below w.heap.size w w2) := HB1.out.trans (hb2.mono (by omega))
 have L2' : Loc w2 w.heap.size _ _ := L1'.to
 have M2' : Loc w2 (w.heap.size + 1) _ _ := M1'.to
 clear e1 f1 e2 f2 L1' M1' hb2
 obtain ⟨e1, f1, -⟩ := L2'.all (w' := w2)
 obtain ⟨e2, f2, -⟩ := M2'.all (w' := w2)
 cases b
 ·have HV : Hid (¬ VC L2) := fun h => by have := hb.out.2 h; cases this
  clear hb
  go_wp2_with fail
  go_ret
  exact ⟨1, rfl, ⟨fun _ => rfl, fun h => absurd h.2 HV.out, fun h => absurd h.2 HV.out, fun h => absurd h.2 HV.out⟩, HB2.out⟩
 have HV2 : Hid (VC L2) := hb.out.1 rfl
 clear hb
 have hr1 : 0 < r := by have := HV1.out.1; have := HR.out; omega
 have hr2 : r ≤ 256 := by have := HV1.out.2.1; have := HR.out; omega
 have hs1 : 0 < s := by have := HV2.out.1; have := HS.out; omega
 have hs2 : s ≤ 256 := by have := HV2.out.2.1; have := HS.out; omega
 by_cases hrs : r = s
 case neg =>
  have d1 : ((r : Int) != (s : Int)) = true := by simp only [bne_iff_ne]; omega
  have HNE : Hid (¬ L1.length = L2.length) := by show ¬ _; rw [HR.out, HS.out]; exact hrs
  clear hrs
  go_wp2_with fail
  go_ret
  exact ⟨2, rfl, ⟨fun h => absurd ⟨HV1.out, HV2.out⟩ h, fun _ _ => rfl, fun _ h => absurd h HNE.out, fun _ h => absurd h HNE.out⟩, HB2.out⟩
 have HL : Hid (L1.length = L2.length) := by show _ = _; rw [HR.out, HS.out]; exact hrs
 subst hrs
 have d1 : ((r : Int) != (r : Int)) = false := bne_self_eq_false _
 obtain ⟨n2, hn2⟩ : ∃ n2, wid L2 = n2 := ⟨_, rfl⟩
 obtain ⟨n1, hn1⟩ : ∃ n1, wid L1 = n1 := ⟨_, rfl⟩
 have hn1b : 1 ≤ n1 ∧ n1 ≤ 256 := by rw [← hn1]; exact ⟨HV1.out.2.2.1, HV1.out.2.2.2.1⟩
 have hn2b : 1 ≤ n2 ∧ n2 ≤ 256 := by rw [← hn2]; exact ⟨HV2.out.2.2.1, HV2.out.2.2.2.1⟩
 obtain ⟨l1', he1⟩ : ∃ l, L1[0]? = some l := ⟨_, List.getElem?_eq_getElem (by have := HR.out; omega)⟩
 obtain ⟨l2', he2⟩ : ∃ l, L2[0]? = some l := ⟨_, List.getElem?_eq_getElem (by have := HS.out; omega)⟩
 obtain ⟨a1, D1, d1', rfl, hab1, hcell1, -, lc1, -⟩ := H1.out.at he1
 obtain ⟨a2, D2, d2', rfl, hab2, hcell2, -, lc2, -⟩ := H2.out.at he2
 rw [(HV1.out.row he1).1, hn1] at hcell1 lc1
 rw [(HV2.out.row he2).1, hn2] at hcell2 lc2
 rw [addr_zero] at hcell1 hcell2
 have HN1 := Lib.hid hn1
 have HN2 := Lib.hid hn2
 obtain ⟨P, hP⟩ : ∃ P, n1 * n2 = P := ⟨_, rfl⟩
 obtain ⟨Q, hQ⟩ : ∃ P, r * n2 = P := ⟨_, rfl⟩
 have hPb : P ≤ 65536 := by rw [← hP]; exact Nat.mul_le_mul hn1b.2 hn2b.2
 have hQb : Q ≤ 65536 := by rw [← hQ]; exact Nat.mul_le_mul hr2 hn2b.2
 have hPi : (n1 : Int) * (n2 : Int) = (P : Int) := by rw [← hP, Int.natCast_mul]
 have hQi : (r : Int) * (n2 : Int) = (Q : Int) := by rw [← hQ, Int.natCast_mul]
 have hPw : IntKind.i64.wrap ((n1 : Int) * (n2 : Int)) = (P : Int) := by rw [hPi, IntKind.wrap_i64]; omega
 have hQw : IntKind.i64.wrap ((r : Int) * (n2 : Int)) = (Q : Int) := by rw [hQi, IntKind.wrap_i64]; omega
 obtain ⟨S, hS⟩ : ∃ S, Q + n1 = S := ⟨_, rfl⟩
 have hMw : IntKind.i64.wrap ((Q : Int) + (n1 : Int)) = (S : Int) := by rw [IntKind.wrap_i64]; omega
 have HPP := Lib.hid hP
 have HQQ : Hid (neq L1 L2 = S) := by show _ = _; unfold neq; rw [HR.out, hn1, hn2, hQ, hS]
 have HC1 : Hid (∀ W, Below w2.heap.size w2 W → W.cell? a1 = some (.slice D1 n1 d1') ∧ W.cell? a2 = some (.slice D2 n2 d2')) := fun W hW => ⟨cell_keep (X := fun _ => False) hcell1 hab1 id (.of_below (HB2.out.trans (hW.mono (by omega)))), cell_keep (X := fun _ => False) hcell2 hab2 id (.of_below (HB2.out.trans (hW.mono (by omega))))⟩
 have i1 : (0 : Int) < (r : Int) := by omega
 clear he1 he2 hcell1 hcell2 hn1 hn2 hP hQ hPi hQi hS
 go_wp2_with fail
 go_upto_region 5 with fail
 go_cut [5, 6] (fun p q W => p = .int .i64 n1 ∧ q = .int .i64 n2 ∧ W = w2.drew)
 case first =>
  go_wp2_with fail
  refine wp_region_noPanic ?_
  refine wp_region_held_drew (S := (fun W => (W.cell? ⟨w.heap.size, 0, none⟩ = some (.slice (some a1) r c1) ∧ W.cell? ⟨w.heap.size + 1, 0, none⟩ = some (.slice (some a2) r c2)) ∧ W.cell? a1 = some (.slice D1 n1 d1') ∧ W.cell? a2 = some (.slice D2 n2 d2'))) (by kernel_rfl) ?_ (fun hHeld => ?_)
  ·exact ⟨⟨Loc.cell L2' 0, Loc.cell M2' 0⟩, HC1.out w2 (Below.refl _ _)⟩
  refine takeT 0 hHeld ?_
  (try simp only [Act.put, ly])
  refine takeT 1 hHeld ?_
  (try simp only [Act.put, ly])
  refine takeT 2 hHeld ?_
  (try simp only [Act.put, ly])
  refine takeT 3 hHeld ?_
  (try simp only [Act.put, ly])
  refine takeT 4 hHeld ?_
  (try simp only [Act.put, ly])
  refine takeT 5 hHeld ?_
  (try simp only [Act.put, ly])
  refine takeT 6 hHeld ?_
  (try simp only [Act.put, ly])
  refine takeT 7 hHeld ?_
  (try simp only [Act.put, ly])
  refine takeT 8 hHeld ?_
  (try simp only [Act.put, ly])
  refine takeT 9 hHeld ?_
  (try simp only [Act.put, ly])
  refine takeT 10 hHeld ?_
  (try simp only [Act.put, ly])
  refine takeT 11 hHeld ?_
  (try simp only [Act.put, ly])
  refine wpAnyH_done (by kernel_rfl) ?_ _
  refine NoPanic.normal ?_
  go_wp2_with fail
  go_meet
  exact ⟨rfl, rfl, rfl⟩
 case rest =>
  obtain ⟨rfl, rfl, rfl⟩ := hcut
  clear e1 f1 e2 f2
  obtain ⟨e1, f1, -⟩ := L2'.all (w' := w2)
  have HB2d : Hid (Below w.heap.size w w2.drew) := HB2.out.drew
  by_cases hbig : 80 < P
  ·have d5 : decide ((80 : Int) < (P : Int)) = true := decide_eq_true (by omega)
   have HBG : Hid (80 < wid L1 * wid L2) := by show _ < _; rw [HN1.out, HN2.out, HPP.out]; exact hbig
   clear hbig
   go_wp2_with fail
   go_ret
   exact ⟨4, rfl, ⟨fun h => absurd ⟨HV1.out, HV2.out⟩ h, fun _ h => absurd HL.out h, fun _ _ _ => rfl, fun _ _ h => absurd (.inl HBG.out) h⟩, HB2d.out⟩
  have d5 : decide ((80 : Int) < (P : Int)) = false := decide_eq_false (by omega)
  by_cases hbig2 : 80 < S
  ·have d6 : decide ((80 : Int) < (S : Int)) = true := decide_eq_true (by omega)
   have HBG : Hid (80 < neq L1 L2) := by show _ < _; rw [HQQ.out]; exact hbig2
   clear hbig2 hbig
   go_wp2_with fail
   go_ret
   exact ⟨4, rfl, ⟨fun h => absurd ⟨HV1.out, HV2.out⟩ h, fun _ h => absurd HL.out h, fun _ _ _ => rfl, fun _ _ h => absurd (.inr HBG.out) h⟩, HB2d.out⟩
  have d6 : decide ((80 : Int) < (S : Int)) = false := decide_eq_false (by omega)
  have HBG : Hid (¬ (80 < wid L1 * wid L2 ∨ 80 < neq L1 L2)) := by show ¬ _; rw [HN1.out, HN2.out, HPP.out, HQQ.out]; omega
  clear hbig hbig2
  go_wp2_with fail
  go_ret
  exact ⟨0, rfl, ⟨fun h => absurd ⟨HV1.out, HV2.out⟩ h, fun _ h => absurd HL.out h, fun _ _ h => absurd h HBG.out, fun _ _ _ => rfl⟩, HB2d.out⟩
end Go.Proofs.YtdambnieminnfaaGreat

/- Channels of few rows and columns: their systems are small. -/
namespace Go.Proofs.YtdambnieminnfaaGreat

theorem Few40.wd {L : List (List Int)} (h : Few40 L) : wid L ≤ 5 := by
 by_cases h0 : 0 < L.length
 ·exact h.2 _ (getD_mem h0)
 ·have : L = [] := List.eq_nil_of_length_eq_zero (by omega)
  subst this
  exact Nat.zero_le _
theorem Few40.sz {L1 L2 : List (List Int)} (h1 : Few40 L1) (h2 : Few40 L2) : SZ L1 L2 := sz_few h1.1 h1.2 h2.1 h2.2

theorem Few40.nk {L1 L2 : List (List Int)} (h1 : Few40 L1) (h2 : Few40 L2) : wid L1 * wid L2 ≤ 80 ∧ neq L1 L2 ≤ 80 := by
 have a := h1.wd
 have b := h2.wd
 have c := h1.1
 have d : wid L1 * wid L2 ≤ 5 * 5 := Nat.mul_le_mul a b
 have e : L1.length * wid L2 ≤ 5 * 5 := Nat.mul_le_mul c b
 unfold neq
 omega
theorem Few40.code {L1 L2 : List (List Int)} (h1 : Few40 L1) (h2 : Few40 L2) {code : Int} {b : Bool} {m Kn : Nat} {F G : Nat → Nat → Rat} (h : DecSays L1 L2 code b m F Kn G) (v1 : VC L1) (v2 : VC L2) (hl : L1.length = L2.length) : code = 0 :=
 dec_code h v1 v2 hl (h1.nk h2).1 (h1.nk h2).2
end Go.Proofs.YtdambnieminnfaaGreat

/- The law's side of layer 40: small. -/
namespace Go.Proofs.YtdambnieminnfaaGreat
open Go.RowKit
attribute [local go_sem ↓] Go.wp_at_zero Go.wp_at_succ

/-- A small channel. -/
def SM (L : List (List Int)) : Prop := Few40 L ∧ VC L ∧ L.length ≤ 4 ∧ wid L ≤ 4 ∧ tot L ≤ 1024

/- refinement.Chain. -/

/-- A list of canonical fractions that is read. -/
def NumsV (w : World) (X : Nat → Prop) (v : Value) (n : Nat) (f : Nat → Rat) : Prop :=
 ∃ (rs : List R4) (A : Option Addr) (cap : Nat), rs.length = n ∧ v = .slice A n cap ∧ n ≤ cap ∧ cap ≤ maxLen ∧
   (n ≠ 0 → ∃ a : Addr, A = some a ∧ a.block < w.heap.size ∧ ¬ X a.block ∧ ∀ i r, rs[i]? = some r →
    w.cell? (a.add (i * 4)) = some (.bool r.b) ∧ w.cell? ((a.add (i * 4)).add 1) = some (.slice r.A r.m r.c) ∧ w.cell? ((a.add (i * 4)).add 2) = some (.bool r.b') ∧ w.cell? ((a.add (i * 4)).add 3) = some (.slice r.A' r.m' r.c')) ∧ ValV w X rs f
/-- A list of such lists. -/
def MatV (w : World) (X : Nat → Prop) (v : Value) (m n : Nat) (F : Nat → Nat → Rat) : Prop :=
 ∃ (us : List Value) (A : Option Addr) (cap : Nat), us.length = m ∧ v = .slice A m cap ∧ m ≤ cap ∧ cap ≤ maxLen ∧
   (m ≠ 0 → ∃ a : Addr, A = some a ∧ a.block < w.heap.size ∧ ¬ X a.block ∧ ∀ i u, us[i]? = some u → w.cell? (a.add i) = some u) ∧ ∀ i u, us[i]? = some u → NumsV w X u n (F i)
section
variable {w w' W W2 : World} {k n m : Nat} {X Y : Nat → Prop} {v : Value} {f f' : Nat → Rat} {F F' : Nat → Nat → Rat} {rs : List R4} {q : Rat}
theorem NumsV.nums (h : NumsV w X v n f) (hs : ∀ i, i < n → Rsz k (f i)) : Nums k w X v n f := by
 obtain ⟨rs, A, cap, h1, h2, h3, h4, h5, h6⟩ := h
 exact ⟨rs, A, cap, h1, h2, h3, h4, h5, h6.len (fun i hi => hs i (by omega))⟩
theorem NumsV.keep (h : NumsV w X v n f) (hk : Keep X w w') : NumsV w' X v n f := by
 obtain ⟨rs, A, cap, h1, h2, h3, h4, h5, h6⟩ := h
 refine ⟨rs, A, cap, h1, h2, h3, h4, fun hn => ?_, h6.keep hk⟩
 obtain ⟨a, ea, hb, hX, hc⟩ := h5 hn
 refine ⟨a, ea, Nat.lt_of_lt_of_le hb hk.size, hX, fun i r hr => ?_⟩
 obtain ⟨c0, c1, c2, c3⟩ := hc i r hr
 have key : ∀ (p : Addr) (u : Value), p.block = a.block → w.cell? p = some u → w'.cell? p = some u := fun p u hp hu => cell_keep hu (by rw [hp]; exact hb) (by rw [hp]; exact hX) hk
 refine ⟨key _ _ ?_ c0, key _ _ ?_ c1, key _ _ ?_ c2, key _ _ ?_ c3⟩ <;> simp only [add_block]
theorem NumsV.weak (h : NumsV w X v n f) (hY : ∀ b, b < w.heap.size → Y b → X b) : NumsV w Y v n f := by
 obtain ⟨rs, A, cap, h1, h2, h3, h4, h5, h6⟩ := h
 refine ⟨rs, A, cap, h1, h2, h3, h4, fun hn => ?_, h6.weak hY⟩
 obtain ⟨a, ea, hb, hX, hc⟩ := h5 hn
 exact ⟨a, ea, hb, fun hy => hX (hY _ hb hy), hc⟩
theorem NumsV.congr (h : NumsV w X v n f) (hf : ∀ i, i < n → f' i = f i) : NumsV w X v n f' := by
 obtain ⟨rs, A, cap, h1, h2, h3, h4, h5, h6⟩ := h
 exact ⟨rs, A, cap, h1, h2, h3, h4, h5, h6.congr (by rw [h1]; exact hf)⟩
theorem NumsV.turn (h : NumsV W X v n f) (hk : Keep X W W2) (hY : ∀ b, b < W.heap.size → Y b → X b) : NumsV W2 Y v n f :=
 ((h.weak (Y := fun b => X b ∨ Y b) (fun b hb h => h.elim id (hY b hb))).keep hk.both).weak (fun _ _ h => .inr h)
theorem ValV.turn (h : ValV W X rs f) (hk : Keep X W W2) (hY : ∀ b, b < W.heap.size → Y b → X b) : ValV W2 Y rs f :=
 ((h.weak (Y := fun b => X b ∨ Y b) (fun b hb h => h.elim id (hY b hb))).keep hk.both).weak (fun _ _ h => .inr h)
theorem MatV.mat (h : MatV w X v m n F) (hs : ∀ i, i < m → ∀ j, j < n → Rsz k (F i j)) : Mat k w X v m (fun _ => n) F := by
 obtain ⟨us, A, cap, h1, h2, h3, h4, h5, h6⟩ := h
 exact ⟨us, A, cap, h1, h2, h3, h4, h5, fun i u hu => (h6 i u hu).nums (hs i (by rw [← h1]; exact (List.getElem?_eq_some_iff.1 hu).1))⟩
theorem MatV.keep (h : MatV w X v m n F) (hk : Keep X w w') : MatV w' X v m n F := by
 obtain ⟨us, A, cap, h1, h2, h3, h4, h5, h6⟩ := h
 refine ⟨us, A, cap, h1, h2, h3, h4, fun hn => ?_, fun i u hu => (h6 i u hu).keep hk⟩
 obtain ⟨a, ea, hb, hX, hc⟩ := h5 hn
 exact ⟨a, ea, Nat.lt_of_lt_of_le hb hk.size, hX, fun i u hu => cell_keep (hc i u hu) (by rw [add_block]; exact hb) (by rw [add_block]; exact hX) hk⟩
end
end Go.Proofs.YtdambnieminnfaaGreat

/- Witnesses of channels: every channel has one of itself, and two chain. Plain. -/
namespace Go.Proofs.YtdambnieminnfaaGreat

theorem wit_out {L1 L2 : List (List Int)} {m : Nat} {N : Nat → Nat} {F : Nat → Nat → Rat} (h : WIT L1 L2 m N F) : Wit L1.length (wid L1) (wid L2) (ce L1) ((tot L1 : Int) : Rat) (ce L2) ((tot L2 : Int) : Rat) F := by
 obtain ⟨v1, v2, hl, hst, hm, hn, heq⟩ := h
 refine ⟨fun y hy z hz => ?_, fun y hy => ?_, fun x hx z hz => ?_⟩
 ·have := (hst.1.2.2 y (by omega)).2 z (by rw [(hst.1.2.2 y (by omega)).1]; omega)
  grind
 ·have := hst.2 y (by omega)
  rw [(hst.1.2.2 y (by omega)).1, hn] at this
  exact this
 ·have := heq x hx z hz
  rw [hm] at this
  exact this
theorem wit_in {L1 L2 : List (List Int)} {F : Nat → Nat → Rat} (v1 : VC L1) (v2 : VC L2) (hl : L1.length = L2.length) (hw : Wit L1.length (wid L1) (wid L2) (ce L1) ((tot L1 : Int) : Rat) (ce L2) ((tot L2 : Int) : Rat) F) : WIT L1 L2 (wid L1) (fun _ => wid L2) F := by
 refine ⟨v1, v2, hl, ⟨⟨v1.2.2.1, v2.2.2.1, fun i hi => ⟨rfl, fun j hj hn => ?_⟩⟩, fun i hi => hw.one i hi⟩, rfl, rfl, fun x hx z hz => hw.eq x hx z hz⟩
 have := hw.non i hi j hj
 grind
theorem SM.code {L1 L2 : List (List Int)} (h1 : SM L1) (h2 : SM L2) (hl : L1.length = L2.length) {code : Int} {b : Bool} {m Kn : Nat} {F G : Nat → Nat → Rat} (h : DecSays L1 L2 code b m F Kn G) : code = 0 :=
 h1.1.code h2.1 h h1.2.1 h2.2.1 hl
end Go.Proofs.YtdambnieminnfaaGreat

/- Lists of integers that a call makes; lists of these that grow by append. -/
namespace Go.Proofs.YtdambnieminnfaaGreat
open Go.RowKit

theorem info_ints : (Tryz.prog.info? 38).map (fun i => (i.zero, i.size, i.bytes)) = some (some (.slice none 0 0), 1, 24) := by kernel_rfl
/-- A block of integers. -/
def RowI (w : World) (g : Nat) (zs : List Int) : Prop := Loc w g 3 (zs.map (Value.int .i64)).toArray
/-- A list of integers that is a block of its own. -/
def IntsO (w : World) (u : Value) (zs : List Int) : Prop := ∃ g, u = .slice (some ⟨g, 0, none⟩) zs.length zs.length ∧ RowI w g zs ∧ ∀ z ∈ zs, -9223372036854775808 ≤ z ∧ z ≤ 9223372036854775807
section
variable {w w' : World} {g base : Nat} {u v : Value} {zs : List Int} {us : List Value} {L : List (List Int)}
theorem add0 (g i : Nat) : (⟨g, 0, none⟩ : Addr).add i = ⟨g, i, none⟩ := by simp [Addr.add]; intro h; omega
theorem RowI.cell (h : RowI w g zs) {i : Nat} {z : Int} (hz : zs[i]? = some z) : w.cell? ⟨g, i, none⟩ = some (.int .i64 z) := by
 rw [Loc.cell h, List.getElem?_toArray, List.getElem?_map, hz]
 rfl
theorem RowI.lt (h : RowI w g zs) : g < w.heap.size := Loc.lt h
theorem RowI.below (h : RowI w g zs) (hb : Below w.heap.size w w') : RowI w' g zs := Loc.below h hb
theorem RowI.set (h : RowI w g zs) (i : Nat) (z : Int) : RowI (w.setCell ⟨g, i, none⟩ (.int .i64 z)) g (zs.set i z) := by
 have := Loc.set h i (.int .i64 z)
 unfold RowI
 rw [List.map_set, ← List.setIfInBounds_toArray]
 exact this
theorem IntsO.vals (h : IntsO w u zs) (hl : zs.length ≤ maxLen) : IntsV w u zs := by
 obtain ⟨g, rfl, hr, hz⟩ := h
 exact ⟨_, _, rfl, Nat.le_refl _, hl, fun _ => ⟨_, rfl, hr.lt, fun i z h => by rw [add0]; exact hr.cell h⟩, hz⟩
theorem IntsO.below (h : IntsO w u zs) (hb : Below w.heap.size w w') : IntsO w' u zs := by
 obtain ⟨g, rfl, hr, hz⟩ := h
 exact ⟨g, rfl, hr.below hb, hz⟩
theorem IntsO.other (h : IntsO w u zs) (hown : Own1 w base 38 v us) (hg : w.grownBy w' v.ownBlock) : IntsO w' u zs := by
 obtain ⟨g, rfl, hr, hz⟩ := h
 exact ⟨g, rfl, loc_other hown hg hr (by decide), hz⟩
theorem loc_ne {w : World} {g h : Nat} {t t' : TypeId} {cs cs' : Array Value} (L : Loc w g t cs) (L' : Loc w h t' cs') (hne : t ≠ t') : g ≠ h := fun e => by
 subst e
 unfold Loc at L L'
 rw [L] at L'
 injection L' with L'
 injection L' with e1 e2
 exact hne e2
theorem IntsO.far {t : TypeId} {cs : Array Value} {h0 : Nat} (h : IntsO w u zs) (L : Loc w h0 t cs) (ht : 3 ≠ t) (i : Nat) (x : Value) : IntsO (w.setCell ⟨h0, i, none⟩ x) u zs := by
 obtain ⟨g, rfl, hr, hz⟩ := h
 exact ⟨g, rfl, Loc.far hr (p := ⟨h0, i, none⟩) (loc_ne hr L ht) x, hz⟩
theorem Own1.far {h0 : Nat} {e : TypeId} (h : Own1 w base e v us) (hb : h0 < base) (i : Nat) (x : Value) : Own1 (w.setCell ⟨h0, i, none⟩ x) base e v us :=
 Own1.keep h ((Keep.refl (fun b => b = h0) w).set (.inl rfl) _) (fun g hg e => by have := (Own1.lt h hg).2; omega)
/-- A list of such lists. -/
theorem Own1.imat (h : Own1 w base 38 v us) (hl : us.length = L.length) (hm : L.length ≤ maxLen) (hu : ∀ (i : Nat) (u : Value) (l : List Int), us[i]? = some u → L[i]? = some l → IntsO w u l ∧ l.length ≤ maxLen) : IMat w v L := by
 have h0 := h.1
 rcases h.2 with ⟨rfl, hn⟩ | ⟨g, cap, cur, rfl, h3, hg, h1, h2, hsz, htake⟩
 ·refine ⟨none, 0, by rw [← hl, hn], by omega, Nat.zero_le _, fun h => absurd ?_ h⟩
  omega
 ·refine ⟨_, _, by rw [← hl], by omega, h2, fun _ => ⟨_, rfl, (Array.getElem?_eq_some_iff.1 hg).1, fun i l he => ?_⟩⟩
  have hi := (List.getElem?_eq_some_iff.1 he).1
  have hui := List.getElem?_eq_getElem (l := us) (i := i) (by omega)
  obtain ⟨ho, hlm⟩ := hu i _ l hui he
  have hc := World.ownsRow.cellAt h i (by omega)
  obtain ⟨gi, e, hr, hz⟩ := ho
  refine ⟨some ⟨gi, 0, none⟩, l.length, ?_, IntsO.vals ⟨gi, rfl, hr, hz⟩ hlm⟩
  rw [add0, hc, hui, e]
/-- A list of lists of integers that a call has made. -/
def IMatO (w : World) (v : Value) (L : List (List Int)) : Prop :=
 ∃ (base : Nat) (us : List Value), Own1 w base 38 v us ∧ us.length = L.length ∧ L.length ≤ maxLen ∧ ∀ (i : Nat) (u : Value) (l : List Int), us[i]? = some u → L[i]? = some l → IntsO w u l ∧ l.length ≤ maxLen
theorem IMatO.imat (h : IMatO w v L) : IMat w v L := by
 obtain ⟨base, us, h1, h2, h3, h4⟩ := h
 exact h1.imat h2 h3 h4
theorem IMatO.op (h : IMatO w v L) : ∃ (A : Option Addr) (cap : Nat), v = .slice A L.length cap ∧ IMatO w (.slice A L.length cap) L := by
 obtain ⟨A, cap, rfl, -⟩ := h.imat.op
 exact ⟨A, cap, rfl, h⟩
theorem IMatO.below (h : IMatO w v L) (hb : Below w.heap.size w w') : IMatO w' v L := by
 obtain ⟨base, us, h1, h2, h3, h4⟩ := h
 exact ⟨base, us, h1.below hb, h2, h3, fun i u l hu hl => ⟨(h4 i u l hu hl).1.below hb, (h4 i u l hu hl).2⟩⟩
theorem IMatO.far {t : TypeId} {cs : Array Value} {h0 : Nat} (h : IMatO w v L) (L0 : Loc w h0 t cs) (ht : 3 ≠ t) (ht2 : 38 ≠ t) (i : Nat) (x : Value) : IMatO (w.setCell ⟨h0, i, none⟩ x) v L := by
 obtain ⟨base, us, h1, h2, h3, h4⟩ := h
 refine ⟨base, us, Own1.keep h1 ((Keep.refl (fun b => b = h0) w).set (.inl rfl) _) (fun g hg e => ?_), h2, h3, fun j u l hu hl => ⟨(h4 j u l hu hl).1.far L0 ht i x, (h4 j u l hu hl).2⟩⟩
 rcases h1.2 with ⟨h', _⟩ | ⟨g', cap', cur, h', _, hg', _⟩
 ·rw [h'] at hg; cases hg
 ·rw [h'] at hg
  injection hg with hg
  subst hg
  exact loc_ne hg' L0 ht2 e
end
/-- One list appended. -/
theorem wpList_pushI {ops : Array Oper} {rest : List Oper} {o : Oper} {a : Act} {Q : Exit → Act → World → Prop} (w : World) (hgd : o.guard = none) (s x : Operand) (ho : o.op = .call { callee := .builtin .append, args := #[s, x], argTypes := #[22, 22] })
 (base : Nat) (v : Value) (us : List Value) (hs : a.eval s = v) (hown : Own1 w base 38 v us) (H : Nat) (u : Value) (hx : a.eval x = .slice (some ⟨H, 0, none⟩) 1 1) (hH : w.heap[H]? = some (.cells #[u] 38 (0, 0))) (hu : u.oneCell' = true)
 (hn : us.length ≤ 1000) (hbase : base ≤ w.heap.size)
 (h : ∀ g cap w', Own1 w' base 38 (.slice (some ⟨g, 0, none⟩) (us.length + 1) cap) (us ++ [u]) → w.grownBy w' v.ownBlock → (v.ownBlock = some g ∨ g = w.heap.size) → g < w'.heap.size → wpList Tryz.prog ops Q rest (a.put o.dst (.slice (some ⟨g, 0, none⟩) (us.length + 1) cap)) w') : wpList Tryz.prog ops Q (o :: rest) a w :=
 wpList_plain hgd fun _ hK => wp_push1 w s x ho Tryz.underlying22 info_ints rfl (by decide) base v us hs hown H u hx hH hu hn hbase fun g cap w' h1 h2 h3 h4 => hK _ _ (h g cap w' h1 h2 h3 h4)
end Go.Proofs.YtdambnieminnfaaGreat

