/- Contracts of the functions that the statements reach, part 35. -/
import Derived.Test.YtpeglenapmkdfaaGreatRows
import Derived.Deep.DeepCutAuto
import Derived.Test.YtpeglenapmkdfaaGreatM27
import Derived.Test.YtpeglenapmkdfaaGreatM34
set_option linter.unusedSimpArgs false
set_option linter.unusedVariables false

/- Minimize. -/
namespace Go.Proofs.YtpeglenapmkdfaaGreat
open Go.RowKit
attribute [local go_sem ↓] Go.wp_at_zero Go.wp_at_succ

theorem Loc.fill8 {w : World} {g : Nat} {t : TypeId} {a0 a1 a2 a3 a4 a5 a6 a7 u0 u1 u2 u3 u4 u5 u6 u7 : Value} (L : Loc w g t #[a0, a1, a2, a3, a4, a5, a6, a7]) : Loc ((((((((w.setCell ⟨g, 0, none⟩ u0).setCell ⟨g, 1, none⟩ u1).setCell ⟨g, 2, none⟩ u2).setCell ⟨g, 3, none⟩ u3).setCell ⟨g, 4, none⟩ u4).setCell ⟨g, 5, none⟩ u5).setCell ⟨g, 6, none⟩ u6).setCell ⟨g, 7, none⟩ u7) g t #[u0, u1, u2, u3, u4, u5, u6, u7] := by
  have := (((((((L.set 0 u0).set 1 u1).set 2 u2).set 3 u3).set 4 u4).set 5 u5).set 6 u6).set 7 u7
  simpa using this

/-- An optimum in memory. -/
def OptV (K : Nat) (w : World) (v : Value) (kind : Int) (nx : Nat) (f : Nat → Rat) (ny : Nat) (y : Nat → Rat) (nr : Nat) (r : Nat → Rat) (val : Rat) : Prop :=
  ∃ (C E G : Option Addr) (c3 c4 c5 : Nat) (b : Bool) (A : Option Addr) (p c : Nat) (b' : Bool) (A' : Option Addr) (p' c' : Nat), v = .agg #[.int .i64 kind, .slice C nx c3, .slice E ny c4, .slice G nr c5, .bool b, .slice A p c, .bool b', .slice A' p' c'] ∧
    Nums K w (fun _ => False) (.slice C nx c3) nx f ∧ Nums K w (fun _ => False) (.slice E ny c4) ny y ∧ Nums K w (fun _ => False) (.slice G nr c5) nr r ∧ RatL K w (fun _ => False) (.agg #[.bool b, .slice A p c, .bool b', .slice A' p' c']) val
/-- What Minimize says. -/
def MinSays (code kind : Int) (m mb : Nat) (N : Nat → Nat) (F : Nat → Nat → Rat) (Bv : Nat → Rat) (nc : Nat) (kc : Nat → Rat) (nx : Nat) (f : Nat → Rat) (ny : Nat) (y : Nat → Rat) (nr : Nat) (r : Nat → Rat) (val : Rat) : Prop :=
  (¬ VS m mb N → code = 1 ∧ nx = 0 ∧ ny = 0 ∧ nr = 0) ∧ (VS m mb N → nc ≠ N 0 → code = 2 ∧ nx = 0 ∧ ny = 0 ∧ nr = 0) ∧ (VS m mb N → nc = N 0 → code = 0 ∧ OP kind m mb N F Bv nc kc nx f ny y nr r val)
def ozero : Array Value := #[.int .i64 0, .slice none 0 0, .slice none 0 0, .slice none 0 0, .bool false, .slice none 0 0, .bool false, .slice none 0 0]
theorem optV_zero (K : Nat) (w : World) : OptV K w (.agg #[.int .i64 0, .slice none 0 0, .slice none 0 0, .slice none 0 0, .bool false, .slice none 0 0, .bool false, .slice none 0 0]) 0 0 (fun _ => 0) 0 (fun _ => 0) 0 (fun _ => 0) 0 :=
  ⟨_, _, _, _, _, _, _, _, _, _, _, _, _, _, rfl, Nums.nil _ _ _ _, Nums.nil _ _ _ _, Nums.nil _ _ _ _, zR4L _ _ _⟩
theorem ocs (kind : Int) (C E G : Option Addr) (n3 n4 n5 c3 c4 c5 : Nat) (b : Bool) (A : Option Addr) (p c : Nat) (b' : Bool) (A' : Option Addr) (p' c' : Nat) : ∀ u ∈ (#[.int .i64 kind, .slice C n3 c3, .slice E n4 c4, .slice G n5 c5, .bool b, .slice A p c, .bool b', .slice A' p' c'] : Array Value), noW u := fun u hu => by
  simp only [List.mem_toArray, List.mem_cons, List.not_mem_nil, or_false] at hu
  rcases hu with rfl | rfl | rfl | rfl | rfl | rfl | rfl | rfl
  · exact noW_i64 _
  · exact noW_slice _ _ _
  · exact noW_slice _ _ _
  · exact noW_slice _ _ _
  · exact noW_bool _
  · exact noW_slice _ _ _
  · exact noW_bool _
  · exact noW_slice _ _ _

theorem ValL.grow2 {k g : Nat} {w w2 : World} {v : Value} {rs : List R4} {f : Nat → Rat} {r : R4} {Z : Nat → Prop} (hv : ValL k w (fun b => v.ownBlock = some b ∨ Z b) rs f) (hr : RatL k w (fun b => v.ownBlock = some b ∨ Z b) r.v (f rs.length)) (hg : w.grownBy w2 v.ownBlock) (ho : v.ownBlock = some g ∨ g = w.heap.size) :
    ValL k w2 (fun b => b = g ∨ Z b) (rs ++ [r]) f := by
  have h1 : ValL k w (fun b => v.ownBlock = some b ∨ Z b) (rs ++ [r]) f := hv.push hr
  have h2 : ValL k w (fun b => v.ownBlock = some b ∨ (b = g ∨ Z b)) (rs ++ [r]) f := h1.weak (fun b hb h => by
    rcases h with h | h | h
    · exact .inl h
    · rcases ho with ho | ho
      · rw [h]; exact .inl ho
      · omega
    · exact .inr h)
  have hk : Keep (fun b => v.ownBlock = some b ∨ (b = g ∨ Z b)) w w2 := (Keep.refl _ w).grown hg (fun q hq => .inl (.inl hq))
  exact (h2.keep hk).weak (fun b _ h => .inr h)

set_option maxRecDepth 100000 in
set_option maxHeartbeats 16000000 in
theorem minimizeTop_any (w : World) (vs vc : Value) (m mb k K1 K2 K nc : Nat) (N : Nat → Nat) (F : Nat → Nat → Rat) (Bv kc : Nat → Rat) (hS : Sys k w vs m mb N F Bv) (hc : Nums k w (fun _ => False) vc nc kc) (hk1 : 1 ≤ k) (hk : k ≤ 1000) (hK1 : 2 ≤ K1) (hK1' : K1 ≤ 3000) (hK2 : 2 ≤ K2) (hK2' : K2 ≤ 9000) (hKa : K1 ≤ K) (hKb : K2 + K2 + 10 ≤ K)
    (hs1 : VS m mb N → nc = N 0 → Szk K1 K2 m (N 0) (t0 m (N 0) F Bv) (d1 m (N 0))) (hs2 : VS m mb N → nc = N 0 → Szk K1 K2 m (N 0) (t0 m (N 0) F Bv) (d2 (N 0) kc)) :
    Calls Tryz.prog 26 #[vs, vc] w fun e w' => ∃ (vO : Value) (code kind : Int) (nx ny nr : Nat) (f y r : Nat → Rat) (val : Rat), e = .returned (.tuple #[vO, .int .i64 code]) ∧
      Hid (OptV K w' vO kind nx f ny y nr r val) ∧ Hid (MinSays code kind m mb N F Bv nc kc nx f ny y nr r val) ∧ Below w.heap.size w w' := by
  obtain ⟨A, cA, B, d, rfl, hA, hB⟩ := hS
  have HA := Lib.hid hA
  have HB := Lib.hid hB
  have HS1 := Lib.hid hs1
  have HS2 := Lib.hid hs2
  have HC := Lib.hid hc
  obtain ⟨C0, c0', rfl, hc, lc1, lc2⟩ := hc.op
  have L1 := made1 w #[.slice A m cA, .slice B mb d] 25
  have L2 := made2 w (.cells #[.slice A m cA, .slice B mb d] 25) #[.int .i64 0, .slice none 0 0, .slice none 0 0, .slice none 0 0, .bool false, .slice none 0 0, .bool false, .slice none 0 0] 51
  clear hA hB hs1 hs2 hc
  go_enter Tryz.func26, Tryz.ntmps26
  go_wp2_with fail
  refine (valid_any _ _ _ m mb k N F Bv (HA.out.keep kp) (HB.out.keep kp)).mono ?_
  rintro e w1 ⟨⟨b, rfl, hb⟩, hb1⟩
  obtain ⟨z1, z2⟩ := sz2 hb1
  have LF := Loc.fill8 (u0 := .int .i64 0) (u1 := .slice none 0 0) (u2 := .slice none 0 0) (u3 := .slice none 0 0) (u4 := .bool false) (u5 := .slice none 0 0) (u6 := .bool false) (u7 := .slice none 0 0) (L2.to (w' := w1))
  obtain ⟨e1, f1, -⟩ := L1.all (w' := w1)
  obtain ⟨e2, f2, -⟩ := L2.all (w' := w1)
  cases b
  · have HV : Hid (¬ VS m mb N) := fun h => by have := hb.out.2 h; cases this
    obtain ⟨e8, g8, -⟩ := LF.all
    clear hb
    go_wp2_with fail
    refine bodyPost_ret (by simp [results, Tryz.results26, go_sem, e8, g8] <;> rfl) rfl ⟨_, 1, 0, 0, 0, 0, fun _ => 0, fun _ => 0, fun _ => 0, 0, rfl, optV_zero K _, ⟨fun _ => ⟨rfl, rfl, rfl, rfl⟩, fun h => absurd h HV.out, fun h => absurd h HV.out⟩, bel⟩
  have HV : Hid (VS m mb N) := hb.out.1 rfl
  clear hb
  obtain ⟨v1, v2, rfl, v4, v5, v6⟩ := HV.out
  obtain ⟨n, hnn⟩ : ∃ n, N 0 = n := ⟨_, rfl⟩
  obtain ⟨a, D, dd, rfl, hab, -, hcell, hnum, l9, l10⟩ := Mat.at HA.out (show 0 < mb by omega)
  have ea0 : a.add 0 = a := by simp [Addr.add]
  rw [ea0] at hcell
  have HN : Hid (∀ i, i < mb → N i = n) := fun i hi => by rw [← hnn]; exact v6 i hi
  have HN0 := Lib.hid hnn
  rw [hnn] at v4 v5 hcell l9
  have hcw : w1.cell? a = some (.slice D n dd) := cell_keep (X := fun _ => False) hcell hab id (.of_below (bel : Below w.heap.size w w1))
  have q0 : (0 : Int) < (mb : Int) := by omega
  clear v6 hnn hcell hnum
  by_cases hnc : nc ≠ n
  · have h4 : ((nc : Int) == (n : Int)) = false := beq_eq_false_iff_ne.2 (by omega)
    have h5 : ((nc : Int) != (n : Int)) = true := bne_iff_ne.2 (by omega)
    have HNC : Hid (nc ≠ N 0) := by show _ ≠ _; rw [HN0.out]; exact hnc
    obtain ⟨e8, g8, -⟩ := LF.all
    go_wp2_with fail
    refine bodyPost_ret (by simp [results, Tryz.results26, go_sem, e8, g8] <;> rfl) rfl ⟨_, 2, 0, 0, 0, 0, fun _ => 0, fun _ => 0, fun _ => 0, 0, rfl, optV_zero K _, ⟨fun h => absurd HV.out h, fun _ _ => ⟨rfl, rfl, rfl, rfl⟩, fun _ h => absurd h HNC.out⟩, bel⟩
  obtain rfl : nc = n := Classical.not_not.1 hnc
  have HNC : Hid (nc = N 0) := HN0.out.symm
  have HSZ1 := HS1.out HV.out HNC.out
  have HSZ2 := HS2.out HV.out HNC.out
  rw [HN0.out] at HSZ1 HSZ2
  have HSK1 := Lib.hid HSZ1
  have HSK2 := Lib.hid HSZ2
  clear hnc HSZ1 HSZ2 HS1 HS2 LF
  go_wp2_with fail
  refine (feasible_any _ mb nc k N F Bv _ _ (HA.out.keep kp) (HB.out.keep kp) HN.out v1 v4 v2 v5 hk hk1 (HSK1.out.szs hK1' hK2')).mono ?_
  rintro e w3 ⟨l, S, ok, rfl, HP, hb3⟩
  have z3 := hb3.size
  obtain ⟨e3, f3, l3⟩ := L2.all (w' := w3)
  clear e1 f1 e2 f2
  cases ok
  · have HNE : Hid (rho mb (d1 mb nc) S.T S.b (nc + mb) ≠ 0) := fun h => by have := HP.out.ok.2 h; cases this
    clear e3 f3
    go_wp2_with fail
    refine (farkas_any _ l mb nc K2 S _ (sgn Bv) (HP.out.tab.on kp) v2 v5 hK2 (by omega) (HSK1.out.rho HP.out.good) (fun i _ => sgn_or Bv i)).mono ?_
    rintro e w4 ⟨v', rfl, hn4, hf4, hb4⟩
    have z4 := hb4.size
    obtain ⟨A4, c4, rfl, hn4, -, -⟩ := hn4.op
    have HN4 := Lib.hid hn4
    have HF4 := Lib.hid hf4
    have HFK : Hid (FK mb mb N F Bv mb (fun i => ((-(sgn Bv i) : Int) : Rat) * (1 - rho mb (d1 mb nc) S.T S.b (nc + i)))) := fk_of HV.out HN0.out HP.out.good HP.out.feas HP.out.opt HNE.out
    clear hn4 hf4
    go_wp2_with fail
    refine (zero_lin _).mono ?_
    rintro e w5 ⟨v5', rfl, i5, hb5⟩
    obtain ⟨b5, A5, m5, c5, b5', A5', m5', c5', rfl, i5, -, -⟩ := i5.op
    have z5 := hb5.size
    have LF := Loc.fill8 (u0 := .int .i64 0) (u1 := .slice none 0 0) (u2 := .slice A4 mb c4) (u3 := .slice none 0 0) (u4 := .bool b5) (u5 := .slice A5 m5 c5) (u6 := .bool b5') (u7 := .slice A5' m5' c5') (L2.to (w' := w5))
    obtain ⟨e3, f3, l3⟩ := L2.all (w' := w5)
    obtain ⟨e8, g8, -⟩ := LF.all
    go_wp2_with fail
    refine bodyPost_ret (v := .tuple #[.agg #[.int .i64 0, .slice none 0 0, .slice A4 mb c4, .slice none 0 0, .bool b5, .slice A5 m5 c5, .bool b5', .slice A5' m5' c5'], .int .i64 0]) (by simp [results, Tryz.results26, go_sem, e8, g8] <;> rfl) rfl ⟨_, 0, 0, 0, mb, 0, fun _ => 0, _, fun _ => 0, 0, rfl, ⟨_, _, _, _, _, _, _, _, _, _, _, _, _, _, rfl, Nums.nil _ _ _ _, ?_, Nums.nil _ _ _ _, ?_⟩, ⟨fun h => absurd HV.out h, fun _ h => absurd HNC.out h, fun _ _ => ⟨rfl, HV.out, HNC.out, .inl ⟨rfl, HFK.out, rfl, rfl, rfl⟩⟩⟩, bel⟩
    · exact (Nums.past (HN4.out.keep kp) (L2.to (w' := w5)) (ocs _ _ _ _ _ _ _ _ _ _ _ _ _ _ _ _ _ _) HF4.out (by omega) kp).mono hKb
    · exact RatL.past (RatL.to (i5.len (rsz_zero K (by omega)))) (L2.to (w' := w5)) (ocs _ _ _ _ _ _ _ _ _ _ _ _ _ _ _ _ _ _) kp
  · have HZ : Hid (Zer mb nc S) := p1_zero HP.out.good HP.out.feas (HP.out.ok.1 rfl)
    have HMID : Hid (Mid mb nc (t0 mb nc F Bv) S 0) := ⟨HP.out.good, HP.out.feas, HZ.out, fun i hi => absurd hi (by omega)⟩
    have HLOW : Hid (∀ b, l.X mb b → w1.heap.size ≤ b) := HP.out.low
    have L3 : Loc w3 (w.heap.size + 1) _ _ := L2.to (w' := w3)
    have hw13 : Below w.heap.size w w3 := bel
    have HC3 : Hid (Nums k w3 (l.X mb) (.slice C0 nc c0') nc kc) := ((HC.out.weak (Y := fun b => w.heap.size ≤ b) (fun b hb h => absurd hb (by have : w.heap.size ≤ b := h; omega))).keep (.of_below hw13)).weak (fun b _ hb => by show w.heap.size ≤ b; have := HLOW.out b hb; omega)
    clear e3 f3
    go_wp2_with fail
    refine (second_any _ l mb nc k (t0 mb nc F Bv) S (sgn Bv) kc _ HP.out.tab HMID.out HC3.out (by omega) v1 v4 v2 v5 (HSK1.out.szs hK1' hK2') (HSK2.out.szs hK1' hK2')).mono ?_
    rintro e w4 ⟨rfl, S2, gc2, hM2, hT2, hK2, hg2⟩
    have HM2 := Lib.hid hM2
    have HT2 := Lib.hid hT2
    have hb4 : Below w1.heap.size w3 w4 := hK2.low (by omega) (fun b hb hx => by have := HLOW.out b hx; omega)
    have z4 := hb4.size
    obtain ⟨l2, hl2⟩ : ∃ q, q = ({ l with gc := gc2 } : Lay) := ⟨_, rfl⟩
    have HLOW2 : Hid (∀ b, l2.X mb b → w1.heap.size ≤ b) := fun b hb => by
      rw [hl2] at hb
      rcases hb with h | h | h | h | h | h
      · exact HLOW.out b (.inl h)
      · exact HLOW.out b (.inr (.inl h))
      · exact HLOW.out b (.inr (.inr (.inl h)))
      · have : b = gc2 := h; omega
      · exact HLOW.out b (.inr (.inr (.inr (.inr (.inl h)))))
      · exact HLOW.out b (.inr (.inr (.inr (.inr (.inr h)))))
    have hlp : l2.p = l.p := by rw [hl2]
    rw [← hl2] at hT2
    have HT2' := Lib.hid hT2
    rw [← hlp]
    clear hM2 hT2 HT2 hK2 hl2 HP HC3 HMID HZ HLOW hlp
    go_wp2_with fail
    refine (minimize_any _ l2 mb nc (t0 mb nc F Bv) (d2 nc kc) S2 (sgn Bv) (fun S => Zer mb nc S ∧ Non mb nc mb S) HT2'.out HM2.out.good HM2.out.feas ⟨HM2.out.zer, HM2.out.non⟩ (fun S j r h hi _ => ⟨h.1.bl h.2 hi.1, h.2.at hi.1⟩) v2 v5 (fun S h => ⟨(HSK2.out.szs hK1' hK2' S h).1, fun c hc => (HSK2.out.szs hK1' hK2' S h).2 mb (Nat.le_refl mb) c hc⟩)).mono ?_
    rintro e w5 ⟨S3, hG, hF, ⟨hZ, hNo⟩, hT, hK, hres⟩
    have HG := Lib.hid hG
    have HF := Lib.hid hF
    have HZ := Lib.hid hZ
    have HNo := Lib.hid hNo
    have HT := Lib.hid hT
    have hb5 : Below w1.heap.size w4 w5 := hK.low (by omega) (fun b hb hx => by have := HLOW2.out b hx; omega)
    have z5 := hb5.size
    have L5 : Loc w5 (w.heap.size + 1) _ _ := (L3.below' hb4 (by omega)).below' hb5 (by omega)
    have hw5 : Below w.heap.size w w5 := (hw13.trans (hb4.mono (by omega))).trans (hb5.mono (by omega))
    clear hG hF hZ hNo hT hK HT2' HM2
    rcases hres.out with ⟨rfl, hopt⟩ | ⟨j, rfl, hIn, hno⟩
    · have HO := Lib.hid hopt
      clear hres hopt
      have HOP : Hid (OP2 mb mb N F Bv kc nc (pt mb nc S3) mb (fun i => ((-(sgn Bv i) : Int) : Rat) * rho mb (d2 nc kc) S3.T S3.b (nc + i)) 0 (-rho mb (d2 nc kc) S3.T S3.b (nc + mb))) := op2_of HV.out HN0.out HG.out HF.out HZ.out HO.out
      obtain ⟨⟨⟨cs, cr, cb, hbox, hcs, hcr, hcb⟩, ⟨ss, hsn, hss⟩, -⟩, -, ⟨rs0, KC, hcl, hcv⟩, -, -⟩ := HT.out
      have HSS := Lib.hid hss
      have HCV := Lib.hid hcv
      obtain ⟨R, hR⟩ : ∃ R, nc + mb = R := ⟨_, rfl⟩
      obtain ⟨M, hM⟩ : ∃ M, nc + mb + 1 = M := ⟨_, rfl⟩
      rw [hM] at hbox hcl
      have HR := Lib.hid hR
      have HM := Lib.hid hM
      have r0 : (0 : Int) ≤ (R : Int) := by omega
      have r1 : (R : Int) < (M : Int) := by omega
      obtain ⟨⟨b5, A5, m5, c5, b5', A5', m5', c5'⟩, hq5⟩ : ∃ q, rs0[R]? = some q := ⟨_, List.getElem?_eq_getElem (by omega)⟩
      have j5 : RatL 100000 w5 _ _ _ := hcv R _ hq5
      obtain ⟨x0, x1, x2, x3⟩ := KC.cells hq5
      unfold R4.v at j5
      dsimp only at j5 x0 x1 x2 x3
      have hlb := hbox.lt
      have hlc := KC.lt
      have hls := hsn.lt
      have HL : Hid (∀ W, Below w5.heap.size w5 W → (W.cell? ⟨l2.p, 3, none⟩ = some (.slice (some ⟨l2.gc, 0, none⟩) M M) ∧ (W.cell? ⟨l2.gc, R * 4, none⟩ = some (.bool b5) ∧ W.cell? ⟨l2.gc, R * 4 + 1, none⟩ = some (.slice A5 m5 c5)) ∧ W.cell? ⟨l2.gc, R * 4 + 2, none⟩ = some (.bool b5') ∧ W.cell? ⟨l2.gc, R * 4 + 3, none⟩ = some (.slice A5' m5' c5'))) := fun W hW => by
        refine ⟨Loc.cell (Loc.below hbox hW) 3, ⟨?_, ?_⟩, ?_, ?_⟩
        · exact cell_keep (X := fun _ => False) x0 hlc id (.of_below hW)
        · exact cell_keep (X := fun _ => False) x1 hlc id (.of_below hW)
        · exact cell_keep (X := fun _ => False) x2 hlc id (.of_below hW)
        · exact cell_keep (X := fun _ => False) x3 hlc id (.of_below hW)
      have HRZ : Hid (Rsz K2 (-rho mb (d2 nc kc) S3.T S3.b R)) := ((HSK2.out.rho HG.out) R (by omega)).neg
      have HRS : Hid (∀ c, c ≤ nc + mb → Rsz K2 (rho mb (d2 nc kc) S3.T S3.b c)) := HSK2.out.rho HG.out
      clear hR hM x0 x1 x2 x3 hcv hss HF HZ HNo HO hq5 hw13 hb3 hb4 hb5 hb1
      go_upto_region 12 with fail
      go_cut [10] (fun v W => ∃ (g10 : Nat) (A6 : Option Addr) (c6 : Nat) (b8 : Bool) (A8 : Option Addr) (m8 c8 : Nat) (b8' : Bool) (A8' : Option Addr) (m8' c8' : Nat), v = .pointer (some ⟨g10, 0, none⟩) ∧ w5.heap.size ≤ g10 ∧ Loc W g10 51 #[.int .i64 2, .slice A6 nc c6, .slice none 0 0, .slice none 0 0, .bool b8, .slice A8 m8 c8, .bool b8', .slice A8' m8' c8'] ∧
        Nums K1 W (fun b => b = g10) (.slice A6 nc c6) nc (pt mb nc S3) ∧ Fr w5.heap.size (.slice A6 nc c6) ∧ RatL K2 W (fun b => b = g10) (.agg #[.bool b8, .slice A8 m8 c8, .bool b8', .slice A8' m8' c8']) (-rho mb (d2 nc kc) S3.T S3.b R) ∧ Below w5.heap.size w5 W)
      case first =>
        go_wp2_with fail
        go_region_held3 (fun W => (W.cell? ⟨l2.p, 3, none⟩ = some (.slice (some ⟨l2.gc, 0, none⟩) M M) ∧ (W.cell? ⟨l2.gc, R * 4, none⟩ = some (.bool b5) ∧ W.cell? ⟨l2.gc, R * 4 + 1, none⟩ = some (.slice A5 m5 c5)) ∧ W.cell? ⟨l2.gc, R * 4 + 2, none⟩ = some (.bool b5') ∧ W.cell? ⟨l2.gc, R * 4 + 3, none⟩ = some (.slice A5' m5' c5')))
          (exact HL.out _ bel)
          (first
            | (go_at_call 49; refine (point_any _ l2 mb nc K1 (t0 mb nc F Bv) S3 _ (sgn Bv) (HT.out.on kp) HG.out v2 v5 hK1 (fun r hr => (HSK2.out S3 HG.out).1 r hr (nc + mb) (Nat.le_refl _))).mono ?_; rintro e u1 ⟨v', rfl, hn6, hf6, hb6⟩; obtain ⟨A6, c6, rfl, hn6, -, -⟩ := hn6.op; have HN6 := Lib.hid hn6; have HF6 := Lib.hid hf6; clear hn6 hf6; have y6 := hb6.size; (try simp only [World.size_alloc, size_set, size_drew, size_drewN] at y6))
            | (go_at_call 60; refine (tright_any _ l2 mb nc (sgn Bv) (HT.out.on kp).fix v2 v5).mono ?_; rintro e u2 ⟨he, hb7⟩; rw [HR.out] at he; subst he; have y7 := hb7.size; (try simp only [World.size_alloc, size_set, size_drew, size_drewN] at y7))
            | (go_at_call 59; refine (neg_rat _ (fun _ => False) _ _ (RatL.to (j5.mono (by omega)))).mono ?_; rintro e u3 ⟨v8, rfl, i8, hb8⟩; obtain ⟨b8, A8, m8, c8, b8', A8', m8', c8', rfl, i8, -, -⟩ := i8.op; have y8 := hb8.size; (try simp only [World.size_alloc, size_set, size_drew, size_drewN] at y8); (first
              | (have h7 : Loc u3 w5.heap.size 51 #[.int .i64 0, .slice none 0 0, .slice none 0 0, .slice none 0 0, .bool false, .slice none 0 0, .bool false, .slice none 0 0] := (made1 w5 #[.int .i64 0, .slice none 0 0, .slice none 0 0, .slice none 0 0, .bool false, .slice none 0 0, .bool false, .slice none 0 0] 51).to (w' := u3); obtain ⟨e7, g7, l7⟩ := h7.all (w' := u3))
              | (have h7 : Loc u3 u1.heap.size 51 #[.int .i64 0, .slice none 0 0, .slice none 0 0, .slice none 0 0, .bool false, .slice none 0 0, .bool false, .slice none 0 0] := (made1 u1 #[.int .i64 0, .slice none 0 0, .slice none 0 0, .slice none 0 0, .bool false, .slice none 0 0, .bool false, .slice none 0 0] 51).to (w' := u3); obtain ⟨e7, g7, l7⟩ := h7.all (w' := u3))
              | (have h7 : Loc u3 u2.heap.size 51 #[.int .i64 0, .slice none 0 0, .slice none 0 0, .slice none 0 0, .bool false, .slice none 0 0, .bool false, .slice none 0 0] := (made1 u2 #[.int .i64 0, .slice none 0 0, .slice none 0 0, .slice none 0 0, .bool false, .slice none 0 0, .bool false, .slice none 0 0] 51).to (w' := u3); obtain ⟨e7, g7, l7⟩ := h7.all (w' := u3))
              | skip)))
        all_goals
          go_wp2_with fail
          go_meet
          first
            | (have q := Loc.fill8 (u0 := .int .i64 2) (u1 := .slice A6 nc c6) (u2 := .slice none 0 0) (u3 := .slice none 0 0) (u4 := .bool b8) (u5 := .slice A8 m8 c8) (u6 := .bool b8') (u7 := .slice A8' m8' c8') h7
               have hN3 : Nums K1 u3 (fun _ => False) (.slice A6 nc c6) nc (pt mb nc S3) := HN6.out.keep kp
               exact ⟨_, A6, c6, b8, A8, m8, c8, b8', A8', m8', c8', rfl, by omega, q, ((hN3.off2 h7 (ocs _ _ _ _ _ _ _ _ _ _ _ _ _ _ _ _ _ _) (by first | exact HF6.out.older (by (try simp only [World.size_alloc, size_drew, size_set]); omega) | exact Nums.newer HN6.out (by (try simp only [World.size_alloc, size_drew, size_set]); omega))).weak (fun b _ hb => .inr hb)).keep kp, HF6.out.mono (by (try simp only [World.size_alloc, size_drew, size_set]); omega), ((((i8.len HRZ.out).weak (Y := fun _ => False) (fun _ _ h => h.elim)).off h7 (ocs _ _ _ _ _ _ _ _ _ _ _ _ _ _ _ _ _ _)).weak (fun b _ hb => .inr hb)).keep kp, bel⟩)
            | (have q := made1 u3 #[.int .i64 2, .slice A6 nc c6, .slice none 0 0, .slice none 0 0, .bool b8, .slice A8 m8 c8, .bool b8', .slice A8' m8' c8'] 51
               have hN3 : Nums K1 (u3.alloc (.cells #[.int .i64 2, .slice A6 nc c6, .slice none 0 0, .slice none 0 0, .bool b8, .slice A8 m8 c8, .bool b8', .slice A8' m8' c8'] 51)) (fun _ => False) (.slice A6 nc c6) nc (pt mb nc S3) := HN6.out.keep kp
               have hV3 : RatL K2 (u3.alloc (.cells #[.int .i64 2, .slice A6 nc c6, .slice none 0 0, .slice none 0 0, .bool b8, .slice A8 m8 c8, .bool b8', .slice A8' m8' c8'] 51)) (fun _ => False) _ _ := ((i8.len HRZ.out).weak (Y := fun _ => False) (fun _ _ h => h.elim)).keep kp
               exact ⟨_, A6, c6, b8, A8, m8, c8, b8', A8', m8', c8', rfl, by omega, q, (hN3.off2 q (ocs _ _ _ _ _ _ _ _ _ _ _ _ _ _ _ _ _ _) (Nums.newer HN6.out (by (try simp only [World.size_alloc, size_drew, size_set]); omega))).weak (fun b _ hb => .inr hb), HF6.out.mono (by (try simp only [World.size_alloc, size_drew, size_set]); omega), (hV3.off q (ocs _ _ _ _ _ _ _ _ _ _ _ _ _ _ _ _ _ _)).weak (fun b _ hb => .inr hb), bel⟩)
      case rest =>
        obtain ⟨g10, A6, c6, b8, A8, m8, c8, b8', A8', m8', c8', rfl, hg10, LO, hn6, hf6, hv8, hB6⟩ := hcut
        obtain ⟨w6, rfl⟩ : ∃ w6 : World, w6 = wc := ⟨_, rfl⟩
        have y6 := hB6.size; (try simp only [World.size_alloc, size_set, size_drew, size_drewN] at y6)
        have HN6 := Lib.hid hn6
        have HF6 := Lib.hid hf6
        have HV8 := Lib.hid hv8
        have q6 := LO.lt
        have hbox6 : Loc w6 l2.p _ _ := hbox.below hB6
        have hsn6 : Loc w6 l2.gs _ _ := hsn.below hB6
        have KC6 : Line w6 l2.gc rs0 := Loc.below KC hB6
        have L6 : Loc w6 (w.heap.size + 1) _ _ := L5.below hB6
        have hmr : (mb : Int) ≤ (cs : Int) := by omega
        have hpg : l2.p ≠ g10 := by omega
        have hsg : l2.gs ≠ g10 := by omega
        have hcg : l2.gc ≠ g10 := by omega
        have h5g : w.heap.size + 1 ≠ g10 := by omega
        have hp6 := hbox6.lt
        have hc6 := KC6.lt
        have HCW : Hid (∀ i q, rs0[i]? = some q → ∀ W, Keep (fun b => b = g10) w6 W → RatL 100000 W (fun _ => False) q.v (rho mb (d2 nc kc) S3.T S3.b i)) := fun i q hq W hW =>
          ((((HCV.out i q hq).weak (Y := fun b => w5.heap.size ≤ b) (fun b hb h => absurd hb (by have : w5.heap.size ≤ b := h; omega))).keep (.of_below hB6)).keep (hW.weak (fun b _ hb => by have : b = g10 := hb; show w5.heap.size ≤ b; omega))).weak (fun _ _ h => h.elim)
        have hw6 : Below w.heap.size w w6 := hw5.trans (hB6.mono (by omega))
        clear hn6 hf6 hv8 hbox hsn KC L5 HCV HL HT HG HRZ
        obtain ⟨e6, f6, -⟩ := hbox6.all (w' := w6)
        go_wp2_with fail
        go_loopw [71] (fun i wr => ∃ (ci : Nat) (vY : Value) (rs : List R4), ci ≤ mb ∧ i = .int .i64 ci ∧ Loc wr g10 51 #[.int .i64 2, .slice A6 nc c6, vY, .slice none 0 0, .bool b8, .slice A8 m8 c8, .bool b8', .slice A8' m8' c8'] ∧ OwnR wr w6.heap.size vY rs ∧ rs.length = ci ∧ ValL (K2 + K2 + 10) wr (fun b => vY.ownBlock = some b ∨ b = g10) rs (fun i => ((-(sgn Bv i) : Int) : Rat) * rho mb (d2 nc kc) S3.T S3.b (nc + i)) ∧ Keep (fun b => b = g10) w6 wr) (fun i _ => mb - (intOf i).toNat)
        case atStart => exact ⟨0, _, [], by omega, rfl, LO, OwnR.nil _ _, rfl, fun i q hq => by simp at hq, Keep.refl _ _⟩
        case round =>
          clear e6 f6
          obtain ⟨ci, vY, rs, hci, rfl, LW, hown, hrl, hv, hK⟩ := hrel
          obtain ⟨wo, rfl⟩ : ∃ wo : World, wo = wr := ⟨_, rfl⟩
          have y9 := hK.size
          have q9 := LW.lt
          have hbo : Loc wo l2.p _ _ := Loc.keep hbox6 hK hpg
          have hso : Loc wo l2.gs _ _ := Loc.keep hsn6 hK hsg
          have KCo : Line wo l2.gc rs0 := Loc.keep KC6 hK hcg
          have L5o : Loc wo (w.heap.size + 1) _ _ := Loc.keep L6 hK h5g
          by_cases hlt : ci < mb
          · have hsc : wo.cell? ⟨l2.gs, ci, none⟩ = some (.int .i64 (sgn Bv ci)) := by rw [Loc.cell hso, HSS.out ci hlt]
            obtain ⟨sv, hsv⟩ : ∃ s, sgn Bv ci = s := ⟨_, rfl⟩
            have hs1 := sgn_or Bv ci
            rw [hsv] at hsc hs1
            have HSV := Lib.hid hsv
            have hsl : -1 ≤ sv ∧ sv ≤ 1 := by omega
            obtain ⟨hsl1, hsl2⟩ := hsl
            have hsw : IntKind.i64.wrap (-sv) = -sv := by rw [IntKind.wrap_i64]; omega
            obtain ⟨P, hP⟩ : ∃ P, nc + ci = P := ⟨_, rfl⟩
            have hcp : P < M := by have := HM.out; omega
            have HP := Lib.hid hP
            have hpw : (nc : Int) + (ci : Int) = (P : Int) := by omega
            have hpw2 : IntKind.i64.wrap (P : Int) = P := by rw [IntKind.wrap_i64]; omega
            obtain ⟨⟨b4, A4, m4, c4, b4', A4', m4', c4'⟩, hq4⟩ : ∃ q, rs0[P]? = some q := ⟨_, List.getElem?_eq_getElem (by omega)⟩
            have j4 : RatL 100000 wo (fun _ => False) _ _ := HCW.out P _ hq4 wo hK
            obtain ⟨x0, x1, x2, x3⟩ := KCo.cells hq4
            unfold R4.v at j4
            dsimp only at j4 x0 x1 x2 x3
            have hl1 := hbo.lt
            have hl2 := KCo.lt
            have k0 : (0 : Int) ≤ (P : Int) := by omega
            have k1 : (P : Int) < (M : Int) := by omega
            have k2 : (0 : Int) ≤ (ci : Int) := by omega
            have k3 : (ci : Int) < (mb : Int) := by omega
            have HRP : Hid (Rsz K2 (rho mb (d2 nc kc) S3.T S3.b P)) := HRS.out P (by have := HM.out; omega)
            have HPR : Hid (Rsz (K2 + K2 + 10) (((-sv : Int) : Rat) * rho mb (d2 nc kc) S3.T S3.b P)) := by
              show Rsz _ _
              exact ((rsz_int (z := -sv) (by omega) (by omega)).mul HRP.out).mono (by omega)
            have HOWN : Hid (∀ b, vY.ownBlock = some b → b < wo.heap.size ∧ w6.heap.size ≤ b) := fun b hb => hown.lt hb
            have HLS : Hid (∀ W, Keep (fun b => vY.ownBlock = some b) wo W → (W.cell? ⟨g10, 2, none⟩ = some vY) ∧ (W.cell? ⟨l2.p, 3, none⟩ = some (.slice (some ⟨l2.gc, 0, none⟩) M M) ∧ W.cell? ⟨l2.p, 0, none⟩ = some (.int .i64 nc)) ∧ (W.cell? ⟨l2.gc, P * 4, none⟩ = some (.bool b4) ∧ W.cell? ⟨l2.gc, P * 4 + 1, none⟩ = some (.slice A4 m4 c4)) ∧ W.cell? ⟨l2.gc, P * 4 + 2, none⟩ = some (.bool b4') ∧ W.cell? ⟨l2.gc, P * 4 + 3, none⟩ = some (.slice A4' m4' c4')) := fun W hW => by
              have hne : ∀ g, g < w6.heap.size → ¬ (vY.ownBlock = some g) := fun g hg e => by have := (HOWN.out g e).2; omega
              exact ⟨cell_keep (Loc.c 2 LW) q9 (hne _ q6) hW, ⟨cell_keep (Loc.c 3 hbo) hl1 (hne _ (by omega)) hW, cell_keep (Loc.c 0 hbo) hl1 (hne _ (by omega)) hW⟩, ⟨cell_keep x0 hl2 (hne _ (by omega)) hW, cell_keep x1 hl2 (hne _ (by omega)) hW⟩, cell_keep x2 hl2 (hne _ (by omega)) hW, cell_keep x3 hl2 (hne _ (by omega)) hW⟩
            clear x0 x1 x2 x3 hsv hP
            go_wp2_with fail
            refine wp_region_noPanic ?_
            refine wp_region_heldK (k := 21) (S := (fun W => (W.cell? ⟨g10, 2, none⟩ = some vY) ∧ (W.cell? ⟨l2.p, 3, none⟩ = some (.slice (some ⟨l2.gc, 0, none⟩) M M) ∧ W.cell? ⟨l2.p, 0, none⟩ = some (.int .i64 nc)) ∧ (W.cell? ⟨l2.gc, P * 4, none⟩ = some (.bool b4) ∧ W.cell? ⟨l2.gc, P * 4 + 1, none⟩ = some (.slice A4 m4 c4)) ∧ W.cell? ⟨l2.gc, P * 4 + 2, none⟩ = some (.bool b4') ∧ W.cell? ⟨l2.gc, P * 4 + 3, none⟩ = some (.slice A4' m4' c4'))) (by kernel_rfl) ?_ (fun hHeld => ?_)
            · exact HLS.out _ kp
            refine wpAnyK_pure (i := 0) (v := ?_) rfl (by kernel_rfl) (by kernel_rfl) (by kernel_rfl) (by kernel_rfl) (fun _ _ _ h => h) (Or.inl ⟨by kernel_rfl, ?_⟩) (fun _ => by assumption) ?_
            rotate_left 1
            · (intro w _; first | (go_simp; done) | (go_simp; with_reducible rfl))
            (try simp only [Act.put, List.getElem_toArray, List.getElem_cons_succ, List.getElem_cons_zero, List.setIfInBounds_toArray, List.set_cons_zero, List.set_cons_succ])
            refine wpAnyK_take (i := 1) (v := ?_) rfl (by kernel_rfl) (by kernel_rfl) (by kernel_rfl) (by kernel_rfl) (by kernel_rfl) (by kernel_rfl) (fun _ _ _ h => h) (Or.inl ⟨by kernel_rfl, ?_⟩) (by assumption) ?_
            rotate_left 1
            · (intro w hSw; (try dsimp only at hSw); first | (go_simp; done) | (go_simp; with_reducible rfl))
            (try simp only [Act.put, List.getElem_toArray, List.getElem_cons_succ, List.getElem_cons_zero, List.setIfInBounds_toArray, List.set_cons_zero, List.set_cons_succ])
            refine wpAnyK_pure (i := 2) (v := ?_) rfl (by kernel_rfl) (by kernel_rfl) (by kernel_rfl) (by kernel_rfl) (fun _ _ _ h => h) (Or.inl ⟨by kernel_rfl, ?_⟩) (fun _ => by assumption) ?_
            rotate_left 1
            · (intro w _; first | (go_simp; done) | (go_simp; with_reducible rfl))
            (try simp only [Act.put, List.getElem_toArray, List.getElem_cons_succ, List.getElem_cons_zero, List.setIfInBounds_toArray, List.set_cons_zero, List.set_cons_succ])
            refine wpAnyK_pure (i := 3) (v := ?_) rfl (by kernel_rfl) (by kernel_rfl) (by kernel_rfl) (by kernel_rfl) (fun _ _ _ h => h) (Or.inl ⟨by kernel_rfl, ?_⟩) (fun _ => by assumption) ?_
            rotate_left 1
            · (intro w _; first | (go_simp; done) | (go_simp; with_reducible rfl))
            (try simp only [Act.put, List.getElem_toArray, List.getElem_cons_succ, List.getElem_cons_zero, List.setIfInBounds_toArray, List.set_cons_zero, List.set_cons_succ])
            refine wpAnyK_pure (i := 5) (v := ?_) rfl (by kernel_rfl) (by kernel_rfl) (by kernel_rfl) (by kernel_rfl) (fun _ _ _ h => h) (Or.inl ⟨by kernel_rfl, ?_⟩) (fun _ => by assumption) ?_
            rotate_left 1
            · (intro w _; first | (go_simp; done) | (go_simp; with_reducible rfl))
            (try simp only [Act.put, List.getElem_toArray, List.getElem_cons_succ, List.getElem_cons_zero, List.setIfInBounds_toArray, List.set_cons_zero, List.set_cons_succ])
            refine wpAnyK_pure (i := 6) (v := ?_) rfl (by kernel_rfl) (by kernel_rfl) (by kernel_rfl) (by kernel_rfl) (fun _ _ _ h => h) (Or.inl ⟨by kernel_rfl, ?_⟩) (fun _ => by assumption) ?_
            rotate_left 1
            · (intro w _; first | (go_simp; done) | (go_simp; with_reducible rfl))
            (try simp only [Act.put, List.getElem_toArray, List.getElem_cons_succ, List.getElem_cons_zero, List.setIfInBounds_toArray, List.set_cons_zero, List.set_cons_succ])
            refine wpAnyK_pure (i := 7) (v := ?_) rfl (by kernel_rfl) (by kernel_rfl) (by kernel_rfl) (by kernel_rfl) (fun _ _ _ h => h) (Or.inl ⟨by kernel_rfl, ?_⟩) (fun _ => by assumption) ?_
            rotate_left 1
            · (intro w _; first | (go_simp; done) | (go_simp; with_reducible rfl))
            (try simp only [Act.put, List.getElem_toArray, List.getElem_cons_succ, List.getElem_cons_zero, List.setIfInBounds_toArray, List.set_cons_zero, List.set_cons_succ])
            refine wpAnyK_take (i := 8) (v := ?_) rfl (by kernel_rfl) (by kernel_rfl) (by kernel_rfl) (by kernel_rfl) (by kernel_rfl) (by kernel_rfl) (fun _ _ _ h => h) (Or.inl ⟨by kernel_rfl, ?_⟩) (by assumption) ?_
            rotate_left 1
            · (intro w hSw; (try dsimp only at hSw); first | (go_simp; done) | (go_simp; with_reducible rfl))
            (try simp only [Act.put, List.getElem_toArray, List.getElem_cons_succ, List.getElem_cons_zero, List.setIfInBounds_toArray, List.set_cons_zero, List.set_cons_succ])
            refine wpAnyK_pure (i := 9) (v := ?_) rfl (by kernel_rfl) (by kernel_rfl) (by kernel_rfl) (by kernel_rfl) (fun _ _ _ h => h) (Or.inl ⟨by kernel_rfl, ?_⟩) (fun _ => by assumption) ?_
            rotate_left 1
            · (intro w _; first | (go_simp; done) | (go_simp; with_reducible rfl))
            (try simp only [Act.put, List.getElem_toArray, List.getElem_cons_succ, List.getElem_cons_zero, List.setIfInBounds_toArray, List.set_cons_zero, List.set_cons_succ])
            refine wpAnyK_pure (i := 10) (v := ?_) rfl (by kernel_rfl) (by kernel_rfl) (by kernel_rfl) (by kernel_rfl) (fun _ _ _ h => h) (Or.inl ⟨by kernel_rfl, ?_⟩) (fun _ => by assumption) ?_
            rotate_left 1
            · (intro w _; first | (go_simp; done) | (go_simp; with_reducible rfl))
            (try simp only [Act.put, List.getElem_toArray, List.getElem_cons_succ, List.getElem_cons_zero, List.setIfInBounds_toArray, List.set_cons_zero, List.set_cons_succ])
            refine wpAnyK_pure (i := 11) (v := ?_) rfl (by kernel_rfl) (by kernel_rfl) (by kernel_rfl) (by kernel_rfl) (fun _ _ _ h => h) (Or.inl ⟨by kernel_rfl, ?_⟩) (fun _ => by assumption) ?_
            rotate_left 1
            · (intro w _; first | (go_simp; done) | (go_simp; with_reducible rfl))
            (try simp only [Act.put, List.getElem_toArray, List.getElem_cons_succ, List.getElem_cons_zero, List.setIfInBounds_toArray, List.set_cons_zero, List.set_cons_succ])
            refine wpAnyK_take (i := 12) (v := ?_) rfl (by kernel_rfl) (by kernel_rfl) (by kernel_rfl) (by kernel_rfl) (by kernel_rfl) (by kernel_rfl) (fun _ _ _ h => h) (Or.inl ⟨by kernel_rfl, ?_⟩) (by assumption) ?_
            rotate_left 1
            · (intro w hSw; (try dsimp only at hSw); first | (go_simp; done) | (go_simp; with_reducible rfl))
            (try simp only [Act.put, List.getElem_toArray, List.getElem_cons_succ, List.getElem_cons_zero, List.setIfInBounds_toArray, List.set_cons_zero, List.set_cons_succ])
            refine wpAnyK_pure (i := 13) (v := ?_) rfl (by kernel_rfl) (by kernel_rfl) (by kernel_rfl) (by kernel_rfl) (fun _ _ _ h => h) (Or.inl ⟨by kernel_rfl, ?_⟩) (fun _ => by assumption) ?_
            rotate_left 1
            · (intro w _; first | (go_simp; done) | (go_simp; with_reducible rfl))
            (try simp only [Act.put, List.getElem_toArray, List.getElem_cons_succ, List.getElem_cons_zero, List.setIfInBounds_toArray, List.set_cons_zero, List.set_cons_succ])
            refine wpAnyK_pure (i := 14) (v := ?_) rfl (by kernel_rfl) (by kernel_rfl) (by kernel_rfl) (by kernel_rfl) (fun _ _ _ h => h) (Or.inl ⟨by kernel_rfl, ?_⟩) (fun _ => by assumption) ?_
            rotate_left 1
            · (intro w _; first | (go_simp; done) | (go_simp; with_reducible rfl))
            (try simp only [Act.put, List.getElem_toArray, List.getElem_cons_succ, List.getElem_cons_zero, List.setIfInBounds_toArray, List.set_cons_zero, List.set_cons_succ])
            refine wpAnyK_pure (i := 15) (v := ?_) rfl (by kernel_rfl) (by kernel_rfl) (by kernel_rfl) (by kernel_rfl) (fun _ _ _ h => h) (Or.inl ⟨by kernel_rfl, ?_⟩) (fun _ => by assumption) ?_
            rotate_left 1
            · (intro w _; first | (go_simp; done) | (go_simp; with_reducible rfl))
            (try simp only [Act.put, List.getElem_toArray, List.getElem_cons_succ, List.getElem_cons_zero, List.setIfInBounds_toArray, List.set_cons_zero, List.set_cons_succ])
            refine wpAnyK_take (i := 16) (v := ?_) rfl (by kernel_rfl) (by kernel_rfl) (by kernel_rfl) (by kernel_rfl) (by kernel_rfl) (by kernel_rfl) (fun _ _ _ h => h) (Or.inl ⟨by kernel_rfl, ?_⟩) (by assumption) ?_
            rotate_left 1
            · (intro w hSw; (try dsimp only at hSw); first | (go_simp; done) | (go_simp; with_reducible rfl))
            (try simp only [Act.put, List.getElem_toArray, List.getElem_cons_succ, List.getElem_cons_zero, List.setIfInBounds_toArray, List.set_cons_zero, List.set_cons_succ])
            refine wpAnyK_ready (rs := [4]) (by kernel_rfl) (by simp) ?_
            refine AllReadyK.cons rfl (fun KK hKK => ?_) AllReadyK.nil
            go_simp
            refine (whole_lin _ (-sv) (by omega) (by omega)).mono ?_
            rintro e u8 ⟨v8, rfl, i8, hb8⟩
            obtain ⟨b7, A7, m7, c7, b7', A7', m7', c7', rfl, i8, -, -⟩ := i8.op
            have y10 := hb8.size; (try simp only [World.size_alloc, size_set, size_drew, size_drewN] at y10)
            (try go_wp2_with fail)
            refine hKK.out _ _ ?_ (fun hHeld => ?_)
            · (try dsimp only)
              exact HLS.out _ kp
            clear hKK KK
            (try simp only [Act.put, List.getElem_toArray, List.getElem_cons_succ, List.getElem_cons_zero, List.setIfInBounds_toArray, List.set_cons_zero, List.set_cons_succ])
            refine wpAnyK_ready (rs := [17]) (by kernel_rfl) (by simp) ?_
            refine AllReadyK.cons rfl (fun KK hKK => ?_) AllReadyK.nil
            go_simp
            refine (mul_rat _ (fun _ => False) _ _ ((-sv : Int) : Rat) (rho mb (d2 nc kc) S3.T S3.b P) (RatL.to (i8.len ((rsz_int (by omega) (by omega)).mono (show 2 ≤ 10000000 by omega)))) (RatL.to (j4.mono (by omega)))).mono ?_
            rintro e u9 ⟨v9, rfl, i9, hb9⟩
            obtain ⟨b9, A9, m9, c9, b9', A9', m9', c9', rfl, i9, -, -⟩ := i9.op
            have y11 := hb9.size; (try simp only [World.size_alloc, size_set, size_drew, size_drewN] at y11)
            (try go_wp2_with fail)
            refine hKK.out _ _ ?_ (fun hHeld => ?_)
            · (try dsimp only)
              exact HLS.out _ kp
            clear hKK KK
            (try simp only [Act.put, List.getElem_toArray, List.getElem_cons_succ, List.getElem_cons_zero, List.setIfInBounds_toArray, List.set_cons_zero, List.set_cons_succ])
            refine wpAnyK_ready (rs := [18]) (by kernel_rfl) (by simp) ?_
            refine AllReadyK.cons rfl (fun KK hKK => ?_) AllReadyK.nil
            go_simp
            (try go_wp2_with fail)
            refine hKK.out _ _ ?_ (fun hHeld => ?_)
            · (try dsimp only)
              exact HLS.out _ kp
            clear hKK KK
            (try simp only [Act.put, List.getElem_toArray, List.getElem_cons_succ, List.getElem_cons_zero, List.setIfInBounds_toArray, List.set_cons_zero, List.set_cons_succ])
            have hownA : OwnR (u9.alloc (.cells #[.bool b9, .slice A9 m9 c9, .bool b9', .slice A9' m9' c9'] 44)) w6.heap.size vY rs := hown.below (bel : Below wo.heap.size wo _)
            refine wpAnyK_ready (rs := [19]) (by kernel_rfl) (by simp) ?_
            refine AllReadyK.cons rfl (fun KK hKK => ?_) AllReadyK.nil
            refine step_pushR _ rfl _ _ rfl w6.heap.size vY rs rfl hownA _ ⟨b9, A9, m9, c9, b9', A9', m9', c9'⟩ rfl (heap_alloc_new u9 _) (by omega) (by simp only [World.size_alloc]; omega) ?_
            intro g cap w9 hown9 hg9 ho9 hl9
            have hK9 : Keep (fun b => vY.ownBlock = some b) wo w9 := (kp : Keep (fun b => vY.ownBlock = some b) wo (u9.alloc (.cells #[.bool b9, .slice A9 m9 c9, .bool b9', .slice A9' m9' c9'] 44))).grown hg9 (fun q hq => .inl hq)
            refine hKK.out _ _ (HLS.out _ hK9) (fun hHeld => ?_)
            clear hKK KK
            (try simp only [Act.put, List.getElem_toArray, List.getElem_cons_succ, List.getElem_cons_zero, List.setIfInBounds_toArray, List.set_cons_zero, List.set_cons_succ])
            refine wpAnyK_pure (i := 20) (v := ?_) rfl (by kernel_rfl) (by kernel_rfl) (by kernel_rfl) (by kernel_rfl) (fun _ _ _ h => h) (Or.inl ⟨by kernel_rfl, ?_⟩) (fun _ => by assumption) ?_
            rotate_left 1
            · (intro w _; first | (go_simp; done) | (go_simp; with_reducible rfl))
            (try simp only [Act.put, List.getElem_toArray, List.getElem_cons_succ, List.getElem_cons_zero, List.setIfInBounds_toArray, List.set_cons_zero, List.set_cons_succ])
            have LW9 : Loc w9 g10 _ _ := Loc.keep LW hK9 (fun e => by have := (HOWN.out _ e).2; omega)
            obtain ⟨e9, f9, l9'⟩ := LW9.all (w' := w9)
            refine wpAnyK_ready (rs := [21]) (by kernel_rfl) (by simp) ?_
            refine AllReadyK.last (by kernel_rfl) rfl (fun KK hKK => ?_) AllReadyK.nil
            go_simp
            refine hKK.out _ _ ?_
            clear hKK KK
            (try simp only [Act.put, List.getElem_toArray, List.getElem_cons_succ, List.getElem_cons_zero, List.setIfInBounds_toArray, List.set_cons_zero, List.set_cons_succ])
            refine wpAnyK_done (by kernel_rfl) ?_ _
            refine NoPanic.normal ?_
            have hvv : ValL (K2 + K2 + 10) (u9.alloc (.cells #[.bool b9, .slice A9 m9 c9, .bool b9', .slice A9' m9' c9'] 44)) (fun b => vY.ownBlock = some b ∨ b = g10) rs (fun i => ((-(sgn Bv i) : Int) : Rat) * rho mb (d2 nc kc) S3.T S3.b (nc + i)) := hv.keep (Keep.of_below (bel : Below wo.heap.size wo _))
            have hrr9 : RatL (K2 + K2 + 10) (u9.alloc (.cells #[.bool b9, .slice A9 m9 c9, .bool b9', .slice A9' m9' c9'] 44)) (fun b => vY.ownBlock = some b ∨ b = g10) (R4.v ⟨b9, A9, m9, c9, b9', A9', m9', c9'⟩) (((-(sgn Bv rs.length) : Int) : Rat) * rho mb (d2 nc kc) S3.T S3.b (nc + rs.length)) := by
              rw [hrl, HSV.out, HP.out]
              refine RatL.keep (RatL.weak (i9.len HPR.out) (fun b _ hb => ?_)) kp
              show b < u8.heap.size
              rcases hb with hb | hb
              · have := (HOWN.out b hb).1; omega
              · omega
            have hg3 := ValL.grow2 hvv hrr9 hg9 ho9
            have hgo : w6.heap.size ≤ g := (hown9.lt (g := g) rfl).2
            rw [hrl] at hown9
            have hKn : Keep (fun b => b = g10) w6 w9 := (hK.trans (kp : Keep (fun b => b = g10) wo (u9.alloc (.cells #[.bool b9, .slice A9 m9 c9, .bool b9', .slice A9' m9' c9'] 44)))).grown hg9 (fun q hq => .inr (HOWN.out q hq).2)
            clear hvv hrr9 hb8 hb9 hownA e9 f9
            go_wp2_with fail
            go_roundw
            case rel =>
              refine ⟨ci + 1, .slice (some ⟨g, 0, none⟩) (ci + 1) cap, rs ++ [⟨b9, A9, m9, c9, b9', A9', m9', c9'⟩], by omega, by go_num, ?_, hown9.keep (Keep.set (Keep.refl (fun b => b = g10) w9) (p := ⟨g10, 2, none⟩) (.inl rfl) _) (fun q hq e => ?_), by simp [hrl], (hg3.keep (Keep.set (Keep.refl _ w9) (p := ⟨g10, 2, none⟩) (.inl (.inr rfl)) _)).weak (fun b _ hb => ?_), hKn.set (p := ⟨g10, 2, none⟩) (.inl rfl) _⟩
              · have := Loc.set LW9 2 (.slice (some ⟨g, 0, none⟩) (ci + 1) cap)
                simpa using this
              · have h1 : g = q := by injection hq
                have : q = g10 := e
                omega
              · rcases hb with hb | hb
                · have h1 : g = b := by injection hb
                  exact .inl h1.symm
                · exact .inr hb
            case measure => simp only [intOf]; omega
          · obtain rfl : mb = ci := by omega
            have HNY : Hid (Nums (K2 + K2 + 10) wo (fun _ => False) vY rs.length (fun i => ((-(sgn Bv i) : Int) : Rat) * rho mb (d2 nc kc) S3.T S3.b (nc + i))) := hown.nums hv (fun _ _ h => h.elim) (fun _ _ h => h)
            have HFY : Hid (Fr w6.heap.size vY) := fun a' n' c' e => (hown.lt (g := a'.block) (congrArg Value.ownBlock e)).2
            obtain ⟨E, cE, rfl, -, -, -⟩ := HNY.out.op
            rw [hrl] at HNY HFY LW
            have hlO := LW.lt
            obtain ⟨e6, f6, l6⟩ := LW.all (w' := wo)
            obtain ⟨e5, f5, l5⟩ := L5o.all (w' := wo)
            have LF := Loc.fill8 (u0 := .int .i64 2) (u1 := .slice A6 nc c6) (u2 := .slice E mb cE) (u3 := .slice none 0 0) (u4 := .bool b8) (u5 := .slice A8 m8 c8) (u6 := .bool b8') (u7 := .slice A8' m8' c8') L5o
            obtain ⟨e8, g8, -⟩ := LF.all
            have HNX : Hid (Nums K1 wo (fun _ => False) (.slice A6 nc c6) nc (pt mb nc S3)) := (HN6.out.keep hK).weak (fun _ _ h => h.elim)
            have HVX : Hid (RatL K2 wo (fun _ => False) _ _) := (HV8.out.keep hK).weak (fun _ _ h => h.elim)
            clear hv hown
            go_wp2_with fail
            refine bodyPost_ret (v := .tuple #[.agg #[.int .i64 2, .slice A6 nc c6, .slice E mb cE, .slice none 0 0, .bool b8, .slice A8 m8 c8, .bool b8', .slice A8' m8' c8'], .int .i64 0]) (by simp [results, Tryz.results26, go_sem, e8, g8] <;> rfl) rfl ⟨_, 0, 2, nc, mb, 0, _, _, fun _ => 0, _, rfl, ⟨_, _, _, _, _, _, _, _, _, _, _, _, _, _, rfl, ?_, ?_, Nums.nil _ _ _ _, ?_⟩, ⟨fun h => absurd HV.out h, fun _ h => absurd HNC.out h, fun _ _ => ⟨rfl, HV.out, HNC.out, .inr (.inr ⟨rfl, HOP.out⟩)⟩⟩, ?_⟩
            · exact (Nums.past HNX.out L5o (ocs _ _ _ _ _ _ _ _ _ _ _ _ _ _ _ _ _ _) HF6.out (by omega) kp).mono hKa
            · exact (Nums.past HNY.out L5o (ocs _ _ _ _ _ _ _ _ _ _ _ _ _ _ _ _ _ _) HFY.out (by omega) kp).mono hKb
            · rw [HR.out]
              exact (RatL.past HVX.out L5o (ocs _ _ _ _ _ _ _ _ _ _ _ _ _ _ _ _ _ _) kp).mono (by omega)
            · refine hw6.trans (Keep.low (X := fun b => b = g10 ∨ b = w.heap.size + 1) ?_ (by omega) (fun b hb hx => by rcases hx with hx | hx <;> omega))
              refine Keep.trans (w' := wo) (hK.weak (fun b _ hb => Or.inl hb)) ?_
              refine Keep.weak (X := fun b => b = w.heap.size + 1) ?_ (fun b _ hb => Or.inr hb)
              exact kp
    · have HIn := Lib.hid hIn
      have HNO := Lib.hid hno
      have HJ : Hid (∀ i, i < mb → S3.b i ≠ j) := fun i hi e => by
        have h1 := rho_basic (d := d2 nc kc) HG.out hi
        have h2 := HIn.out.2.1
        rw [← e, h1] at h2
        exact absurd h2 (by decide)
      have hjn : j < nc := hIn.1
      obtain ⟨e3, f3, l3⟩ := L5.all (w' := w5)
      clear hres hIn hno
      go_wp2_with fail
      refine (point_any _ l2 mb nc K1 (t0 mb nc F Bv) S3 _ (sgn Bv) (HT.out.on kp) HG.out v2 v5 hK1 (fun r hr => (HSK2.out S3 HG.out).1 r hr (nc + mb) (Nat.le_refl _))).mono ?_
      rintro e w6 ⟨v', rfl, hn6, hf6, hb6⟩
      have z6 := hb6.size
      obtain ⟨A6, c6, rfl, hn6, -, -⟩ := hn6.op
      have HN6 := Lib.hid hn6
      have HF6 := Lib.hid hf6
      clear hn6 hf6 e3 f3
      go_wp2_with fail
      refine (ray_any _ l2 mb nc K1 j (t0 mb nc F Bv) S3 _ (sgn Bv) (HT.out.on kp) HG.out v2 v5 hK1 (by omega) (fun r hr => (HSK2.out S3 HG.out).1 r hr j (by omega)) hjn HJ.out).mono ?_
      rintro e w7 ⟨v', rfl, hn7, hf7, hb7⟩
      have z7 := hb7.size
      obtain ⟨A7, c7, rfl, hn7, -, -⟩ := hn7.op
      have HN7 := Lib.hid hn7
      have HF7 := Lib.hid hf7
      clear hn7 hf7
      go_wp2_with fail
      refine (zero_lin _).mono ?_
      rintro e w8 ⟨v8', rfl, i8, hb8⟩
      obtain ⟨b8, A8, m8, c8, b8', A8', m8', c8', rfl, i8, -, -⟩ := i8.op
      have z8 := hb8.size
      have HOP : Hid (OP1 mb mb N F Bv kc nc (pt mb nc S3) 0 nc (ry mb S3 j) 0) := op1_of HV.out HN0.out HG.out HF.out HZ.out HNo.out HIn.out HNO.out
      have LF := Loc.fill8 (u0 := .int .i64 1) (u1 := .slice A6 nc c6) (u2 := .slice none 0 0) (u3 := .slice A7 nc c7) (u4 := .bool b8) (u5 := .slice A8 m8 c8) (u6 := .bool b8') (u7 := .slice A8' m8' c8') (L5.to (w' := w8))
      obtain ⟨e3, f3, l3⟩ := L5.all (w' := w8)
      obtain ⟨e8, g8, -⟩ := LF.all
      go_wp2_with fail
      refine bodyPost_ret (v := .tuple #[.agg #[.int .i64 1, .slice A6 nc c6, .slice none 0 0, .slice A7 nc c7, .bool b8, .slice A8 m8 c8, .bool b8', .slice A8' m8' c8'], .int .i64 0]) (by simp [results, Tryz.results26, go_sem, e8, g8] <;> rfl) rfl ⟨_, 0, 1, nc, 0, nc, _, fun _ => 0, _, 0, rfl, ⟨_, _, _, _, _, _, _, _, _, _, _, _, _, _, rfl, ?_, Nums.nil _ _ _ _, ?_, ?_⟩, ⟨fun h => absurd HV.out h, fun _ h => absurd HNC.out h, fun _ _ => ⟨rfl, HV.out, HNC.out, .inr (.inl ⟨rfl, HOP.out.1, HOP.out.2.1, HOP.out.2.2.1, HOP.out.2.2.2.1, HOP.out.2.2.2.2⟩)⟩⟩, hw5.trans ((bel : Below (w.heap.size + 1) w5 _).mono (by omega))⟩
      · exact (Nums.past (HN6.out.keep kp) (L5.to (w' := w8)) (ocs _ _ _ _ _ _ _ _ _ _ _ _ _ _ _ _ _ _) HF6.out (by omega) kp).mono hKa
      · exact (Nums.past (HN7.out.keep kp) (L5.to (w' := w8)) (ocs _ _ _ _ _ _ _ _ _ _ _ _ _ _ _ _ _ _) HF7.out (by omega) kp).mono hKa
      · exact RatL.past (RatL.to (i8.len (rsz_zero K (by omega)))) (L5.to (w' := w8)) (ocs _ _ _ _ _ _ _ _ _ _ _ _ _ _ _ _ _ _) kp
end Go.Proofs.YtpeglenapmkdfaaGreat

