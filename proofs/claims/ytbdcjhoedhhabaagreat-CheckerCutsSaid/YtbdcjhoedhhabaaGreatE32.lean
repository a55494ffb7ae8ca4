/- Contracts of the functions that the statements reach, part 32. -/
import Derived.Test.YtbdcjhoedhhabaaGreatRows
import Derived.Test.YtbdcjhoedhhabaaGreatE30
import Derived.Test.YtbdcjhoedhhabaaGreatE31
set_option linter.unusedSimpArgs false
set_option linter.unusedVariables false

/- mincut.carried: a flow along a path. Printed by gen_cu11.py. -/
namespace Go.Proofs.YtbdcjhoedhhabaaGreat
open Go.RowKit
attribute [local go_sem ↓] Go.wp_at_zero Go.wp_at_succ

theorem nodes_next {n : Int} {p : List Int} {c : Nat} (h : NodesOk n (p.take c)) {v : Int} (hv : p[c]? = some v) (h1 : 0 ≤ v ∧ v < n) : NodesOk n (p.take (c + 1)) := fun x hx => by
 rcases (mem_take_succ hv x).2 hx with h2 | h2
 ·exact h x h2
 ·rw [h2]; exact h1
theorem ldT_step {ws p ld l : List Int} {a : Int} {c : Nat} (h : ldT ws a p ld c = some l) {v : Int} (hv : p[c]? = some v) : ldT ws a p ld (c + 1) = ldS ws a v l := by
 show (ldT ws a p ld c).bind _ = _
 rw [h, hv]
 rfl
theorem ldT_bad {ws p ld : List Int} {a : Int} {c : Nat} (h : ldT ws a p ld c = none) (hc : c ≤ p.length) : ldT ws a p ld p.length = none := by
 have := ldT_none h (p.length - c)
 rwa [show c + (p.length - c) = p.length by omega] at this

set_option maxRecDepth 100000 in
set_option maxHeartbeats 32000000 in
theorem carried_any (w0 w : World) (n : Nat) (vN vW vP : Value) (gF gL gD : Nat) (a : Int) (L : List (List Int)) (es : List (Int × Int)) (ws s t p ld : List Int) (hB0 : Below w0.heap.size w0 w) (hgD : w0.heap.size ≤ gD) (hN : IMat w0 vN L) (hl : L.length = n) (hW : IntsV w0 vW ws) (hwo : WsOk n ws) (hP : IntsV w0 vP p)
 (hF : RowB w0 gF (rowP n (· ∈ s))) (hL : RowB w0 gL (rowP n (· ∈ t))) (hD : RowI w gD ld) (hld : LdOk n ws ld) (hn : n ≤ 4096) (hpl : p.length ≤ 1000) (hab : -9223372036854775808 ≤ a ∧ a ≤ 9223372036854775807) (hs : NodesOk n s) (hg : GraphOk n es)
 (hA : ∀ (i : Nat) (l : List Int), L[i]? = some l → ∀ x, x ∈ l ↔ ((i : Int), x) ∈ es) :
 Calls Tryz.prog 161 #[vN, vW, .slice (some ⟨gF, 0, none⟩) n n, .slice (some ⟨gL, 0, none⟩) n n, .slice (some ⟨gD, 0, none⟩) n n, .agg #[vP, .int .i64 a]] w fun e w' => Tells (∃ ld', FlowOk es ws s t (p, a) ld ld') e ∧ Hid (∀ ld', FlowOk es ws s t (p, a) ld ld' → RowI w' gD ld') ∧ Keep (fun b => b = gD) w w' ∧ Below w0.heap.size w0 w' := by
 have HN0 := Lib.hid hN
 have HW0 := Lib.hid hW
 have HP0 := Lib.hid hP
 have HF := Lib.hid hF
 have HL := Lib.hid hL
 have HD := Lib.hid hD
 have HLD := Lib.hid hld
 have HWO := Lib.hid hwo
 have HS := Lib.hid hs
 have HG := Lib.hid hg
 have HA := Lib.hid hA
 have HLN := Lib.hid hl
 have HWL := Lib.hid hwo.1
 have HB0 := Lib.hid hB0
 have hgDw : gD < w.heap.size := hD.lt
 have hw0 : w0.heap.size ≤ w.heap.size := hB0.size
 obtain ⟨AN, cN, rfl, -, n1, n2⟩ := hN.op
 obtain ⟨AW, cW, rfl, -, w1, w2⟩ := hW.op
 obtain ⟨AP, cP, rfl, -, p1, p2⟩ := hP.op
 have HN : Hid (IMat w0 (.slice AN n cN) L) := by have h9 := HN0.out; rw [hl] at h9; exact h9
 have HW : Hid (IntsV w0 (.slice AW n cW) ws) := by have h9 := HW0.out; rw [hwo.1] at h9; exact h9
 obtain ⟨m, hm⟩ : ∃ m, p.length = m := ⟨_, rfl⟩
 have HM := Lib.hid hm
 have HP : Hid (IntsV w0 (.slice AP m cP) p) := by have h9 := HP0.out; rw [hm] at h9; exact h9
 rw [hl] at n1 ⊢
 rw [hwo.1] at w1 ⊢
 rw [hm] at p1 hpl ⊢
 obtain ⟨R, hR⟩ : ∃ R, (∃ ld', FlowOk es ws s t (p, a) ld ld') = R := ⟨_, rfl⟩
 have HR : Hid (R ↔ ∃ ld', FlowOk es ws s t (p, a) ld ld') := by show _ ↔ _; rw [← hR]
 rw [hR]
 have HNO : Hid (∀ (W : World), ¬ R → ∀ ld', FlowOk es ws s t (p, a) ld ld' → RowI W gD ld') := fun W h ld' h' => absurd (HR.out.2 ⟨ld', h'⟩) h
 have LB := made1 w #[.slice AP m cP, .int .i64 a] 115
 have HK0 : Hid (Keep (fun b => b = gD) w (w.alloc (.cells #[.slice AP m cP, .int .i64 a] 115))) := (Keep.refl _ w).alloc _
 have HBB : Hid (Below w0.heap.size w0 (w.alloc (.cells #[.slice AP m cP, .int .i64 a] 115))) := HB0.out.alloc hw0 _
 clear hN hW hP hF hL hD hld hwo hs hg hA hl hm hR HN0 HW0 HP0 hB0
 by_cases ha : a < 1
 ·have HX : Hid (¬ R) := fun h => by
   obtain ⟨ld', h1, -⟩ := HR.out.1 h
   simp only at h1
   omega
  have d1 : decide (a < 1) = true := decide_eq_true ha
  clear ha
  go_enter Tryz.func161, Tryz.ntmps161
  go_wp2_with fail
  go_ret
  exact ⟨Tells.no HX.out, Lib.hid (HNO.out _ HX.out), HK0.out, HBB.out⟩
 have d1 : decide (a < 1) = false := decide_eq_false ha
 have ha1 : 1 ≤ a := by omega
 by_cases hm0 : m = 0
 ·have HX : Hid (¬ R) := fun h => by
   obtain ⟨ld', -, h1, -⟩ := HR.out.1 h
   have h2 := h1.pos
   simp only [HM.out] at h2
   omega
  subst hm0
  have d2 : ((0 : Int) == 0) = true := rfl
  clear ha
  go_enter Tryz.func161, Tryz.ntmps161
  go_wp2_with fail
  go_ret
  exact ⟨Tells.no HX.out, Lib.hid (HNO.out _ HX.out), HK0.out, HBB.out⟩
 have d2 : ((m : Int) == 0) = false := beq_eq_false_iff_ne.2 (by omega)
 have hm1 : 1 ≤ m := by omega
 have hmk := run_makeMap (P := Tryz.prog) 362 (w.alloc (.cells #[.slice AP m cP, .int .i64 a] 115))
 have HMB : Hid (MapB ((w.alloc (.cells #[.slice AP m cP, .int .i64 a] 115)).alloc (.map #[] 0)) 3 (w.heap.size + 1) 0 (fun kl => ∃ v ∈ p.take 0, kl = .int .i64 v)) := by
  have h9 := MapB.made (w.alloc (.cells #[.slice AP m cP, .int .i64 a] 115)) 3
  simp only [World.size_alloc] at h9
  exact h9.cong (fun kl => by simp)
 have HLB : Hid (Loc ((w.alloc (.cells #[.slice AP m cP, .int .i64 a] 115)).alloc (.map #[] 0)) w.heap.size 115 #[.slice AP m cP, .int .i64 a]) := LB.alloc _
 have HRD : Hid (RowI ((w.alloc (.cells #[.slice AP m cP, .int .i64 a] 115)).alloc (.map #[] 0)) gD ld) := Loc.alloc (Loc.alloc HD.out _) _
 have HK1 : Hid (Keep (fun b => b = gD) w ((w.alloc (.cells #[.slice AP m cP, .int .i64 a] 115)).alloc (.map #[] 0))) := HK0.out.alloc _
 have HB1 : Hid (Below w0.heap.size w0 ((w.alloc (.cells #[.slice AP m cP, .int .i64 a] 115)).alloc (.map #[] 0))) := HBB.out.alloc (by simp only [World.size_alloc]; omega) _
 clear LB ha hm0 HBB HK0
 go_enter Tryz.func161, Tryz.ntmps161
 go_wp2_with fail
 clear hmk d1 d2
 go_loopw [29] (fun i wr => ∃ (c : Nat) (lc : List Int), c ≤ m ∧ i = .int .i64 c ∧ Hid (ldT ws a p ld c = some lc) ∧ Hid (LdOk n ws lc) ∧ Hid (PathTo es p c) ∧ Hid (NodesOk n (p.take c)) ∧ Hid (MapB wr 3 (w.heap.size + 1) c (fun kl => ∃ v ∈ p.take c, kl = .int .i64 v)) ∧ Hid (Loc wr w.heap.size 115 #[.slice AP m cP, .int .i64 a]) ∧ Hid (RowI wr gD lc) ∧ Hid (Keep (fun b => b = gD) w wr) ∧ w.heap.size + 2 ≤ wr.heap.size ∧ Below w0.heap.size w0 wr) (fun i _ => m - (intOf i).toNat)
 case atStart => exact ⟨0, ld, by omega, rfl, Lib.hid rfl, HLD, PathTo.zero _ _, Lib.hid (fun v hv => by simp at hv), HMB, HLB, HRD, HK1, by simp only [World.size_alloc]; omega, HB1.out⟩
 case round =>
  clear HMB HLB HRD HK1 HB1
  obtain ⟨c, lc, hc, rfl, hLT, hLO, hPT, hNO, hMB, hLB, hRD, hK, hsz, hB⟩ := hrel
  obtain ⟨wo, rfl⟩ : ∃ wo : World, wo = wr := ⟨_, rfl⟩
  have y5 := hB.size; (try simp only [zs] at y5)
  obtain ⟨⟨e1, e2⟩, g1, l1⟩ := Loc.two hLB.out
  by_cases hlt : c < m
  ·obtain ⟨v, hv⟩ : ∃ z, p[c]? = some z := ⟨_, List.getElem?_eq_getElem (by rw [HM.out]; exact hlt)⟩
   obtain ⟨aP, rfl, habp, hcell, zb1, zb2⟩ := (HP.out.keep (.of_below hB)).at hv
   have HV := Lib.hid hv
   have HBP : Hid (aP.block < w0.heap.size) := by
    obtain ⟨a', ea, h9, -⟩ := HP.out.at hv
    injection ea with ea
    subst ea
    exact h9
   have HRNG : Hid (¬ (0 ≤ v ∧ v < (n : Int)) → ¬ R) := fun h hr => by
    obtain ⟨ld', -, h1, -⟩ := HR.out.1 hr
    exact h (h1.rng HS.out HG.out v (List.mem_of_getElem? HV.out))
   have k0 : (0 : Int) ≤ (c : Int) := by omega
   have k1 : (c : Int) < (m : Int) := by omega
   clear hv
   by_cases z0 : v < 0
   ·have HX := Lib.hid (HRNG.out (fun h => by omega))
    have d0 : decide (v < 0) = true := decide_eq_true z0
    clear z0
    go_wp2_with fail
    go_ret
    exact ⟨Tells.no HX.out, Lib.hid (HNO.out _ HX.out), hK.out, hB⟩
   have d0 : decide (v < 0) = false := decide_eq_false z0
   by_cases z1 : (n : Int) ≤ v
   ·have HX := Lib.hid (HRNG.out (fun h => by omega))
    have d1 : decide ((n : Int) ≤ v) = true := decide_eq_true z1
    clear z0 z1
    go_wp2_with fail
    go_ret
    exact ⟨Tells.no HX.out, Lib.hid (HNO.out _ HX.out), hK.out, hB⟩
   have d1 : decide ((n : Int) ≤ v) = false := decide_eq_false z1
   obtain ⟨k, rfl⟩ : ∃ k : Nat, v = (k : Int) := ⟨v.toNat, by omega⟩
   have hkn : k < n := by omega
   have d1' : decide (n ≤ k) = false := decide_eq_false (by omega)
   obtain ⟨xs, hrun, hxs⟩ := hMB.out.look keyed_int Tryz.underlying362 (key_int ⟨zb1, zb2⟩)
   have HXS : Hid (xs = true ↔ (k : Int) ∈ p.take c) := hxs.trans ⟨fun ⟨u, hu, e⟩ => by injection e with _ e; rw [e]; exact hu, fun h => ⟨_, h, rfl⟩⟩
   have k2 : (0 : Int) ≤ (k : Int) := by omega
   have k3 : (k : Int) < (n : Int) := by omega
   clear z0 z1 hxs
   cases xs
   case true =>
    have HX : Hid (¬ R) := fun hr => by
     obtain ⟨ld', -, h1, -⟩ := HR.out.1 hr
     exact nodup_notin h1.2.2.1 HV.out (HXS.out.1 rfl)
    go_wp2_with fail
    go_ret
    exact ⟨Tells.no HX.out, Lib.hid (HNO.out _ HX.out), hK.out, hB⟩
   have HNI : Hid ((k : Int) ∉ p.take c) := fun h => by have := HXS.out.2 h; cases this
   obtain ⟨x, hx⟩ : ∃ z, ws[k]? = some z := ⟨_, List.getElem?_eq_getElem (by rw [HWL.out]; exact hkn)⟩
   obtain ⟨aW, rfl, habw, hcw0, wb1, wb2⟩ := HW.out.at hx
   obtain ⟨y, hy⟩ : ∃ z, lc[k]? = some z := ⟨_, List.getElem?_eq_getElem (by rw [hLO.out.1]; exact hkn)⟩
   have HNTW : Hid (nth ws (k : Int) = x) := by show (ws[(k : Int).toNat]?).getD 0 = x; rw [Int.toNat_natCast, hx]; rfl
   have HNTL : Hid (nth lc (k : Int) = y) := by show (lc[(k : Int).toNat]?).getD 0 = y; rw [Int.toNat_natCast, hy]; rfl
   have hxb : x ≤ 1048576 := by have := HWO.out.le (k : Int); rw [HNTW.out] at this; exact this
   have hyb := hLO.out.2 k y hy
   have HY := Lib.hid hy
   have HSTEP : Hid (ldT ws a p ld (c + 1) = if x < 0 then some lc else if x - y < a then none else some (lc.set k (y + a))) := by
    show _ = _
    rw [ldT_step hLT.out HV.out]
    unfold ldS
    rw [HNTW.out, HNTL.out, Int.toNat_natCast]
   have HWC : Hid (∀ W, Below w0.heap.size w0 W → W.cell? (aW.add k) = some (.int .i64 x)) := fun W hW => cell_keep (X := fun _ => False) hcw0 (by rw [add_block]; exact habw) id (.of_below hW)
   clear hx hy hcw0
   by_cases hc0 : c = 0
   ·have HC0 := Lib.hid hc0
    have HPT : Hid (PathTo es p (c + 1)) := hPT.out.next HV.out HNI.out (fun j u e => absurd e (by have := HC0.out; omega))
    have HNO1 : Hid (NodesOk n (p.take (c + 1))) := nodes_next hNO.out HV.out ⟨by omega, by omega⟩
    have d3 : decide ((0 : Int) < (c : Int)) = false := decide_eq_false (by omega)
    have d3' : decide (0 < c) = false := decide_eq_false (by omega)
    clear hc0
    go_wp2_with (at_mapUpdate; refine wpList_putB _ rfl _ _ _ rfl keyed_int Tryz.underlying362 rfl hMB.out (by omega) (.int .i64 (k : Int)) (.int .i64 (k : Int)) rfl rfl (key_int ⟨zb1, zb2⟩) ?_)
    intro w7 hM7 hg7
    have y7 := hg7.size
    have HM7 : Hid (MapB w7 3 (w.heap.size + 1) (c + 1) (fun kl => ∃ v ∈ p.take (c + 1), kl = .int .i64 v)) := hM7.cong (fun kl => by
     constructor
     ·rintro (h | ⟨u, hu, h⟩)
      ·exact ⟨_, (mem_take_succ HV.out _).1 (.inr rfl), h⟩
      ·exact ⟨u, (mem_take_succ HV.out _).1 (.inl hu), h⟩
     ·rintro ⟨u, hu, h⟩
      rcases (mem_take_succ HV.out u).2 hu with h1 | h1
      ·exact .inr ⟨u, h1, h⟩
      ·exact .inl (by rw [h, h1]))
    have HL7 : Hid (Loc w7 w.heap.size 115 #[.slice (some aP) m cP, .int .i64 a]) := loc_past hLB.out hg7 (fun e => by injection e with e; omega)
    have HR7 : Hid (RowI w7 gD lc) := loc_past hRD.out hg7 (fun e => by injection e with e; omega)
    have HK7 : Hid (Keep (fun b => b = gD) w w7) := hK.out.grown hg7 (fun g hg => by injection hg with hg; right; omega)
    have HB7 : Hid (Below w0.heap.size w0 w7) := (hB).grown hg7 (by omega) (fun g hg => by injection hg with hg; omega)
    have hcw := HWC.out w7 HB7.out
    have hsz7 : w.heap.size + 2 ≤ w7.heap.size := by omega
    clear hM7 hg7
    (try clear e1 e2 g1 l1)
    (try clear hrun)
    by_cases zx : x < 0
    ·have HLT7 : Hid (ldT ws a p ld (c + 1) = some lc) := by show _ = _; rw [HSTEP.out, if_pos zx]
     have dx : decide (x < 0) = true := decide_eq_true zx
     clear zx
     go_wp2_with fail
     go_roundw
     case rel => exact ⟨c + 1, lc, by omega, by go_num, HLT7, hLO, HPT, HNO1, HM7, HL7, HR7, HK7, hsz7, HB7.out⟩
     case measure => simp only [intOf]; omega
    have dx : decide (x < 0) = false := decide_eq_false zx
    obtain ⟨D, hDe⟩ : ∃ D, x - y = D := ⟨_, rfl⟩
    have kD : IntKind.i64.wrap (x - y) = D := by rw [IntKind.wrap_i64]; omega
    have HSS : Hid ((w7.cell? ⟨w.heap.size, 1, none⟩ = some (.int .i64 a) ∧ w7.cell? (aW.add k) = some (.int .i64 x)) ∧ w7.cell? ⟨gD, k, none⟩ = some (.int .i64 y)) := ⟨⟨Loc.cell HL7.out 1, hcw⟩, RowI.cell HR7.out HY.out⟩
    by_cases zl : D < a
    ·have HX : Hid (¬ R) := fun hr => by
      obtain ⟨ld', -, -, h3⟩ := HR.out.1 hr
      have h4 : ldT ws a p ld (c + 1) = none := by rw [HSTEP.out, if_neg zx, if_pos (by omega)]
      simp only at h3
      rw [ldT_bad h4 (by rw [HM.out]; omega)] at h3
      cases h3
     have dl : decide (D < a) = true := decide_eq_true zl
     clear zl zx hDe
     go_wp2_with fail
     refine wp_region_noPanic ?_
     refine wp_region_held_drew (S := (fun W => (W.cell? ⟨w.heap.size, 1, none⟩ = some (.int .i64 a) ∧ W.cell? (aW.add k) = some (.int .i64 x)) ∧ W.cell? ⟨gD, k, none⟩ = some (.int .i64 y))) (by kernel_rfl) ?_ (fun hHeld => ?_)
     ·exact HSS.out
     refine takeT 0 hHeld ?_
     (try simp only [Act.put, ly])
     refine takeT 1 hHeld ?_
     (try simp only [Act.put, ly])
     refine takeT 2 hHeld ?_
     (try simp only [Act.put, ly])
     refine takeT 3 hHeld ?_
     (try simp only [Act.put, ly])
     refine takeT 4 hHeld ?_
     (try simp only [Act.put, ly])
     refine takeT 5 hHeld ?_
     (try simp only [Act.put, ly])
     refine takeT 6 hHeld ?_
     (try simp only [Act.put, ly])
     refine takeT 7 hHeld ?_
     (try simp only [Act.put, ly])
     refine takeT 8 hHeld ?_
     (try simp only [Act.put, ly])
     refine takeT 9 hHeld ?_
     (try simp only [Act.put, ly])
     refine takeT 10 hHeld ?_
     (try simp only [Act.put, ly])
     refine takeT 11 hHeld ?_
     (try simp only [Act.put, ly])
     refine wpAnyH_done (by kernel_rfl) ?_ _
     refine NoPanic.normal ?_
     go_wp2_with fail
     go_ret
     exact ⟨Tells.no HX.out, Lib.hid (HNO.out _ HX.out), by first | exact HK7.out | exact HK7.out.drew, by first | exact HB7.out | exact HB7.out.drew⟩
    have dl : decide (D < a) = false := decide_eq_false zl
    obtain ⟨Z, hZ⟩ : ∃ Z, y + a = Z := ⟨_, rfl⟩
    have kZ : IntKind.i64.wrap (y + a) = Z := by rw [IntKind.wrap_i64]; omega
    have HLT7 : Hid (ldT ws a p ld (c + 1) = some (lc.set k Z)) := by show _ = _; rw [HSTEP.out, if_neg zx, if_neg (by omega), hZ]
    have HLO7 : Hid (LdOk n ws (lc.set k Z)) := ldT_ok HWO.out ha1 HLD.out _ _ HLT7.out
    have HNX : Hid (∀ W, (w7.drew.drew.setCell ⟨gD, k, none⟩ (.int .i64 Z) = W ∨ w7.drew.setCell ⟨gD, k, none⟩ (.int .i64 Z) = W) → RowI W gD (lc.set k Z) ∧ MapB W 3 (w.heap.size + 1) (c + 1) (fun kl => ∃ v ∈ p.take (c + 1), kl = .int .i64 v) ∧ Loc W w.heap.size 115 #[.slice (some aP) m cP, .int .i64 a] ∧ Keep (fun b => b = gD) w W ∧ Below w0.heap.size w0 W ∧ w.heap.size + 2 ≤ W.heap.size) := fun W hW => by
     have hn1 : ¬ w.heap.size + 1 = gD := by omega
     have hn2 : ¬ w.heap.size = gD := by omega
     rcases hW with hW | hW
     ·subst hW
      exact ⟨RowI.set (w := w7.drew.drew) HR7.out k Z, MapB.far (w := w7.drew.drew) HM7.out (p := ⟨gD, k, none⟩) hn1 _, Loc.far (w := w7.drew.drew) HL7.out (p := ⟨gD, k, none⟩) hn2 _, (HK7.out.drew.drew).set (.inl rfl) _, (HB7.out.drew.drew).setCell (p := ⟨gD, k, none⟩) hgD _, by simp only [zs]; exact hsz7⟩
     ·subst hW
      exact ⟨RowI.set (w := w7.drew) HR7.out k Z, MapB.far (w := w7.drew) HM7.out (p := ⟨gD, k, none⟩) hn1 _, Loc.far (w := w7.drew) HL7.out (p := ⟨gD, k, none⟩) hn2 _, (HK7.out.drew).set (.inl rfl) _, (HB7.out.drew).setCell (p := ⟨gD, k, none⟩) hgD _, by simp only [zs]; exact hsz7⟩
    have gf := Loc.frz HR7.out k
    have gl : gD < w7.heap.size := RowI.lt HR7.out
    have GF := Lib.hid gf
    have GL := Lib.hid gl
    clear zl zx hDe hZ gf gl
    go_wp2_with fail
    refine wp_region_noPanic ?_
    refine wp_region_held_drew (S := (fun W => (W.cell? ⟨w.heap.size, 1, none⟩ = some (.int .i64 a) ∧ W.cell? (aW.add k) = some (.int .i64 x)) ∧ W.cell? ⟨gD, k, none⟩ = some (.int .i64 y))) (by kernel_rfl) ?_ (fun hHeld => ?_)
    ·exact HSS.out
    refine takeT 0 hHeld ?_
    (try simp only [Act.put, ly])
    refine takeT 1 hHeld ?_
    (try simp only [Act.put, ly])
    refine takeT 2 hHeld ?_
    (try simp only [Act.put, ly])
    refine takeT 3 hHeld ?_
    (try simp only [Act.put, ly])
    refine takeT 4 hHeld ?_
    (try simp only [Act.put, ly])
    refine takeT 5 hHeld ?_
    (try simp only [Act.put, ly])
    refine takeT 6 hHeld ?_
    (try simp only [Act.put, ly])
    refine takeT 7 hHeld ?_
    (try simp only [Act.put, ly])
    refine takeT 8 hHeld ?_
    (try simp only [Act.put, ly])
    refine takeT 9 hHeld ?_
    (try simp only [Act.put, ly])
    refine takeT 10 hHeld ?_
    (try simp only [Act.put, ly])
    refine takeT 11 hHeld ?_
    (try simp only [Act.put, ly])
    refine wpAnyH_done (by kernel_rfl) ?_ _
    refine NoPanic.normal ?_
    go_wp2_with fail
    refine wp_region_noPanic ?_
    refine wp_region_heldK (k := 8) (S := (fun W => W.cell? ⟨w.heap.size, 1, none⟩ = some (.int .i64 a) ∧ W.cell? ⟨gD, k, none⟩ = some (.int .i64 y))) (by kernel_rfl) ?_ (fun hHeld => ?_)
    ·exact ⟨HSS.out.1.1, HSS.out.2⟩
    refine tkK 0 ?_
    (try simp only [Act.put, ly])
    refine tkK 1 ?_
    (try simp only [Act.put, ly])
    refine tkK 2 ?_
    (try simp only [Act.put, ly])
    refine tkK 3 ?_
    (try simp only [Act.put, ly])
    refine tkK 4 ?_
    (try simp only [Act.put, ly])
    refine tkK 5 ?_
    (try simp only [Act.put, ly])
    refine tkK 6 ?_
    (try simp only [Act.put, ly])
    refine tkK 7 ?_
    (try simp only [Act.put, ly])
    have g0 := HSS.out.2
    have gf := GF.out
    have gl := GL.out
    refine wpAnyK_ready (rs := [8]) (by kernel_rfl) (by simp) ?_
    refine AllReadyK.last (by kernel_rfl) rfl (fun KK hKK => ?_) AllReadyK.nil
    go_simp
    refine hKK.out _ _ ?_
    clear hKK KK
    (try simp only [Act.put, ly])
    refine wpAnyK_done (by kernel_rfl) ?_ _
    refine NoPanic.normal ?_
    clear g0 gf gl
    have HN9 := Lib.hid (HNX.out _ (by first | exact .inl rfl | exact .inr rfl))
    go_wp2_with fail
    go_roundw
    case rel => exact ⟨c + 1, lc.set k Z, by omega, by go_num, HLT7, HLO7, HPT, HNO1, Lib.hid HN9.out.2.1, Lib.hid HN9.out.2.2.1, Lib.hid HN9.out.1, Lib.hid HN9.out.2.2.2.1, HN9.out.2.2.2.2.2, HN9.out.2.2.2.2.1⟩
    case measure => simp only [intOf]; omega
   ·obtain ⟨r, hr⟩ : ∃ r, c = r + 1 := ⟨c - 1, by omega⟩
    obtain ⟨u, hu⟩ : ∃ z, p[r]? = some z := ⟨_, List.getElem?_eq_getElem (by rw [HM.out]; omega)⟩
    obtain ⟨a', ea, hab', hcu, ub1, ub2⟩ := (HP.out.keep (.of_below hB)).at hu
    injection ea with ea
    subst ea
    have hum : u ∈ p.take c := by
     rw [hr, ← mem_take_succ hu]
     exact .inr rfl
    obtain ⟨hu0, hu1⟩ := hNO.out u hum
    obtain ⟨k', rfl⟩ : ∃ k' : Nat, u = (k' : Int) := ⟨u.toNat, by omega⟩
    have hkn' : k' < n := by omega
    have HU := Lib.hid hu
    have HRC := Lib.hid hr
    obtain ⟨l, hl⟩ : ∃ l, L[k']? = some l := ⟨_, List.getElem?_eq_getElem (by rw [HLN.out]; exact hkn')⟩
    obtain ⟨aN, BN, cl, rfl, habn, hcl, hnl, l3', l4'⟩ := (HN.out.keep (.of_below hB)).at hl
    obtain ⟨ln, hln⟩ : ∃ q, l.length = q := ⟨_, rfl⟩
    rw [hln] at hcl l3' hnl
    have HNL := Lib.hid hnl
    have HLM := Lib.hid (HA.out k' l hl)
    have k8 : IntKind.i64.wrap ((c : Int) - 1) = (r : Int) := by rw [IntKind.wrap_i64]; omega
    have k9 : (0 : Int) ≤ (r : Int) := by omega
    have k10 : (r : Int) < (m : Int) := by omega
    have k11 : (0 : Int) ≤ (k' : Int) := by omega
    have k12 : (k' : Int) < (n : Int) := by omega
    have d3 : decide ((0 : Int) < (c : Int)) = true := decide_eq_true (by omega)
    have d3' : decide (0 < c) = true := decide_eq_true (by omega)
    have d3'' : 0 < c := by omega
    clear hu hr hc0 hl hln hnl hum
    go_wp2_with fail
    refine (containsV_any _ (k : Int) _ l HNL.out).mono ?_
    rintro e w3 ⟨⟨b, rfl, hb⟩, hb3⟩
    have y3 := hb3.size; (try simp only [zs] at y3)
    have HB3 : Hid (Below w0.heap.size w0 w3) := hB.trans (hb3.mono y5)
    have HK3 : Hid (Keep (fun b => b = gD) w w3) := hK.out.trans (Keep.of_below hb3)
    cases b
    case false =>
     have HX : Hid (¬ R) := fun hr => by
      obtain ⟨ld', -, h1, -⟩ := HR.out.1 hr
      have h2 := h1.2.2.2 r _ _ HU.out (by rw [← HRC.out]; exact HV.out)
      have := hb.out.2 ((HLM.out _).2 h2)
      cases this
     clear hb
     go_wp2_with fail
     go_ret
     exact ⟨Tells.no HX.out, Lib.hid (HNO.out _ HX.out), HK3.out, HB3.out⟩
    have HPT : Hid (PathTo es p (c + 1)) := hPT.out.next HV.out HNI.out (fun j u' e hu' => by
     obtain rfl : j = r := by have := HRC.out; omega
     rw [HU.out] at hu'
     injection hu' with hu'
     rw [← hu']
     exact (HLM.out _).1 (hb.out.1 rfl))
    have HNO1 : Hid (NodesOk n (p.take (c + 1))) := nodes_next hNO.out HV.out ⟨by omega, by omega⟩
    have HMB3 : Hid (MapB w3 3 (w.heap.size + 1) c (fun kl => ∃ v ∈ p.take c, kl = .int .i64 v)) := hMB.out.below hb3 hMB.out.lt
    have HLB3 : Hid (Loc w3 w.heap.size 115 #[.slice (some aP) m cP, .int .i64 a]) := hLB.out.below hb3
    have HRD3 : Hid (RowI w3 gD lc) := hRD.out.below hb3
    clear hb hrun e1 e2 g1 l1 hcu hcl hcell
    go_wp2_with (at_mapUpdate; refine wpList_putB _ rfl _ _ _ rfl keyed_int Tryz.underlying362 rfl HMB3.out (by omega) (.int .i64 (k : Int)) (.int .i64 (k : Int)) rfl rfl (key_int ⟨zb1, zb2⟩) ?_)
    intro w7 hM7 hg7
    have y7 := hg7.size
    have HM7 : Hid (MapB w7 3 (w.heap.size + 1) (c + 1) (fun kl => ∃ v ∈ p.take (c + 1), kl = .int .i64 v)) := hM7.cong (fun kl => by
     constructor
     ·rintro (h | ⟨u, hu, h⟩)
      ·exact ⟨_, (mem_take_succ HV.out _).1 (.inr rfl), h⟩
      ·exact ⟨u, (mem_take_succ HV.out _).1 (.inl hu), h⟩
     ·rintro ⟨u, hu, h⟩
      rcases (mem_take_succ HV.out u).2 hu with h1 | h1
      ·exact .inr ⟨u, h1, h⟩
      ·exact .inl (by rw [h, h1]))
    have HL7 : Hid (Loc w7 w.heap.size 115 #[.slice (some aP) m cP, .int .i64 a]) := loc_past HLB3.out hg7 (fun e => by injection e with e; omega)
    have HR7 : Hid (RowI w7 gD lc) := loc_past HRD3.out hg7 (fun e => by injection e with e; omega)
    have HK7 : Hid (Keep (fun b => b = gD) w w7) := HK3.out.grown hg7 (fun g hg => by injection hg with hg; right; omega)
    have HB7 : Hid (Below w0.heap.size w0 w7) := (HB3.out).grown hg7 (by omega) (fun g hg => by injection hg with hg; omega)
    have hcw := HWC.out w7 HB7.out
    have hsz7 : w.heap.size + 2 ≤ w7.heap.size := by omega
    clear hM7 hg7
    (try clear e1 e2 g1 l1)
    (try clear hrun)
    by_cases zx : x < 0
    ·have HLT7 : Hid (ldT ws a p ld (c + 1) = some lc) := by show _ = _; rw [HSTEP.out, if_pos zx]
     have dx : decide (x < 0) = true := decide_eq_true zx
     clear zx
     go_wp2_with fail
     go_roundw
     case rel => exact ⟨c + 1, lc, by omega, by go_num, HLT7, hLO, HPT, HNO1, HM7, HL7, HR7, HK7, hsz7, HB7.out⟩
     case measure => simp only [intOf]; omega
    have dx : decide (x < 0) = false := decide_eq_false zx
    obtain ⟨D, hDe⟩ : ∃ D, x - y = D := ⟨_, rfl⟩
    have kD : IntKind.i64.wrap (x - y) = D := by rw [IntKind.wrap_i64]; omega
    have HSS : Hid ((w7.cell? ⟨w.heap.size, 1, none⟩ = some (.int .i64 a) ∧ w7.cell? (aW.add k) = some (.int .i64 x)) ∧ w7.cell? ⟨gD, k, none⟩ = some (.int .i64 y)) := ⟨⟨Loc.cell HL7.out 1, hcw⟩, RowI.cell HR7.out HY.out⟩
    by_cases zl : D < a
    ·have HX : Hid (¬ R) := fun hr => by
      obtain ⟨ld', -, -, h3⟩ := HR.out.1 hr
      have h4 : ldT ws a p ld (c + 1) = none := by rw [HSTEP.out, if_neg zx, if_pos (by omega)]
      simp only at h3
      rw [ldT_bad h4 (by rw [HM.out]; omega)] at h3
      cases h3
     have dl : decide (D < a) = true := decide_eq_true zl
     clear zl zx hDe
     go_wp2_with fail
     refine wp_region_noPanic ?_
     refine wp_region_held_drew (S := (fun W => (W.cell? ⟨w.heap.size, 1, none⟩ = some (.int .i64 a) ∧ W.cell? (aW.add k) = some (.int .i64 x)) ∧ W.cell? ⟨gD, k, none⟩ = some (.int .i64 y))) (by kernel_rfl) ?_ (fun hHeld => ?_)
     ·exact HSS.out
     refine takeT 0 hHeld ?_
     (try simp only [Act.put, ly])
     refine takeT 1 hHeld ?_
     (try simp only [Act.put, ly])
     refine takeT 2 hHeld ?_
     (try simp only [Act.put, ly])
     refine takeT 3 hHeld ?_
     (try simp only [Act.put, ly])
     refine takeT 4 hHeld ?_
     (try simp only [Act.put, ly])
     refine takeT 5 hHeld ?_
     (try simp only [Act.put, ly])
     refine takeT 6 hHeld ?_
     (try simp only [Act.put, ly])
     refine takeT 7 hHeld ?_
     (try simp only [Act.put, ly])
     refine takeT 8 hHeld ?_
     (try simp only [Act.put, ly])
     refine takeT 9 hHeld ?_
     (try simp only [Act.put, ly])
     refine takeT 10 hHeld ?_
     (try simp only [Act.put, ly])
     refine takeT 11 hHeld ?_
     (try simp only [Act.put, ly])
     refine wpAnyH_done (by kernel_rfl) ?_ _
     refine NoPanic.normal ?_
     go_wp2_with fail
     go_ret
     exact ⟨Tells.no HX.out, Lib.hid (HNO.out _ HX.out), by first | exact HK7.out | exact HK7.out.drew, by first | exact HB7.out | exact HB7.out.drew⟩
    have dl : decide (D < a) = false := decide_eq_false zl
    obtain ⟨Z, hZ⟩ : ∃ Z, y + a = Z := ⟨_, rfl⟩
    have kZ : IntKind.i64.wrap (y + a) = Z := by rw [IntKind.wrap_i64]; omega
    have HLT7 : Hid (ldT ws a p ld (c + 1) = some (lc.set k Z)) := by show _ = _; rw [HSTEP.out, if_neg zx, if_neg (by omega), hZ]
    have HLO7 : Hid (LdOk n ws (lc.set k Z)) := ldT_ok HWO.out ha1 HLD.out _ _ HLT7.out
    have HNX : Hid (∀ W, (w7.drew.drew.setCell ⟨gD, k, none⟩ (.int .i64 Z) = W ∨ w7.drew.setCell ⟨gD, k, none⟩ (.int .i64 Z) = W) → RowI W gD (lc.set k Z) ∧ MapB W 3 (w.heap.size + 1) (c + 1) (fun kl => ∃ v ∈ p.take (c + 1), kl = .int .i64 v) ∧ Loc W w.heap.size 115 #[.slice (some aP) m cP, .int .i64 a] ∧ Keep (fun b => b = gD) w W ∧ Below w0.heap.size w0 W ∧ w.heap.size + 2 ≤ W.heap.size) := fun W hW => by
     have hn1 : ¬ w.heap.size + 1 = gD := by omega
     have hn2 : ¬ w.heap.size = gD := by omega
     rcases hW with hW | hW
     ·subst hW
      exact ⟨RowI.set (w := w7.drew.drew) HR7.out k Z, MapB.far (w := w7.drew.drew) HM7.out (p := ⟨gD, k, none⟩) hn1 _, Loc.far (w := w7.drew.drew) HL7.out (p := ⟨gD, k, none⟩) hn2 _, (HK7.out.drew.drew).set (.inl rfl) _, (HB7.out.drew.drew).setCell (p := ⟨gD, k, none⟩) hgD _, by simp only [zs]; exact hsz7⟩
     ·subst hW
      exact ⟨RowI.set (w := w7.drew) HR7.out k Z, MapB.far (w := w7.drew) HM7.out (p := ⟨gD, k, none⟩) hn1 _, Loc.far (w := w7.drew) HL7.out (p := ⟨gD, k, none⟩) hn2 _, (HK7.out.drew).set (.inl rfl) _, (HB7.out.drew).setCell (p := ⟨gD, k, none⟩) hgD _, by simp only [zs]; exact hsz7⟩
    have gf := Loc.frz HR7.out k
    have gl : gD < w7.heap.size := RowI.lt HR7.out
    have GF := Lib.hid gf
    have GL := Lib.hid gl
    clear zl zx hDe hZ gf gl
    go_wp2_with fail
    refine wp_region_noPanic ?_
    refine wp_region_held_drew (S := (fun W => (W.cell? ⟨w.heap.size, 1, none⟩ = some (.int .i64 a) ∧ W.cell? (aW.add k) = some (.int .i64 x)) ∧ W.cell? ⟨gD, k, none⟩ = some (.int .i64 y))) (by kernel_rfl) ?_ (fun hHeld => ?_)
    ·exact HSS.out
    refine takeT 0 hHeld ?_
    (try simp only [Act.put, ly])
    refine takeT 1 hHeld ?_
    (try simp only [Act.put, ly])
    refine takeT 2 hHeld ?_
    (try simp only [Act.put, ly])
    refine takeT 3 hHeld ?_
    (try simp only [Act.put, ly])
    refine takeT 4 hHeld ?_
    (try simp only [Act.put, ly])
    refine takeT 5 hHeld ?_
    (try simp only [Act.put, ly])
    refine takeT 6 hHeld ?_
    (try simp only [Act.put, ly])
    refine takeT 7 hHeld ?_
    (try simp only [Act.put, ly])
    refine takeT 8 hHeld ?_
    (try simp only [Act.put, ly])
    refine takeT 9 hHeld ?_
    (try simp only [Act.put, ly])
    refine takeT 10 hHeld ?_
    (try simp only [Act.put, ly])
    refine takeT 11 hHeld ?_
    (try simp only [Act.put, ly])
    refine wpAnyH_done (by kernel_rfl) ?_ _
    refine NoPanic.normal ?_
    go_wp2_with fail
    refine wp_region_noPanic ?_
    refine wp_region_heldK (k := 8) (S := (fun W => W.cell? ⟨w.heap.size, 1, none⟩ = some (.int .i64 a) ∧ W.cell? ⟨gD, k, none⟩ = some (.int .i64 y))) (by kernel_rfl) ?_ (fun hHeld => ?_)
    ·exact ⟨HSS.out.1.1, HSS.out.2⟩
    refine tkK 0 ?_
    (try simp only [Act.put, ly])
    refine tkK 1 ?_
    (try simp only [Act.put, ly])
    refine tkK 2 ?_
    (try simp only [Act.put, ly])
    refine tkK 3 ?_
    (try simp only [Act.put, ly])
    refine tkK 4 ?_
    (try simp only [Act.put, ly])
    refine tkK 5 ?_
    (try simp only [Act.put, ly])
    refine tkK 6 ?_
    (try simp only [Act.put, ly])
    refine tkK 7 ?_
    (try simp only [Act.put, ly])
    have g0 := HSS.out.2
    have gf := GF.out
    have gl := GL.out
    refine wpAnyK_ready (rs := [8]) (by kernel_rfl) (by simp) ?_
    refine AllReadyK.last (by kernel_rfl) rfl (fun KK hKK => ?_) AllReadyK.nil
    go_simp
    refine hKK.out _ _ ?_
    clear hKK KK
    (try simp only [Act.put, ly])
    refine wpAnyK_done (by kernel_rfl) ?_ _
    refine NoPanic.normal ?_
    clear g0 gf gl
    have HN9 := Lib.hid (HNX.out _ (by first | exact .inl rfl | exact .inr rfl))
    go_wp2_with fail
    go_roundw
    case rel => exact ⟨c + 1, lc.set k Z, by omega, by go_num, HLT7, HLO7, HPT, HNO1, Lib.hid HN9.out.2.1, Lib.hid HN9.out.2.2.1, Lib.hid HN9.out.1, Lib.hid HN9.out.2.2.2.1, HN9.out.2.2.2.2.2, HN9.out.2.2.2.2.1⟩
    case measure => simp only [intOf]; omega
  ·obtain rfl : c = m := by omega
   obtain ⟨a0, ha0⟩ : ∃ z, p[0]? = some z := ⟨_, List.getElem?_eq_getElem (by rw [HM.out]; omega)⟩
   obtain ⟨q, hq⟩ : ∃ q, c = q + 1 := ⟨c - 1, by omega⟩
   obtain ⟨aL, haL⟩ : ∃ z, p[q]? = some z := ⟨_, List.getElem?_eq_getElem (by rw [HM.out]; omega)⟩
   obtain ⟨aP, rfl, habp, hc0, -, -⟩ := (HP.out.keep (.of_below hB)).at ha0
   obtain ⟨a', ea, hab', hcL, -, -⟩ := (HP.out.keep (.of_below hB)).at haL
   injection ea with ea
   subst ea
   rw [add_zero'] at hc0
   have hpt : p.take c = p := List.take_of_length_le (by rw [HM.out]; exact Nat.le_refl _)
   have HNP : Hid (NodesOk n p) := by have h9 := hNO.out; rw [hpt] at h9; exact h9
   have HPA : Hid (p.Nodup ∧ ∀ (i : Nat) (u v : Int), p[i]? = some u → p[i + 1]? = some v → (u, v) ∈ es) := by
    have h9 := hPT.out
    rw [← HM.out] at h9
    exact h9.all
   have HLT : Hid (ldT ws a p ld p.length = some lc) := by show _ = _; rw [HM.out]; exact hLT.out
   have HRL : Hid (∀ ld', FlowOk es ws s t (p, a) ld ld' → RowI wo gD ld') := fun ld' h => by
    obtain ⟨-, -, h3⟩ := h
    simp only at h3
    rw [HLT.out] at h3
    injection h3 with h3
    rw [← h3]
    exact hRD.out
   obtain ⟨q0, q0'⟩ := HNP.out a0 (List.mem_of_getElem? ha0)
   obtain ⟨q1, q1'⟩ := HNP.out aL (List.mem_of_getElem? haL)
   obtain ⟨k0, rfl⟩ : ∃ k : Nat, a0 = (k : Int) := ⟨a0.toNat, by omega⟩
   obtain ⟨kL, rfl⟩ : ∃ k : Nat, aL = (k : Int) := ⟨aL.toNat, by omega⟩
   have hk0 : k0 < n := by omega
   have hkL : kL < n := by omega
   have HA0 := Lib.hid ha0
   have HAL : Hid (p[p.length - 1]? = some (kL : Int)) := by show _ = _; rw [HM.out, hq]; exact haL
   have k1 : IntKind.i64.wrap ((c : Int) - 1) = (q : Int) := by rw [IntKind.wrap_i64]; omega
   have k2 : (0 : Int) ≤ (q : Int) := by omega
   have k3 : (q : Int) < (c : Int) := by omega
   have k4 : (0 : Int) < (c : Int) := by omega
   have k5 : (0 : Int) ≤ (k0 : Int) := by omega
   have k6 : (k0 : Int) < (n : Int) := by omega
   have k7 : (0 : Int) ≤ (kL : Int) := by omega
   have k8 : (kL : Int) < (n : Int) := by omega
   clear ha0 haL hq hpt
   by_cases hs0 : (k0 : Int) ∈ s
   ·have cF := RowB.cell (Loc.under HF.out hB HF.out.lt) (rowP_yes hk0 hs0)
    by_cases ht0 : (kL : Int) ∈ t
    ·have cL := RowB.cell (Loc.under HL.out hB HL.out.lt) (rowP_yes hkL ht0)
     have HX : Hid R := HR.out.2 ⟨lc, ha1, ⟨⟨_, HA0.out, hs0⟩, ⟨_, HAL.out, ht0⟩, HPA.out.1, HPA.out.2⟩, HLT.out⟩
     clear hs0 ht0
     go_wp2_with fail
     go_ret
     exact ⟨Tells.yes HX.out, HRL, hK.out, hB⟩
    ·have cL := RowB.cell (Loc.under HL.out hB HL.out.lt) (rowP_no hkL ht0)
     have HX : Hid (¬ R) := fun hr => by
      obtain ⟨ld', -, h1, -⟩ := HR.out.1 hr
      obtain ⟨-, ⟨b, hb, hbt⟩, -⟩ := h1
      simp only at hb
      rw [HAL.out] at hb
      injection hb with hb
      exact ht0 (hb ▸ hbt)
     clear hs0 ht0
     go_wp2_with fail
     go_ret
     exact ⟨Tells.no HX.out, HRL, hK.out, hB⟩
   ·have cF := RowB.cell (Loc.under HF.out hB HF.out.lt) (rowP_no hk0 hs0)
    have HX : Hid (¬ R) := fun hr => by
     obtain ⟨ld', -, h1, -⟩ := HR.out.1 hr
     obtain ⟨⟨b, hb, hbs⟩, -⟩ := h1
     simp only at hb
     rw [HA0.out] at hb
     injection hb with hb
     exact hs0 (hb ▸ hbs)
    clear hs0
    go_wp2_with fail
    go_ret
    exact ⟨Tells.no HX.out, HRL, hK.out, hB⟩
end Go.Proofs.YtbdcjhoedhhabaaGreat

