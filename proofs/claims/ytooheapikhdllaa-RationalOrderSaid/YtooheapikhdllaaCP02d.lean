/- For every input the law returns true: the law's walk, and the statement out of it. -/
import Derived.Test.YtooheapikhdllaaRows
import Derived.Test.YtooheapikhdllaaM7
set_option linter.unusedSimpArgs false
set_option linter.unusedVariables false

/- RationalOrder: the law's walk; printed by gen_law02d.py. -/
namespace Go.Proofs.Ytooheapikhdllaa
open Go.RowKit
attribute [local go_sem ↓] Go.wp_at_zero Go.wp_at_succ
attribute [local go_sem] beq_self_eq_true bne_self_eq_false

set_option maxHeartbeats 16000000 in
theorem order_walk (w : World) (v1 v2 v3 : Value) (n1 n2 o1 o2 q1 q2 : Bool) (xs ys us vs ss ts : List Nat) (h1 : RatR w (fun _ => False) v1 n1 xs n2 ys) (h2 : RatR w (fun _ => False) v2 o1 us o2 vs) (h3 : RatR w (fun _ => False) v3 q1 ss q2 ts) :
    Calls Try.prog 8 #[v1, v2, v3] w fun e w' => e = .returned (.bool true) ∧ Below w.heap.size w w' := by
  have k1 := h1
  have k2 := h2
  have k3 := h3
  obtain ⟨A, c, B, d, rfl, -, -⟩ := h1
  obtain ⟨C, p, D, f, rfl, -, -⟩ := h2
  obtain ⟨E, g, F, h, rfl, -, -⟩ := h3
  have L1 := made1 w #[.bool n1, .slice A xs.length c, .bool n2, .slice B ys.length d] 27
  have L2 := made2 w (.cells #[.bool n1, .slice A xs.length c, .bool n2, .slice B ys.length d] 27) #[.bool o1, .slice C us.length p, .bool o2, .slice D vs.length f] 27
  have L3 := made3 w (.cells #[.bool n1, .slice A xs.length c, .bool n2, .slice B ys.length d] 27) (.cells #[.bool o1, .slice C us.length p, .bool o2, .slice D vs.length f] 27) #[.bool q1, .slice E ss.length g, .bool q2, .slice F ts.length h] 27
  go_enter Try.func8, Try.ntmps8
  go_wp2_with fail
  refine (rknown_any _).mono ?_
  rintro e w1 ⟨rfl, hb1⟩
  obtain ⟨z1, z2, z3⟩ := sz3 hb1
  obtain ⟨e1, f1, l1⟩ := L1.all (w' := w1)
  go_wp2_with fail
  refine (few_any _ (fun _ => False) _ _ _ _ _ k1.to).mono ?_
  rintro e w2 ⟨he, hb2⟩
  have y2 := hb2.size; (try simp only [World.size_alloc, size_set, size_drew, size_drewN] at y2)
  clear e1 f1
  obtain ⟨e2, f2, l2⟩ := L2.all (w' := w2)
  obtain ⟨bf, hbf⟩ : ∃ b, decide (xs.length ≤ 4 ∧ ys.length ≤ 4) = b := ⟨_, rfl⟩
  rw [hbf] at he
  have HF1 := Lib.hid hbf
  clear hbf
  subst he
  cases bf
  · go_wp2_with fail
    go_ret
    exact ⟨rfl, bel⟩
  go_wp2_with fail
  refine (few_any _ (fun _ => False) _ _ _ _ _ k2.to).mono ?_
  rintro e w3 ⟨he, hb3⟩
  have y3 := hb3.size; (try simp only [World.size_alloc, size_set, size_drew, size_drewN] at y3)
  clear e2 f2
  obtain ⟨e3, f3, l3⟩ := L3.all (w' := w3)
  obtain ⟨bf, hbf⟩ : ∃ b, decide (us.length ≤ 4 ∧ vs.length ≤ 4) = b := ⟨_, rfl⟩
  rw [hbf] at he
  have HF2 := Lib.hid hbf
  clear hbf
  subst he
  cases bf
  · go_wp2_with fail
    go_ret
    exact ⟨rfl, bel⟩
  go_wp2_with fail
  refine (few_any _ (fun _ => False) _ _ _ _ _ k3.to).mono ?_
  rintro e w4 ⟨he, hb4⟩
  have y4 := hb4.size; (try simp only [World.size_alloc, size_set, size_drew, size_drewN] at y4)
  clear e3 f3
  obtain ⟨bf, hbf⟩ : ∃ b, decide (ss.length ≤ 4 ∧ ts.length ≤ 4) = b := ⟨_, rfl⟩
  rw [hbf] at he
  have HF3 := Lib.hid hbf
  clear hbf
  subst he
  cases bf
  · go_wp2_with fail
    go_ret
    exact ⟨rfl, bel⟩
  have r1 := k1.few (of_decide_eq_true HF1.out)
  have r2 := k2.few (of_decide_eq_true HF2.out)
  have r3 := k3.few (of_decide_eq_true HF3.out)
  obtain ⟨x, hx⟩ : ∃ x, rv n1 xs n2 ys = x := ⟨_, rfl⟩
  obtain ⟨y, hy⟩ : ∃ y, rv o1 us o2 vs = y := ⟨_, rfl⟩
  obtain ⟨z, hz⟩ : ∃ z, rv q1 ss q2 ts = z := ⟨_, rfl⟩
  rw [hx] at r1
  rw [hy] at r2
  rw [hz] at r3
  clear hx hy hz k1 k2 k3
  have HX := Lib.hid (r1.rsz (by omega))
  have HY := Lib.hid (r2.rsz (by omega))
  have HZ := Lib.hid (r3.rsz (by omega))
  obtain ⟨cc, hcc⟩ : ∃ c, rcmp x y = c := ⟨_, rfl⟩
  have hcb : -1 ≤ cc ∧ cc ≤ 1 := by rw [← hcc]; unfold rcmp; rcases sign_cases (x - y).num with ⟨_, h⟩ | ⟨_, h⟩ | ⟨_, h⟩ <;> omega
  obtain ⟨eb, heb⟩ : ∃ b, decide (x = y) = b := ⟨_, rfl⟩
  have hc0 : (cc == 0) = eb := by rw [← heb, Bool.eq_iff_iff, beq_iff_eq, decide_eq_true_eq, ← hcc]; exact rcmp_zero x y
  have hw : IntKind.i64.wrap (-cc) = -cc := by rw [IntKind.wrap_i64]; omega
  obtain ⟨hcb1, hcb2⟩ := hcb
  have HEB := Lib.hid heb
  have HC := Lib.hid hcc
  have HC2 : Hid ((x - y).num.sign = cc) := hcc
  have HC3 : Hid (rcmp y x = -cc) := by show _ = _; rw [rcmp_neg, hcc]
  have HC4 : Hid (rcmp (x + z) (y + z) = cc) := by show _ = _; rw [rcmp_add, hcc]
  have HSU : Hid (Rsz 20 (x - y)) := by show Rsz _ _; rw [Rat.sub_eq_add_neg]; exact (HX.out.add HY.out.neg).mono (by omega)
  have HXZ : Hid (Rsz 20 (x + z)) := (HX.out.add HZ.out).mono (by omega)
  have HYZ : Hid (Rsz 20 (y + z)) := (HY.out.add HZ.out).mono (by omega)
  clear heb hcc
  obtain ⟨e1, f1, l1⟩ := L1.all (w' := w4)
  obtain ⟨e2, f2, l2⟩ := L2.all (w' := w4)
  go_wp2_with fail
  refine (ratcompare_any _ (fun _ => False) _ _ x y (r1.mono (by omega)).to (r2.mono (by omega)).to).mono ?_
  rintro e w5 ⟨he, hb5⟩
  rw [HC.out] at he
  subst he
  have y5 := hb5.size; (try simp only [World.size_alloc, size_set, size_drew, size_drewN] at y5)
  clear e1 f1 e2 f2
  go_wp2_with fail
  go_region_held3 (fun W => ((W.cell? ⟨w.heap.size, 0, none⟩ = some (.bool n1) ∧ W.cell? ⟨w.heap.size, 1, none⟩ = some (.slice A xs.length c)) ∧ W.cell? ⟨w.heap.size, 2, none⟩ = some (.bool n2) ∧ W.cell? ⟨w.heap.size, 3, none⟩ = some (.slice B ys.length d)) ∧ ((W.cell? ⟨w.heap.size + 1, 0, none⟩ = some (.bool o1) ∧ W.cell? ⟨w.heap.size + 1, 1, none⟩ = some (.slice C us.length p)) ∧ W.cell? ⟨w.heap.size + 1, 2, none⟩ = some (.bool o2) ∧ W.cell? ⟨w.heap.size + 1, 3, none⟩ = some (.slice D vs.length f)) ∧ ((W.cell? ⟨w.heap.size + 1 + 1, 0, none⟩ = some (.bool q1) ∧ W.cell? ⟨w.heap.size + 1 + 1, 1, none⟩ = some (.slice E ss.length g)) ∧ W.cell? ⟨w.heap.size + 1 + 1, 2, none⟩ = some (.bool q2) ∧ W.cell? ⟨w.heap.size + 1 + 1, 3, none⟩ = some (.slice F ts.length h)))
    (exact ⟨⟨⟨Loc.c 0 L1, Loc.c 1 L1⟩, Loc.c 2 L1, Loc.c 3 L1⟩, ⟨⟨Loc.c 0 L2, Loc.c 1 L2⟩, Loc.c 2 L2, Loc.c 3 L2⟩, ⟨⟨Loc.c 0 L3, Loc.c 1 L3⟩, Loc.c 2 L3, Loc.c 3 L3⟩⟩)
    (first
      | (go_at_call 31; refine (rcompare_rat _ (fun _ => False) _ _ (x) (y) (r1.mono (by omega)).to (r2.mono (by omega)).to).mono ?_; rintro e t1 ⟨he, hb6⟩; rw [HC.out] at he; subst he; have y6 := hb6.size; (try simp only [World.size_alloc, size_set, size_drew, size_drewN] at y6))
      | (go_at_call 33; refine (sub_rat _ (fun _ => False) _ _ (x) (y) (r1.mono (by omega)).to (r2.mono (by omega)).to).mono ?_; rintro e t2 ⟨v7, rfl, h7, hb7⟩; obtain ⟨b7, A7, m7, c7, b7', A7', m7', c7', rfl, h7, -, -⟩ := h7.op; have y7 := hb7.size; (try simp only [World.size_alloc, size_set, size_drew, size_drewN] at y7))
      | (go_at_call 32; refine (sign_rat _ (fun _ => False) 20 _ (x - y) (RatL.to (h7.len HSU.out))).mono ?_; rintro e t3 ⟨he, hb8⟩; rw [HC2.out] at he; subst he; have y8 := hb8.size; (try simp only [World.size_alloc, size_set, size_drew, size_drewN] at y8))
      | (go_at_call_of 34 (Value.slice A xs.length c); refine (add_rat _ (fun _ => False) _ _ (x) (z) (r1.mono (by omega)).to (r3.mono (by omega)).to).mono ?_; rintro e t5 ⟨v10, rfl, h10, hb10⟩; obtain ⟨b10, A10, m10, c10, b10', A10', m10', c10', rfl, h10, -, -⟩ := h10.op; have y10 := hb10.size; (try simp only [World.size_alloc, size_set, size_drew, size_drewN] at y10))
      | (go_at_call_of 34 (Value.slice C us.length p); refine (add_rat _ (fun _ => False) _ _ (y) (z) (r2.mono (by omega)).to (r3.mono (by omega)).to).mono ?_; rintro e t6 ⟨v11, rfl, h11, hb11⟩; obtain ⟨b11, A11, m11, c11, b11', A11', m11', c11', rfl, h11, -, -⟩ := h11.op; have y11 := hb11.size; (try simp only [World.size_alloc, size_set, size_drew, size_drewN] at y11))
      | (go_at_call_of 30 (Value.slice A10 m10 c10); refine (ratcompare_any _ (fun _ => False) _ _ (x + z) (y + z) (RatL.to ((h10.len (HXZ.out)).mono (by omega))) (RatL.to ((h11.len (HYZ.out)).mono (by omega)))).mono ?_; rintro e t7 ⟨he, hb12⟩; rw [HC4.out] at he; subst he; have y12 := hb12.size; (try simp only [World.size_alloc, size_set, size_drew, size_drewN] at y12))
      | (go_at_call_of 30 (Value.slice C us.length p); refine (ratcompare_any _ (fun _ => False) _ _ (y) (x) (r2.mono (by omega)).to (r1.mono (by omega)).to).mono ?_; rintro e t4 ⟨he, hb9⟩; rw [HC3.out] at he; subst he; have y9 := hb9.size; (try simp only [World.size_alloc, size_set, size_drew, size_drewN] at y9)))
  all_goals
    go_wp2_with fail
    go_region_held3 (fun W => ((W.cell? ⟨w.heap.size, 0, none⟩ = some (.bool n1) ∧ W.cell? ⟨w.heap.size, 1, none⟩ = some (.slice A xs.length c)) ∧ W.cell? ⟨w.heap.size, 2, none⟩ = some (.bool n2) ∧ W.cell? ⟨w.heap.size, 3, none⟩ = some (.slice B ys.length d)) ∧ ((W.cell? ⟨w.heap.size + 1, 0, none⟩ = some (.bool o1) ∧ W.cell? ⟨w.heap.size + 1, 1, none⟩ = some (.slice C us.length p)) ∧ W.cell? ⟨w.heap.size + 1, 2, none⟩ = some (.bool o2) ∧ W.cell? ⟨w.heap.size + 1, 3, none⟩ = some (.slice D vs.length f)))
      (exact ⟨⟨⟨Loc.c 0 L1, Loc.c 1 L1⟩, Loc.c 2 L1, Loc.c 3 L1⟩, ⟨⟨Loc.c 0 L2, Loc.c 1 L2⟩, Loc.c 2 L2, Loc.c 3 L2⟩⟩)
      (first
        | (go_at_call_of 35 (Value.slice A xs.length c); refine (clean_rat _ (fun _ => False) _ (x) (r1.mono (by omega)).to).mono ?_; rintro e s1 ⟨v13, rfl, h13, hb13⟩; obtain ⟨b13, A13, m13, c13, b13', A13', m13', c13', rfl, h13, -, -⟩ := h13.op; have y13 := hb13.size; (try simp only [World.size_alloc, size_set, size_drew, size_drewN] at y13))
        | (go_at_call_of 35 (Value.slice C us.length p); refine (clean_rat _ (fun _ => False) _ (y) (r2.mono (by omega)).to).mono ?_; rintro e s2 ⟨v14, rfl, h14, hb14⟩; obtain ⟨b14, A14, m14, c14, b14', A14', m14', c14', rfl, h14, -, -⟩ := h14.op; have y14 := hb14.size; (try simp only [World.size_alloc, size_set, size_drew, size_drewN] at y14))
        | (go_at_call 17; refine (rsame_V _ (fun _ => False) (fun _ => False) _ _ x y (RatV.to h13) (RatV.to h14)).mono ?_; rintro e s3 ⟨he, hb15⟩; rw [HEB.out] at he; subst he; have y15 := hb15.size; (try simp only [World.size_alloc, size_set, size_drew, size_drewN] at y15)))
    all_goals
      by_cases hgt : 0 < cc
      · go_wp2_with fail
        go_ret
        exact ⟨rfl, bel⟩
      · obtain ⟨c2, hc2⟩ : ∃ c, rcmp y z = c := ⟨_, rfl⟩
        obtain ⟨c3, hc3⟩ : ∃ c, rcmp x z = c := ⟨_, rfl⟩
        have HT : Hid (¬ 0 < c2 → c3 ≤ 0) := fun h => by rw [← hc3]; exact rcmp_trans x y z (by rw [HC.out]; omega) (by omega)
        have HD2 := Lib.hid hc2
        have HD3 := Lib.hid hc3
        clear hc2 hc3
        obtain ⟨e2, f2, l2⟩ := Loc.all L2 (w' := s3)
        obtain ⟨e3, f3, l3⟩ := Loc.all L3 (w' := s3)
        go_wp2_with fail
        refine (ratcompare_any _ (fun _ => False) _ _ y z (r2.mono (by omega)).to (r3.mono (by omega)).to).mono ?_
        rintro e s4 ⟨he, hb16⟩
        rw [HD2.out] at he
        subst he
        have y16 := hb16.size; (try simp only [World.size_alloc, size_set, size_drew, size_drewN] at y16)
        clear e2 f2 e3 f3
        by_cases hg2 : 0 < c2
        · go_wp2_with fail
          go_ret
          exact ⟨rfl, bel⟩
        · have hle := HT.out (by omega)
          obtain ⟨e1, f1, l1⟩ := Loc.all L1 (w' := s4)
          obtain ⟨e3, f3, l3⟩ := Loc.all L3 (w' := s4)
          go_wp2_with fail
          refine (ratcompare_any _ (fun _ => False) _ _ x z (r1.mono (by omega)).to (r3.mono (by omega)).to).mono ?_
          rintro e s5 ⟨he, hb17⟩
          rw [HD3.out] at he
          subst he
          have y17 := hb17.size; (try simp only [World.size_alloc, size_set, size_drew, size_drewN] at y17)
          go_wp2_with fail
          go_ret
          exact ⟨rfl, bel⟩
end Go.Proofs.Ytooheapikhdllaa

/- The statement 'RationalOrder' out of its walk. The frame is the guide's own (proof-skeleton), printed by lawgen.py. -/
namespace Go.Proofs.Ytooheapikhdllaa.rationalOrder
open Go.ChangeShapes Go.WideShapes Go.ChangeAt Go.RowKit Go.Proofs.Ytooheapikhdllaa
open Go.ChangeMaps (open_string shut_string)
set_option linter.unusedVariables false

set_option maxRecDepth 100000 in
theorem lifted (os : Os) (started : os.Started) (H : Type) (enc : TypeId × Value → H) :
    ReturnsInHanded {} Try.checked os 8 .any (Rows.rationalOrderSpec.pre6 enc Try.prog Try.f8 Rows.rationalOrderRow.domain false) (Rows.rationalOrderSpec.post enc Try.prog Try.f8 false true false false) := by
  refine returnsInHanded_of_change (C := Try.checked) own started (by kernel_rfl) Try.func8
    (ChangeSpec.witness6 (enc := enc) (C := Try.checked) false ⟨#[], #[.agg #[.bool false, .slice none 0 0, .bool false, .slice none 0 0], .agg #[.bool false, .slice none 0 0, .bool false, .slice none 0 0], .agg #[.bool false, .slice none 0 0, .bool false, .slice none 0 0]], []⟩ 8 (by kernel_rfl) (by kernel_rfl) (by kernel_rfl) (by kernel_rfl)) ?_
  intro W base args ds gs before hval0 hW hcnd _
  have hval : ∀ (j : Nat) t v, Try.f8.params[j]? = some t → args[j]? = some v → Value.okWide Try.prog W .any base t v := hval0
  have hW' := hW
  obtain ⟨p, q, hA0, hV, rfl, hfz, hnd⟩ := hW
  have hA : DataW.TrodAll enc Try.prog W 0 (fun _ => true) true Try.f8.params.toList args.toList ds p := hA0
  rw [Try.params8] at hA hval
  obtain ⟨v0, vs0, d0, ds0, p0, q0, hargs, rfl, rfl, h0, r0⟩ := trodAll_cons hA
  obtain ⟨v1, vs1, d1, ds1, p1, q1, rfl, rfl, rfl, h1, r1⟩ := trodAll_cons r0
  obtain ⟨v2, vs2, d2, ds2, p2, q2, rfl, rfl, rfl, h2, r2⟩ := trodAll_cons r1
  obtain ⟨rfl, rfl, rfl⟩ := trodAll_nil r2
  obtain rfl : args = #[v0, v1, v2] := by cases args; simp_all
  obtain ⟨rfl, rfl⟩ := trodVars_none hV
  have lt0 : ∀ x ∈ p0, x.block < W.heap.size := by obtain ⟨m, hm⟩ := h0; exact DataW.trod_lt m _ _ _ hm
  have k0 := fun (W' : World) (bel : Below W.heap.size W W') => Below.trod laidOut (by kernel_rfl) (of_decide_eq_true (by kernel_rfl)) h0 bel lt0
  obtain ⟨n0, x0, m0, y0, o0⟩ := open_Rat (hval 0 27 v0 rfl rfl) h0
  have lt1 : ∀ x ∈ p1, x.block < W.heap.size := by obtain ⟨m, hm⟩ := h1; exact DataW.trod_lt m _ _ _ hm
  have k1 := fun (W' : World) (bel : Below W.heap.size W W') => Below.trod laidOut (by kernel_rfl) (of_decide_eq_true (by kernel_rfl)) h1 bel lt1
  obtain ⟨n1, x1, m1, y1, o1⟩ := open_Rat (hval 1 27 v1 rfl rfl) h1
  have lt2 : ∀ x ∈ p2, x.block < W.heap.size := by obtain ⟨m, hm⟩ := h2; exact DataW.trod_lt m _ _ _ hm
  have k2 := fun (W' : World) (bel : Below W.heap.size W W') => Below.trod laidOut (by kernel_rfl) (of_decide_eq_true (by kernel_rfl)) h2 bel lt2
  obtain ⟨n2, x2, m2, y2, o2⟩ := open_Rat (hval 2 27 v2 rfl rfl) h2
  refine (order_walk W v0 v1 v2 n0 m0 n1 m1 n2 m2 x0 y0 x1 y1 x2 y2 o0 o1 o2).mono fun e W' ⟨he, bel⟩ => ?_
  subst he
  exact ⟨_, rfl, _, _, _, [], _, [], hW', trodAll_mk1 (shut_bool Try.underlying4 _), (trodAll_cons_mk (k0 _ bel) (trodAll_cons_mk (k1 _ bel) (trodAll_cons_mk (k2 _ bel) trodAll_mk0))), rfl, bel.frame _, fun h => by cases h⟩

theorem over : Rows.rationalOrderRow.holds Try.pinned (OpenSpec.ofChange Rows.rationalOrderSpec) :=
  OpenClaim.holds_of_wide 8 Try.f8 rfl rfl rfl rfl rfl rfl rfl ⟨rfl, rfl, rfl, rfl, rfl⟩ rfl rfl rfl rfl rfl (by kernel_rfl) Try.func8 (by kernel_rfl)
    (of_decide_eq_true (by kernel_rfl)) (by unfold Func.isWrapper; first | (rw [if_pos (by decide +kernel)]; kernel_rfl) | (rw [if_neg (by decide +kernel)]; exact ⟨rfl, rfl⟩))
    (fun os started H enc _ => lifted os started H enc)

/-- The statement: for every input the law returns true; each argument reads behind the call as it read before. -/
theorem proved : Rows.RationalOrderSaid := over
end Go.Proofs.Ytooheapikhdllaa.rationalOrder

