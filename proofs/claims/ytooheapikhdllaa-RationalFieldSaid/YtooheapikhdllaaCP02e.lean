/- For every input the law returns true: the law's walk, and the statement out of it. -/
import Derived.Test.YtooheapikhdllaaRows
import Derived.Test.YtooheapikhdllaaM7
set_option linter.unusedSimpArgs false
set_option linter.unusedVariables false

/- RationalField: the law's walk; printed by gen_law02d.py. -/
namespace Go.Proofs.Ytooheapikhdllaa
open Go.RowKit
attribute [local go_sem ↓] Go.wp_at_zero Go.wp_at_succ
attribute [local go_sem] beq_self_eq_true bne_self_eq_false
theorem zero_num_sign (y : Rat) : (y.num.sign == 0) = decide (y = 0) := by
  rw [Bool.eq_iff_iff, beq_iff_eq, decide_eq_true_eq, Int.sign_eq_zero_iff_zero, Rat.num_eq_zero]

set_option maxHeartbeats 16000000 in
theorem field_walk (w : World) (v1 v2 v3 : Value) (n1 n2 o1 o2 q1 q2 : Bool) (xs ys us vs ss ts : List Nat) (h1 : RatR w (fun _ => False) v1 n1 xs n2 ys) (h2 : RatR w (fun _ => False) v2 o1 us o2 vs) (h3 : RatR w (fun _ => False) v3 q1 ss q2 ts) :
    Calls Try.prog 11 #[v1, v2, v3] w fun e w' => e = .returned (.bool true) ∧ Below w.heap.size w w' := by
  have k1 := h1
  have k2 := h2
  have k3 := h3
  obtain ⟨A, c, B, d, rfl, -, -⟩ := h1
  obtain ⟨C, p, D, f, rfl, -, -⟩ := h2
  obtain ⟨E, g, F, h, rfl, -, -⟩ := h3
  have L1 := made1 w #[.bool n1, .slice A xs.length c, .bool n2, .slice B ys.length d] 27
  have L2 := made2 w (.cells #[.bool n1, .slice A xs.length c, .bool n2, .slice B ys.length d] 27) #[.bool o1, .slice C us.length p, .bool o2, .slice D vs.length f] 27
  have L3 := made3 w (.cells #[.bool n1, .slice A xs.length c, .bool n2, .slice B ys.length d] 27) (.cells #[.bool o1, .slice C us.length p, .bool o2, .slice D vs.length f] 27) #[.bool q1, .slice E ss.length g, .bool q2, .slice F ts.length h] 27
  go_enter Try.func11, Try.ntmps11
  go_wp2_with fail
  refine (rknown_any _).mono ?_
  rintro e w1 ⟨rfl, hb1⟩
  obtain ⟨z1, z2, z3⟩ := sz3 hb1
  obtain ⟨e1, f1, l1⟩ := L1.all (w' := w1)
  go_wp2_with fail
  refine (few_any _ (fun _ => False) _ _ _ _ _ k1.to).mono ?_
  rintro e w2 ⟨he, hb2⟩
  have y2 := hb2.size; (try simp only [World.size_alloc, size_set, size_drew, size_drewN] at y2)
  clear e1 f1
  obtain ⟨e2, f2, l2⟩ := L2.all (w' := w2)
  obtain ⟨bf, hbf⟩ : ∃ b, decide (xs.length ≤ 4 ∧ ys.length ≤ 4) = b := ⟨_, rfl⟩
  rw [hbf] at he
  have HF1 := Lib.hid hbf
  clear hbf
  subst he
  cases bf
  · go_wp2_with fail
    go_ret
    exact ⟨rfl, bel⟩
  go_wp2_with fail
  refine (few_any _ (fun _ => False) _ _ _ _ _ k2.to).mono ?_
  rintro e w3 ⟨he, hb3⟩
  have y3 := hb3.size; (try simp only [World.size_alloc, size_set, size_drew, size_drewN] at y3)
  clear e2 f2
  obtain ⟨e3, f3, l3⟩ := L3.all (w' := w3)
  obtain ⟨bf, hbf⟩ : ∃ b, decide (us.length ≤ 4 ∧ vs.length ≤ 4) = b := ⟨_, rfl⟩
  rw [hbf] at he
  have HF2 := Lib.hid hbf
  clear hbf
  subst he
  cases bf
  · go_wp2_with fail
    go_ret
    exact ⟨rfl, bel⟩
  go_wp2_with fail
  refine (few_any _ (fun _ => False) _ _ _ _ _ k3.to).mono ?_
  rintro e w4 ⟨he, hb4⟩
  have y4 := hb4.size; (try simp only [World.size_alloc, size_set, size_drew, size_drewN] at y4)
  clear e3 f3
  obtain ⟨bf, hbf⟩ : ∃ b, decide (ss.length ≤ 4 ∧ ts.length ≤ 4) = b := ⟨_, rfl⟩
  rw [hbf] at he
  have HF3 := Lib.hid hbf
  clear hbf
  subst he
  cases bf
  · go_wp2_with fail
    go_ret
    exact ⟨rfl, bel⟩
  have r1 := k1.few (of_decide_eq_true HF1.out)
  have r2 := k2.few (of_decide_eq_true HF2.out)
  have r3 := k3.few (of_decide_eq_true HF3.out)
  obtain ⟨x, hx⟩ : ∃ x, rv n1 xs n2 ys = x := ⟨_, rfl⟩
  obtain ⟨y, hy⟩ : ∃ y, rv o1 us o2 vs = y := ⟨_, rfl⟩
  obtain ⟨z, hz⟩ : ∃ z, rv q1 ss q2 ts = z := ⟨_, rfl⟩
  rw [hx] at r1
  rw [hy] at r2
  rw [hz] at r3
  clear hx hy hz k1 k2 k3
  have HX := Lib.hid (r1.rsz (by omega))
  have HY := Lib.hid (r2.rsz (by omega))
  have HZ := Lib.hid (r3.rsz (by omega))
  have E1 : Hid (x + y = y + x) := Rat.add_comm x y
  have E2 : Hid (x * y = y * x) := Rat.mul_comm x y
  have E3 : Hid (x + y + z = x + (y + z)) := Rat.add_assoc x y z
  have E4 : Hid (x * y * z = x * (y * z)) := Rat.mul_assoc x y z
  have E5 : Hid (x * (y + z) = x * y + x * z) := Rat.mul_add x y z
  have E6 : Hid (x + y - y = x) := rat_add_sub x y
  have E7 : Hid (y ≠ 0 → x / y * y = x) := rat_div_mul x y
  obtain ⟨sg, hsg⟩ : ∃ s, y.num.sign = s := ⟨_, rfl⟩
  have HSG := Lib.hid hsg
  clear hsg
  obtain ⟨e1, f1, l1⟩ := L1.all (w' := w4)
  go_wp2_with fail
  refine (clean_rat _ (fun _ => False) _ x (r1.mono (by omega)).to).mono ?_
  rintro e w5 ⟨v0, rfl, h0, hb5⟩
  obtain ⟨b0, A0, m0, c0, b0', A0', m0', c0', rfl, h0, -, -⟩ := h0.op
  have y5 := hb5.size; (try simp only [World.size_alloc, size_set, size_drew, size_drewN] at y5)
  clear e1 f1
  obtain ⟨e1, f1, l1⟩ := L1.all (w' := w5)
  have N1 := Loc.fill4 (u := .bool b0) (v := .slice A0 m0 c0) (x := .bool b0') (y := .slice A0' m0' c0') (L1.to (w' := w5))
  have N2 : Loc ((((w5.setCell ⟨w.heap.size, 0, none⟩ (.bool b0)).setCell ⟨w.heap.size, 1, none⟩ (.slice A0 m0 c0)).setCell ⟨w.heap.size, 2, none⟩ (.bool b0')).setCell ⟨w.heap.size, 3, none⟩ (.slice A0' m0' c0')) (w.heap.size + 1) 27 #[.bool o1, .slice C us.length p, .bool o2, .slice D vs.length f] := L2.to
  have N3 : Loc ((((w5.setCell ⟨w.heap.size, 0, none⟩ (.bool b0)).setCell ⟨w.heap.size, 1, none⟩ (.slice A0 m0 c0)).setCell ⟨w.heap.size, 2, none⟩ (.bool b0')).setCell ⟨w.heap.size, 3, none⟩ (.slice A0' m0' c0')) (w.heap.size + 1 + 1) 27 #[.bool q1, .slice E ss.length g, .bool q2, .slice F ts.length h] := L3.to
  have i0 : RatV ((((w5.setCell ⟨w.heap.size, 0, none⟩ (.bool b0)).setCell ⟨w.heap.size, 1, none⟩ (.slice A0 m0 c0)).setCell ⟨w.heap.size, 2, none⟩ (.bool b0')).setCell ⟨w.heap.size, 3, none⟩ (.slice A0' m0' c0')) (fun _ => False) (.agg #[.bool b0, .slice A0 m0 c0, .bool b0', .slice A0' m0' c0']) x := h0.to
  have i2 : RatL 4 ((((w5.setCell ⟨w.heap.size, 0, none⟩ (.bool b0)).setCell ⟨w.heap.size, 1, none⟩ (.slice A0 m0 c0)).setCell ⟨w.heap.size, 2, none⟩ (.bool b0')).setCell ⟨w.heap.size, 3, none⟩ (.slice A0' m0' c0')) (fun _ => False) (.agg #[.bool o1, .slice C us.length p, .bool o2, .slice D vs.length f]) y := r2.to
  have i3 : RatL 4 ((((w5.setCell ⟨w.heap.size, 0, none⟩ (.bool b0)).setCell ⟨w.heap.size, 1, none⟩ (.slice A0 m0 c0)).setCell ⟨w.heap.size, 2, none⟩ (.bool b0')).setCell ⟨w.heap.size, 3, none⟩ (.slice A0' m0' c0')) (fun _ => False) (.agg #[.bool q1, .slice E ss.length g, .bool q2, .slice F ts.length h]) z := r3.to
  have hB6 : Below w.heap.size w ((((w5.setCell ⟨w.heap.size, 0, none⟩ (.bool b0)).setCell ⟨w.heap.size, 1, none⟩ (.slice A0 m0 c0)).setCell ⟨w.heap.size, 2, none⟩ (.bool b0')).setCell ⟨w.heap.size, 3, none⟩ (.slice A0' m0' c0')) := bel
  clear r1 r2 r3 L1 L2 L3 h0 hb1 hb2 hb3 hb4 hb5
  go_wp2_with fail
  clear e1 f1
  generalize ((((w5.setCell ⟨w.heap.size, 0, none⟩ (.bool b0)).setCell ⟨w.heap.size, 1, none⟩ (.slice A0 m0 c0)).setCell ⟨w.heap.size, 2, none⟩ (.bool b0')).setCell ⟨w.heap.size, 3, none⟩ (.slice A0' m0' c0')) = w6 at *
  have y6 := hB6.size; (try simp only [World.size_alloc, size_set, size_drew, size_drewN] at y6)
  have L1 := N1
  have L2 := N2
  have L3 := N3
  have r2 := i2
  have r3 := i3
  have r1 : RatL 4 w6 (fun _ => False) _ x := i0.len HX.out
  clear N1 N2 N3 i2 i3
  go_region_held3 (fun W => ((W.cell? ⟨w.heap.size, 0, none⟩ = some (.bool b0) ∧ W.cell? ⟨w.heap.size, 1, none⟩ = some (.slice A0 m0 c0)) ∧ W.cell? ⟨w.heap.size, 2, none⟩ = some (.bool b0') ∧ W.cell? ⟨w.heap.size, 3, none⟩ = some (.slice A0' m0' c0')) ∧ ((W.cell? ⟨w.heap.size + 1, 0, none⟩ = some (.bool o1) ∧ W.cell? ⟨w.heap.size + 1, 1, none⟩ = some (.slice C us.length p)) ∧ W.cell? ⟨w.heap.size + 1, 2, none⟩ = some (.bool o2) ∧ W.cell? ⟨w.heap.size + 1, 3, none⟩ = some (.slice D vs.length f)))
    (exact ⟨⟨⟨Loc.c 0 L1, Loc.c 1 L1⟩, Loc.c 2 L1, Loc.c 3 L1⟩, ⟨⟨Loc.c 0 L2, Loc.c 1 L2⟩, Loc.c 2 L2, Loc.c 3 L2⟩⟩)
    (first
      | (go_at_call_of 34 (#[Value.agg #[Value.bool b0, Value.slice A0 m0 c0, Value.bool b0', Value.slice A0' m0' c0'], Value.agg #[Value.bool o1, Value.slice C us.length p, Value.bool o2, Value.slice D vs.length f]]); refine (add_rat _ (fun _ => False) _ _ (x) (y) (r1.mono (by omega)).to (r2.mono (by omega)).to).mono ?_; rintro e t1 ⟨v11, rfl, h11, hb11⟩; obtain ⟨b11, A11, m11, c11, b11', A11', m11', c11', rfl, h11, -, -⟩ := h11.op; have y11 := hb11.size; (try simp only [World.size_alloc, size_set, size_drew, size_drewN] at y11))
      | (go_at_call_of 34 (#[Value.agg #[Value.bool o1, Value.slice C us.length p, Value.bool o2, Value.slice D vs.length f], Value.agg #[Value.bool b0, Value.slice A0 m0 c0, Value.bool b0', Value.slice A0' m0' c0']]); refine (add_rat _ (fun _ => False) _ _ (y) (x) (r2.mono (by omega)).to (r1.mono (by omega)).to).mono ?_; rintro e t2 ⟨v12, rfl, h12, hb12⟩; obtain ⟨b12, A12, m12, c12, b12', A12', m12', c12', rfl, h12, -, -⟩ := h12.op; have y12 := hb12.size; (try simp only [World.size_alloc, size_set, size_drew, size_drewN] at y12))
      | (go_at_call_of 17 (Value.slice A11 m11 c11); refine (rsame_VV _ (fun _ => False) (fun _ => False) _ _ _ _ (RatV.to h11) (RatV.to h12) E1.out).mono ?_; rintro e s13 ⟨rfl, hb13⟩; have y13 := hb13.size; (try simp only [World.size_alloc, size_set, size_drew, size_drewN] at y13))
      | (go_at_call_of 43 (#[Value.agg #[Value.bool b0, Value.slice A0 m0 c0, Value.bool b0', Value.slice A0' m0' c0'], Value.agg #[Value.bool o1, Value.slice C us.length p, Value.bool o2, Value.slice D vs.length f]]); refine (mul_rat _ (fun _ => False) _ _ (x) (y) (r1.mono (by omega)).to (r2.mono (by omega)).to).mono ?_; rintro e t4 ⟨v14, rfl, h14, hb14⟩; obtain ⟨b14, A14, m14, c14, b14', A14', m14', c14', rfl, h14, -, -⟩ := h14.op; have y14 := hb14.size; (try simp only [World.size_alloc, size_set, size_drew, size_drewN] at y14))
      | (go_at_call_of 43 (#[Value.agg #[Value.bool o1, Value.slice C us.length p, Value.bool o2, Value.slice D vs.length f], Value.agg #[Value.bool b0, Value.slice A0 m0 c0, Value.bool b0', Value.slice A0' m0' c0']]); refine (mul_rat _ (fun _ => False) _ _ (y) (x) (r2.mono (by omega)).to (r1.mono (by omega)).to).mono ?_; rintro e t5 ⟨v15, rfl, h15, hb15⟩; obtain ⟨b15, A15, m15, c15, b15', A15', m15', c15', rfl, h15, -, -⟩ := h15.op; have y15 := hb15.size; (try simp only [World.size_alloc, size_set, size_drew, size_drewN] at y15))
      | (go_at_call_of 17 (Value.slice A14 m14 c14); refine (rsame_VV _ (fun _ => False) (fun _ => False) _ _ _ _ (RatV.to h14) (RatV.to h15) E2.out).mono ?_; rintro e s16 ⟨rfl, hb16⟩; have y16 := hb16.size; (try simp only [World.size_alloc, size_set, size_drew, size_drewN] at y16)))
  all_goals
    have N1 : Loc s16 _ _ _ := Loc.to L1
    have N2 : Loc s16 _ _ _ := Loc.to L2
    have N3 : Loc s16 _ _ _ := Loc.to L3
    have j0 : RatV s16 (fun _ => False) _ x := RatV.to i0
    have j1 : RatL 4 s16 (fun _ => False) _ x := RatL.to r1
    have j2 : RatL 4 s16 (fun _ => False) _ y := RatL.to r2
    have j3 : RatL 4 s16 (fun _ => False) _ z := RatL.to r3
    have hB7 : Below w.heap.size w s16 := bel
    have y17 := hB7.size; (try simp only [World.size_alloc, size_set, size_drew, size_drewN] at y17)
    clear L1 L2 L3 i0 r1 r2 r3 hB6 h11 h12 h14 h15 hb11 hb12 hb13 hb14 hb15 hb16
    go_wp2_with fail
    go_region_held3 (fun W => ((W.cell? ⟨w.heap.size, 0, none⟩ = some (.bool b0) ∧ W.cell? ⟨w.heap.size, 1, none⟩ = some (.slice A0 m0 c0)) ∧ W.cell? ⟨w.heap.size, 2, none⟩ = some (.bool b0') ∧ W.cell? ⟨w.heap.size, 3, none⟩ = some (.slice A0' m0' c0')) ∧ ((W.cell? ⟨w.heap.size + 1, 0, none⟩ = some (.bool o1) ∧ W.cell? ⟨w.heap.size + 1, 1, none⟩ = some (.slice C us.length p)) ∧ W.cell? ⟨w.heap.size + 1, 2, none⟩ = some (.bool o2) ∧ W.cell? ⟨w.heap.size + 1, 3, none⟩ = some (.slice D vs.length f)) ∧ ((W.cell? ⟨w.heap.size + 1 + 1, 0, none⟩ = some (.bool q1) ∧ W.cell? ⟨w.heap.size + 1 + 1, 1, none⟩ = some (.slice E ss.length g)) ∧ W.cell? ⟨w.heap.size + 1 + 1, 2, none⟩ = some (.bool q2) ∧ W.cell? ⟨w.heap.size + 1 + 1, 3, none⟩ = some (.slice F ts.length h)))
      (exact ⟨⟨⟨Loc.c 0 N1, Loc.c 1 N1⟩, Loc.c 2 N1, Loc.c 3 N1⟩, ⟨⟨Loc.c 0 N2, Loc.c 1 N2⟩, Loc.c 2 N2, Loc.c 3 N2⟩, ⟨⟨Loc.c 0 N3, Loc.c 1 N3⟩, Loc.c 2 N3, Loc.c 3 N3⟩⟩)
      (first
      | (go_at_call_of 34 (#[Value.agg #[Value.bool b0, Value.slice A0 m0 c0, Value.bool b0', Value.slice A0' m0' c0'], Value.agg #[Value.bool o1, Value.slice C us.length p, Value.bool o2, Value.slice D vs.length f]]); refine (add_rat _ (fun _ => False) _ _ (x) (y) (j1.mono (by omega)).to (j2.mono (by omega)).to).mono ?_; rintro e t1 ⟨v21, rfl, h21, hb21⟩; obtain ⟨b21, A21, m21, c21, b21', A21', m21', c21', rfl, h21, -, -⟩ := h21.op; have y21 := hb21.size; (try simp only [World.size_alloc, size_set, size_drew, size_drewN] at y21))
      | (go_at_call_of 34 (#[Value.agg #[Value.bool b21, Value.slice A21 m21 c21, Value.bool b21', Value.slice A21' m21' c21'], Value.agg #[Value.bool q1, Value.slice E ss.length g, Value.bool q2, Value.slice F ts.length h]]); refine (add_rat _ (fun _ => False) _ _ (x + y) (z) (RatL.to ((h21.len ((HX.out.add HY.out).mono (show _ ≤ 9 by omega))).mono (by omega))) (j3.mono (by omega)).to).mono ?_; rintro e t2 ⟨v22, rfl, h22, hb22⟩; obtain ⟨b22, A22, m22, c22, b22', A22', m22', c22', rfl, h22, -, -⟩ := h22.op; have y22 := hb22.size; (try simp only [World.size_alloc, size_set, size_drew, size_drewN] at y22))
      | (go_at_call_of 34 (#[Value.agg #[Value.bool o1, Value.slice C us.length p, Value.bool o2, Value.slice D vs.length f], Value.agg #[Value.bool q1, Value.slice E ss.length g, Value.bool q2, Value.slice F ts.length h]]); refine (add_rat _ (fun _ => False) _ _ (y) (z) (j2.mono (by omega)).to (j3.mono (by omega)).to).mono ?_; rintro e t3 ⟨v23, rfl, h23, hb23⟩; obtain ⟨b23, A23, m23, c23, b23', A23', m23', c23', rfl, h23, -, -⟩ := h23.op; have y23 := hb23.size; (try simp only [World.size_alloc, size_set, size_drew, size_drewN] at y23))
      | (go_at_call_of 34 (#[Value.agg #[Value.bool b0, Value.slice A0 m0 c0, Value.bool b0', Value.slice A0' m0' c0'], Value.agg #[Value.bool b23, Value.slice A23 m23 c23, Value.bool b23', Value.slice A23' m23' c23']]); refine (add_rat _ (fun _ => False) _ _ (x) (y + z) (j1.mono (by omega)).to (RatL.to ((h23.len ((HY.out.add HZ.out).mono (show _ ≤ 9 by omega))).mono (by omega)))).mono ?_; rintro e t4 ⟨v24, rfl, h24, hb24⟩; obtain ⟨b24, A24, m24, c24, b24', A24', m24', c24', rfl, h24, -, -⟩ := h24.op; have y24 := hb24.size; (try simp only [World.size_alloc, size_set, size_drew, size_drewN] at y24))
      | (go_at_call_of 17 (Value.slice A22 m22 c22); refine (rsame_VV _ (fun _ => False) (fun _ => False) _ _ _ _ (RatV.to h22) (RatV.to h24) E3.out).mono ?_; rintro e s25 ⟨rfl, hb25⟩; have y25 := hb25.size; (try simp only [World.size_alloc, size_set, size_drew, size_drewN] at y25))
      | (go_at_call_of 43 (#[Value.agg #[Value.bool b0, Value.slice A0 m0 c0, Value.bool b0', Value.slice A0' m0' c0'], Value.agg #[Value.bool o1, Value.slice C us.length p, Value.bool o2, Value.slice D vs.length f]]); refine (mul_rat _ (fun _ => False) _ _ (x) (y) (j1.mono (by omega)).to (j2.mono (by omega)).to).mono ?_; rintro e t6 ⟨v26, rfl, h26, hb26⟩; obtain ⟨b26, A26, m26, c26, b26', A26', m26', c26', rfl, h26, -, -⟩ := h26.op; have y26 := hb26.size; (try simp only [World.size_alloc, size_set, size_drew, size_drewN] at y26))
      | (go_at_call_of 43 (#[Value.agg #[Value.bool b26, Value.slice A26 m26 c26, Value.bool b26', Value.slice A26' m26' c26'], Value.agg #[Value.bool q1, Value.slice E ss.length g, Value.bool q2, Value.slice F ts.length h]]); refine (mul_rat _ (fun _ => False) _ _ (x * y) (z) (RatL.to ((h26.len ((HX.out.mul HY.out))).mono (by omega))) (j3.mono (by omega)).to).mono ?_; rintro e t7 ⟨v27, rfl, h27, hb27⟩; obtain ⟨b27, A27, m27, c27, b27', A27', m27', c27', rfl, h27, -, -⟩ := h27.op; have y27 := hb27.size; (try simp only [World.size_alloc, size_set, size_drew, size_drewN] at y27))
      | (go_at_call_of 43 (#[Value.agg #[Value.bool o1, Value.slice C us.length p, Value.bool o2, Value.slice D vs.length f], Value.agg #[Value.bool q1, Value.slice E ss.length g, Value.bool q2, Value.slice F ts.length h]]); refine (mul_rat _ (fun _ => False) _ _ (y) (z) (j2.mono (by omega)).to (j3.mono (by omega)).to).mono ?_; rintro e t8 ⟨v28, rfl, h28, hb28⟩; obtain ⟨b28, A28, m28, c28, b28', A28', m28', c28', rfl, h28, -, -⟩ := h28.op; have y28 := hb28.size; (try simp only [World.size_alloc, size_set, size_drew, size_drewN] at y28))
      | (go_at_call_of 43 (#[Value.agg #[Value.bool b0, Value.slice A0 m0 c0, Value.bool b0', Value.slice A0' m0' c0'], Value.agg #[Value.bool b28, Value.slice A28 m28 c28, Value.bool b28', Value.slice A28' m28' c28']]); refine (mul_rat _ (fun _ => False) _ _ (x) (y * z) (j1.mono (by omega)).to (RatL.to ((h28.len ((HY.out.mul HZ.out))).mono (by omega)))).mono ?_; rintro e t9 ⟨v29, rfl, h29, hb29⟩; obtain ⟨b29, A29, m29, c29, b29', A29', m29', c29', rfl, h29, -, -⟩ := h29.op; have y29 := hb29.size; (try simp only [World.size_alloc, size_set, size_drew, size_drewN] at y29))
      | (go_at_call_of 17 (Value.slice A27 m27 c27); refine (rsame_VV _ (fun _ => False) (fun _ => False) _ _ _ _ (RatV.to h27) (RatV.to h29) E4.out).mono ?_; rintro e s30 ⟨rfl, hb30⟩; have y30 := hb30.size; (try simp only [World.size_alloc, size_set, size_drew, size_drewN] at y30)))
    all_goals
      have L1 : Loc s30 _ _ _ := Loc.to N1
      have L2 : Loc s30 _ _ _ := Loc.to N2
      have L3 : Loc s30 _ _ _ := Loc.to N3
      have i0 : RatV s30 (fun _ => False) _ x := RatV.to j0
      have r1 : RatL 4 s30 (fun _ => False) _ x := RatL.to j1
      have r2 : RatL 4 s30 (fun _ => False) _ y := RatL.to j2
      have r3 : RatL 4 s30 (fun _ => False) _ z := RatL.to j3
      have hB8 : Below w.heap.size w s30 := bel
      have y31 := hB8.size; (try simp only [World.size_alloc, size_set, size_drew, size_drewN] at y31)
      clear N1 N2 N3 j0 j1 j2 j3 hB7 h21 h22 h23 h24 h26 h27 h28 h29 hb21 hb22 hb23 hb24 hb25 hb26 hb27 hb28 hb29 hb30
      go_wp2_with fail
      go_region_held3 (fun W => ((W.cell? ⟨w.heap.size, 0, none⟩ = some (.bool b0) ∧ W.cell? ⟨w.heap.size, 1, none⟩ = some (.slice A0 m0 c0)) ∧ W.cell? ⟨w.heap.size, 2, none⟩ = some (.bool b0') ∧ W.cell? ⟨w.heap.size, 3, none⟩ = some (.slice A0' m0' c0')) ∧ ((W.cell? ⟨w.heap.size + 1, 0, none⟩ = some (.bool o1) ∧ W.cell? ⟨w.heap.size + 1, 1, none⟩ = some (.slice C us.length p)) ∧ W.cell? ⟨w.heap.size + 1, 2, none⟩ = some (.bool o2) ∧ W.cell? ⟨w.heap.size + 1, 3, none⟩ = some (.slice D vs.length f)) ∧ ((W.cell? ⟨w.heap.size + 1 + 1, 0, none⟩ = some (.bool q1) ∧ W.cell? ⟨w.heap.size + 1 + 1, 1, none⟩ = some (.slice E ss.length g)) ∧ W.cell? ⟨w.heap.size + 1 + 1, 2, none⟩ = some (.bool q2) ∧ W.cell? ⟨w.heap.size + 1 + 1, 3, none⟩ = some (.slice F ts.length h)))
        (exact ⟨⟨⟨Loc.c 0 L1, Loc.c 1 L1⟩, Loc.c 2 L1, Loc.c 3 L1⟩, ⟨⟨Loc.c 0 L2, Loc.c 1 L2⟩, Loc.c 2 L2, Loc.c 3 L2⟩, ⟨⟨Loc.c 0 L3, Loc.c 1 L3⟩, Loc.c 2 L3, Loc.c 3 L3⟩⟩)
        (first
      | (go_at_call_of 34 (#[Value.agg #[Value.bool o1, Value.slice C us.length p, Value.bool o2, Value.slice D vs.length f], Value.agg #[Value.bool q1, Value.slice E ss.length g, Value.bool q2, Value.slice F ts.length h]]); refine (add_rat _ (fun _ => False) _ _ (y) (z) (r2.mono (by omega)).to (r3.mono (by omega)).to).mono ?_; rintro e t1 ⟨v41, rfl, h41, hb41⟩; obtain ⟨b41, A41, m41, c41, b41', A41', m41', c41', rfl, h41, -, -⟩ := h41.op; have y41 := hb41.size; (try simp only [World.size_alloc, size_set, size_drew, size_drewN] at y41))
      | (go_at_call_of 43 (#[Value.agg #[Value.bool b0, Value.slice A0 m0 c0, Value.bool b0', Value.slice A0' m0' c0'], Value.agg #[Value.bool b41, Value.slice A41 m41 c41, Value.bool b41', Value.slice A41' m41' c41']]); refine (mul_rat _ (fun _ => False) _ _ (x) (y + z) (r1.mono (by omega)).to (RatL.to ((h41.len ((HY.out.add HZ.out).mono (show _ ≤ 9 by omega))).mono (by omega)))).mono ?_; rintro e t2 ⟨v42, rfl, h42, hb42⟩; obtain ⟨b42, A42, m42, c42, b42', A42', m42', c42', rfl, h42, -, -⟩ := h42.op; have y42 := hb42.size; (try simp only [World.size_alloc, size_set, size_drew, size_drewN] at y42))
      | (go_at_call_of 43 (#[Value.agg #[Value.bool b0, Value.slice A0 m0 c0, Value.bool b0', Value.slice A0' m0' c0'], Value.agg #[Value.bool o1, Value.slice C us.length p, Value.bool o2, Value.slice D vs.length f]]); refine (mul_rat _ (fun _ => False) _ _ (x) (y) (r1.mono (by omega)).to (r2.mono (by omega)).to).mono ?_; rintro e t3 ⟨v43, rfl, h43, hb43⟩; obtain ⟨b43, A43, m43, c43, b43', A43', m43', c43', rfl, h43, -, -⟩ := h43.op; have y43 := hb43.size; (try simp only [World.size_alloc, size_set, size_drew, size_drewN] at y43))
      | (go_at_call_of 43 (#[Value.agg #[Value.bool b0, Value.slice A0 m0 c0, Value.bool b0', Value.slice A0' m0' c0'], Value.agg #[Value.bool q1, Value.slice E ss.length g, Value.bool q2, Value.slice F ts.length h]]); refine (mul_rat _ (fun _ => False) _ _ (x) (z) (r1.mono (by omega)).to (r3.mono (by omega)).to).mono ?_; rintro e t4 ⟨v44, rfl, h44, hb44⟩; obtain ⟨b44, A44, m44, c44, b44', A44', m44', c44', rfl, h44, -, -⟩ := h44.op; have y44 := hb44.size; (try simp only [World.size_alloc, size_set, size_drew, size_drewN] at y44))
      | (go_at_call_of 34 (#[Value.agg #[Value.bool b43, Value.slice A43 m43 c43, Value.bool b43', Value.slice A43' m43' c43'], Value.agg #[Value.bool b44, Value.slice A44 m44 c44, Value.bool b44', Value.slice A44' m44' c44']]); refine (add_rat _ (fun _ => False) _ _ (x * y) (x * z) (RatL.to ((h43.len ((HX.out.mul HY.out))).mono (by omega))) (RatL.to ((h44.len ((HX.out.mul HZ.out))).mono (by omega)))).mono ?_; rintro e t5 ⟨v45, rfl, h45, hb45⟩; obtain ⟨b45, A45, m45, c45, b45', A45', m45', c45', rfl, h45, -, -⟩ := h45.op; have y45 := hb45.size; (try simp only [World.size_alloc, size_set, size_drew, size_drewN] at y45))
      | (go_at_call_of 17 (Value.slice A42 m42 c42); refine (rsame_VV _ (fun _ => False) (fun _ => False) _ _ _ _ (RatV.to h42) (RatV.to h45) E5.out).mono ?_; rintro e s46 ⟨rfl, hb46⟩; have y46 := hb46.size; (try simp only [World.size_alloc, size_set, size_drew, size_drewN] at y46))
      | (go_at_call_of 34 (#[Value.agg #[Value.bool b0, Value.slice A0 m0 c0, Value.bool b0', Value.slice A0' m0' c0'], Value.agg #[Value.bool o1, Value.slice C us.length p, Value.bool o2, Value.slice D vs.length f]]); refine (add_rat _ (fun _ => False) _ _ (x) (y) (r1.mono (by omega)).to (r2.mono (by omega)).to).mono ?_; rintro e t7 ⟨v47, rfl, h47, hb47⟩; obtain ⟨b47, A47, m47, c47, b47', A47', m47', c47', rfl, h47, -, -⟩ := h47.op; have y47 := hb47.size; (try simp only [World.size_alloc, size_set, size_drew, size_drewN] at y47))
      | (go_at_call_of 33 (#[Value.agg #[Value.bool b47, Value.slice A47 m47 c47, Value.bool b47', Value.slice A47' m47' c47'], Value.agg #[Value.bool o1, Value.slice C us.length p, Value.bool o2, Value.slice D vs.length f]]); refine (sub_rat _ (fun _ => False) _ _ (x + y) (y) (RatL.to ((h47.len ((HX.out.add HY.out).mono (show _ ≤ 9 by omega))).mono (by omega))) (r2.mono (by omega)).to).mono ?_; rintro e t8 ⟨v48, rfl, h48, hb48⟩; obtain ⟨b48, A48, m48, c48, b48', A48', m48', c48', rfl, h48, -, -⟩ := h48.op; have y48 := hb48.size; (try simp only [World.size_alloc, size_set, size_drew, size_drewN] at y48))
      | (go_at_call_of 17 (Value.slice A48 m48 c48); refine (rsame_VV _ (fun _ => False) (fun _ => False) _ _ _ _ (RatV.to h48) (RatV.to i0) E6.out).mono ?_; rintro e s49 ⟨rfl, hb49⟩; have y49 := hb49.size; (try simp only [World.size_alloc, size_set, size_drew, size_drewN] at y49)))
      all_goals
        have N1 : Loc s49 _ _ _ := Loc.to L1
        have N2 : Loc s49 _ _ _ := Loc.to L2
        have j0 : RatV s49 (fun _ => False) _ x := RatV.to i0
        have j1 : RatL 4 s49 (fun _ => False) _ x := RatL.to r1
        have j2 : RatL 4 s49 (fun _ => False) _ y := RatL.to r2
        have hB9 : Below w.heap.size w s49 := bel
        have y50 := hB9.size; (try simp only [World.size_alloc, size_set, size_drew, size_drewN] at y50)
        clear L1 L2 L3 i0 r1 r2 r3 hB8 h41 h42 h43 h44 h45 h47 h48 hb41 hb42 hb43 hb44 hb45 hb46 hb47 hb48 hb49
        obtain ⟨e1, f1, l1⟩ := Loc.all N1 (w' := s49)
        obtain ⟨e2, f2, l2⟩ := Loc.all N2 (w' := s49)
        by_cases hy0 : y = 0
        · have hs0 : sg = 0 := by rw [← HSG.out, hy0]; rfl
          subst hs0
          go_wp2_with fail
          refine (ratdivide_zero _ (fun _ => False) _ _ x y (j1.mono (by omega)).to (j2.mono (by omega)).to hy0).mono ?_
          rintro e t51 ⟨rfl, hb51⟩
          have y51 := hb51.size; (try simp only [World.size_alloc, size_set, size_drew, size_drewN] at y51)
          clear e1 f1 e2 f2
          obtain ⟨e2, f2, l2⟩ := Loc.all N2 (w' := t51)
          go_wp2_with fail
          refine (sign_rat _ (fun _ => False) 4 _ y j2.to).mono ?_
          rintro e t52 ⟨he, hb52⟩
          rw [HSG.out] at he
          subst he
          have y52 := hb52.size; (try simp only [World.size_alloc, size_set, size_drew, size_drewN] at y52)
          go_wp2_with fail
          go_ret
          exact ⟨rfl, bel⟩
        · have hsb : (sg == 0) = false := by rw [← HSG.out, zero_num_sign, decide_eq_false hy0]
          have HY0 := Lib.hid hy0
          clear hy0
          go_wp2_with fail
          refine (ratdivide_any _ (fun _ => False) _ _ x y (j1.mono (by omega)).to (j2.mono (by omega)).to HY0.out).mono ?_
          rintro e t51 ⟨v51, rfl, h51, hb51⟩
          obtain ⟨b51, A51, m51, c51, b51', A51', m51', c51', rfl, h51, -, -⟩ := h51.op
          have y51 := hb51.size; (try simp only [World.size_alloc, size_set, size_drew, size_drewN] at y51)
          clear e1 f1 e2 f2
          obtain ⟨e2, f2, l2⟩ := Loc.all N2 (w' := t51)
          have N4 := made1 t51 #[.bool b51, .slice A51 m51 c51, .bool b51', .slice A51' m51' c51'] 27
          go_wp2_with fail
          refine (sign_rat _ (fun _ => False) 4 _ y j2.to).mono ?_
          rintro e t52 ⟨he, hb52⟩
          rw [HSG.out] at he
          subst he
          have y52 := hb52.size; (try simp only [World.size_alloc, size_set, size_drew, size_drewN] at y52)
          clear e2 f2
          go_wp2_with fail
          go_region_held3 (fun W => ((W.cell? ⟨w.heap.size, 0, none⟩ = some (.bool b0) ∧ W.cell? ⟨w.heap.size, 1, none⟩ = some (.slice A0 m0 c0)) ∧ W.cell? ⟨w.heap.size, 2, none⟩ = some (.bool b0') ∧ W.cell? ⟨w.heap.size, 3, none⟩ = some (.slice A0' m0' c0')) ∧ ((W.cell? ⟨w.heap.size + 1, 0, none⟩ = some (.bool o1) ∧ W.cell? ⟨w.heap.size + 1, 1, none⟩ = some (.slice C us.length p)) ∧ W.cell? ⟨w.heap.size + 1, 2, none⟩ = some (.bool o2) ∧ W.cell? ⟨w.heap.size + 1, 3, none⟩ = some (.slice D vs.length f)) ∧ ((W.cell? ⟨t51.heap.size, 0, none⟩ = some (.bool b51) ∧ W.cell? ⟨t51.heap.size, 1, none⟩ = some (.slice A51 m51 c51)) ∧ W.cell? ⟨t51.heap.size, 2, none⟩ = some (.bool b51') ∧ W.cell? ⟨t51.heap.size, 3, none⟩ = some (.slice A51' m51' c51')))
            (exact ⟨⟨⟨Loc.c 0 N1, Loc.c 1 N1⟩, Loc.c 2 N1, Loc.c 3 N1⟩, ⟨⟨Loc.c 0 N2, Loc.c 1 N2⟩, Loc.c 2 N2, Loc.c 3 N2⟩, ⟨⟨Loc.c 0 N4, Loc.c 1 N4⟩, Loc.c 2 N4, Loc.c 3 N4⟩⟩)
            (first
      | (go_at_call_of 43 (#[Value.agg #[Value.bool b51, Value.slice A51 m51 c51, Value.bool b51', Value.slice A51' m51' c51'], Value.agg #[Value.bool o1, Value.slice C us.length p, Value.bool o2, Value.slice D vs.length f]]); refine (mul_rat _ (fun _ => False) _ _ (x / y) (y) (RatL.to ((h51.len ((HX.out.div HY.out))).mono (by omega))) (j2.mono (by omega)).to).mono ?_; rintro e t53 ⟨v53, rfl, h53, hb53⟩; obtain ⟨b53, A53, m53, c53, b53', A53', m53', c53', rfl, h53, -, -⟩ := h53.op; have y53 := hb53.size; (try simp only [World.size_alloc, size_set, size_drew, size_drewN] at y53))
      | (go_at_call_of 17 (Value.slice A53 m53 c53); refine (rsame_VV _ (fun _ => False) (fun _ => False) _ _ _ _ (RatV.to h53) (RatV.to j0) (E7.out HY0.out)).mono ?_; rintro e s54 ⟨rfl, hb54⟩; have y54 := hb54.size; (try simp only [World.size_alloc, size_set, size_drew, size_drewN] at y54)))
          all_goals
            go_wp2_with fail
            go_ret
            exact ⟨rfl, bel⟩
end Go.Proofs.Ytooheapikhdllaa

/- The statement 'RationalField' out of its walk. The frame is the guide's own (proof-skeleton), printed by lawgen.py. -/
namespace Go.Proofs.Ytooheapikhdllaa.rationalField
open Go.ChangeShapes Go.WideShapes Go.ChangeAt Go.RowKit Go.Proofs.Ytooheapikhdllaa
open Go.ChangeMaps (open_string shut_string)
set_option linter.unusedVariables false

set_option maxRecDepth 100000 in
theorem lifted (os : Os) (started : os.Started) (H : Type) (enc : TypeId × Value → H) :
    ReturnsInHanded {} Try.checked os 11 .any (Rows.rationalFieldSpec.pre6 enc Try.prog Try.f11 Rows.rationalFieldRow.domain false) (Rows.rationalFieldSpec.post enc Try.prog Try.f11 false true false false) := by
  refine returnsInHanded_of_change (C := Try.checked) own started (by kernel_rfl) Try.func11
    (ChangeSpec.witness6 (enc := enc) (C := Try.checked) false ⟨#[], #[.agg #[.bool false, .slice none 0 0, .bool false, .slice none 0 0], .agg #[.bool false, .slice none 0 0, .bool false, .slice none 0 0], .agg #[.bool false, .slice none 0 0, .bool false, .slice none 0 0]], []⟩ 8 (by kernel_rfl) (by kernel_rfl) (by kernel_rfl) (by kernel_rfl)) ?_
  intro W base args ds gs before hval0 hW hcnd _
  have hval : ∀ (j : Nat) t v, Try.f11.params[j]? = some t → args[j]? = some v → Value.okWide Try.prog W .any base t v := hval0
  have hW' := hW
  obtain ⟨p, q, hA0, hV, rfl, hfz, hnd⟩ := hW
  have hA : DataW.TrodAll enc Try.prog W 0 (fun _ => true) true Try.f11.params.toList args.toList ds p := hA0
  rw [Try.params11] at hA hval
  obtain ⟨v0, vs0, d0, ds0, p0, q0, hargs, rfl, rfl, h0, r0⟩ := trodAll_cons hA
  obtain ⟨v1, vs1, d1, ds1, p1, q1, rfl, rfl, rfl, h1, r1⟩ := trodAll_cons r0
  obtain ⟨v2, vs2, d2, ds2, p2, q2, rfl, rfl, rfl, h2, r2⟩ := trodAll_cons r1
  obtain ⟨rfl, rfl, rfl⟩ := trodAll_nil r2
  obtain rfl : args = #[v0, v1, v2] := by cases args; simp_all
  obtain ⟨rfl, rfl⟩ := trodVars_none hV
  have lt0 : ∀ x ∈ p0, x.block < W.heap.size := by obtain ⟨m, hm⟩ := h0; exact DataW.trod_lt m _ _ _ hm
  have k0 := fun (W' : World) (bel : Below W.heap.size W W') => Below.trod laidOut (by kernel_rfl) (of_decide_eq_true (by kernel_rfl)) h0 bel lt0
  obtain ⟨n0, x0, m0, y0, o0⟩ := open_Rat (hval 0 27 v0 rfl rfl) h0
  have lt1 : ∀ x ∈ p1, x.block < W.heap.size := by obtain ⟨m, hm⟩ := h1; exact DataW.trod_lt m _ _ _ hm
  have k1 := fun (W' : World) (bel : Below W.heap.size W W') => Below.trod laidOut (by kernel_rfl) (of_decide_eq_true (by kernel_rfl)) h1 bel lt1
  obtain ⟨n1, x1, m1, y1, o1⟩ := open_Rat (hval 1 27 v1 rfl rfl) h1
  have lt2 : ∀ x ∈ p2, x.block < W.heap.size := by obtain ⟨m, hm⟩ := h2; exact DataW.trod_lt m _ _ _ hm
  have k2 := fun (W' : World) (bel : Below W.heap.size W W') => Below.trod laidOut (by kernel_rfl) (of_decide_eq_true (by kernel_rfl)) h2 bel lt2
  obtain ⟨n2, x2, m2, y2, o2⟩ := open_Rat (hval 2 27 v2 rfl rfl) h2
  refine (field_walk W v0 v1 v2 n0 m0 n1 m1 n2 m2 x0 y0 x1 y1 x2 y2 o0 o1 o2).mono fun e W' ⟨he, bel⟩ => ?_
  subst he
  exact ⟨_, rfl, _, _, _, [], _, [], hW', trodAll_mk1 (shut_bool Try.underlying4 _), (trodAll_cons_mk (k0 _ bel) (trodAll_cons_mk (k1 _ bel) (trodAll_cons_mk (k2 _ bel) trodAll_mk0))), rfl, bel.frame _, fun h => by cases h⟩

theorem over : Rows.rationalFieldRow.holds Try.pinned (OpenSpec.ofChange Rows.rationalFieldSpec) :=
  OpenClaim.holds_of_wide 11 Try.f11 rfl rfl rfl rfl rfl rfl rfl ⟨rfl, rfl, rfl, rfl, rfl⟩ rfl rfl rfl rfl rfl (by kernel_rfl) Try.func11 (by kernel_rfl)
    (of_decide_eq_true (by kernel_rfl)) (by unfold Func.isWrapper; first | (rw [if_pos (by decide +kernel)]; kernel_rfl) | (rw [if_neg (by decide +kernel)]; exact ⟨rfl, rfl⟩))
    (fun os started H enc _ => lifted os started H enc)

/-- The statement: for every input the law returns true; each argument reads behind the call as it read before. -/
theorem proved : Rows.RationalFieldSaid := over
end Go.Proofs.Ytooheapikhdllaa.rationalField

