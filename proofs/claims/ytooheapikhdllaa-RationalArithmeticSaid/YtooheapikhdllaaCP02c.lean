/- For every input the law returns true: the law's walk, and the statement out of it. -/
import Derived.Test.YtooheapikhdllaaRows
import Derived.Test.YtooheapikhdllaaM7
set_option linter.unusedSimpArgs false
set_option linter.unusedVariables false

/- RationalArithmetic: the law's walk; printed by gen_law02c.py. -/
namespace Go.Proofs.Ytooheapikhdllaa
open Go.RowKit
attribute [local go_sem ↓] Go.wp_at_zero Go.wp_at_succ
attribute [local go_sem] beq_self_eq_true

set_option maxHeartbeats 16000000 in
theorem arith_walk (w : World) (v1 v2 : Value) (n1 n2 o1 o2 : Bool) (xs ys us vs : List Nat) (h1 : RatR w (fun _ => False) v1 n1 xs n2 ys) (h2 : RatR w (fun _ => False) v2 o1 us o2 vs) :
    Calls Try.prog 10 #[v1, v2] w fun e w' => e = .returned (.bool true) ∧ Below w.heap.size w w' := by
  have k1 := h1
  have k2 := h2
  obtain ⟨A, c, B, d, rfl, -, -⟩ := h1
  obtain ⟨C, p, D, f, rfl, -, -⟩ := h2
  have L1 := made1 w #[.bool n1, .slice A xs.length c, .bool n2, .slice B ys.length d] 27
  have L2 := made2 w (.cells #[.bool n1, .slice A xs.length c, .bool n2, .slice B ys.length d] 27) #[.bool o1, .slice C us.length p, .bool o2, .slice D vs.length f] 27
  go_enter Try.func10, Try.ntmps10
  go_wp2_with fail
  refine (rknown_any _).mono ?_
  rintro e w1 ⟨rfl, hb1⟩
  obtain ⟨z1, z2⟩ := sz2 hb1
  obtain ⟨e1, f1, l1⟩ := L1.all (w' := w1)
  go_wp2_with fail
  refine (few_any _ (fun _ => False) _ _ _ _ _ k1.to).mono ?_
  rintro e w2 ⟨he, hb2⟩
  have y2 := hb2.size; (try simp only [World.size_alloc, size_set, size_drew, size_drewN] at y2)
  clear e1 f1
  obtain ⟨e2, f2, l2⟩ := L2.all (w' := w2)
  by_cases hf1 : xs.length ≤ 4 ∧ ys.length ≤ 4
  · rw [decide_eq_true hf1] at he
    subst he
    have r1 := k1.few hf1
    clear hf1
    go_wp2_with fail
    refine (few_any _ (fun _ => False) _ _ _ _ _ k2.to).mono ?_
    rintro e w3 ⟨he, hb3⟩
    have y3 := hb3.size; (try simp only [World.size_alloc, size_set, size_drew, size_drewN] at y3)
    by_cases hf2 : us.length ≤ 4 ∧ vs.length ≤ 4
    · rw [decide_eq_true hf2] at he
      subst he
      have r2 := k2.few hf2
      clear hf2 e2 f2
      obtain ⟨x, hx⟩ : ∃ x, rv n1 xs n2 ys = x := ⟨_, rfl⟩
      obtain ⟨y, hy⟩ : ∃ y, rv o1 us o2 vs = y := ⟨_, rfl⟩
      rw [hx] at r1
      rw [hy] at r2
      clear hx hy k1 k2
      obtain ⟨sg, hsg⟩ : ∃ s, x.num.sign = s := ⟨_, rfl⟩
      have HS := Lib.hid hsg
      clear hsg
      obtain ⟨e1, f1, l1⟩ := L1.all (w' := w3)
      obtain ⟨e2, f2, l2⟩ := L2.all (w' := w3)
      by_cases hy0 : y = 0
      · go_wp2_with fail
        refine (ratdivide_zero _ (fun _ => False) _ _ x y (r1.mono (by omega)).to (r2.mono (by omega)).to hy0).mono ?_
        rintro e w4 ⟨rfl, hb20⟩
        have y20 := hb20.size; (try simp only [World.size_alloc, size_set, size_drew, size_drewN] at y20)
        clear e1 f1 e2 f2
        obtain ⟨e1, f1, l1⟩ := L1.all (w' := w4)
        obtain ⟨e2, f2, l2⟩ := L2.all (w' := w4)
        have M1 := made1 w4 #[.bool false, .slice none 0 0, .bool false, .slice none 0 0] 27
        go_wp2_with fail
        refine (rdivide_rat_zero _ (fun _ => False) _ _ x y (r1.mono (by omega)).to (r2.mono (by omega)).to hy0).mono ?_
        rintro e w5 ⟨rfl, hb21⟩
        have y21 := hb21.size; (try simp only [World.size_alloc, size_set, size_drew, size_drewN] at y21)
        clear e1 f1 e2 f2
        have M2 := made1 w5 #[.bool false, .slice none 0 0, .bool false, .slice none 0 0] 27
        have hq1 := Loc.lt L1
        go_wp2_with fail
        go_region_held3 (fun W => ((W.cell? ⟨w.heap.size, 0, none⟩ = some (.bool n1) ∧ W.cell? ⟨w.heap.size, 1, none⟩ = some (.slice A xs.length c)) ∧ W.cell? ⟨w.heap.size, 2, none⟩ = some (.bool n2) ∧ W.cell? ⟨w.heap.size, 3, none⟩ = some (.slice B ys.length d)) ∧ ((W.cell? ⟨w.heap.size + 1, 0, none⟩ = some (.bool o1) ∧ W.cell? ⟨w.heap.size + 1, 1, none⟩ = some (.slice C us.length p)) ∧ W.cell? ⟨w.heap.size + 1, 2, none⟩ = some (.bool o2) ∧ W.cell? ⟨w.heap.size + 1, 3, none⟩ = some (.slice D vs.length f)) ∧ ((W.cell? ⟨w4.heap.size, 0, none⟩ = some (.bool false) ∧ W.cell? ⟨w4.heap.size, 1, none⟩ = some (.slice none 0 0)) ∧ W.cell? ⟨w4.heap.size, 2, none⟩ = some (.bool false) ∧ W.cell? ⟨w4.heap.size, 3, none⟩ = some (.slice none 0 0)) ∧ ((W.cell? ⟨w5.heap.size, 0, none⟩ = some (.bool false) ∧ W.cell? ⟨w5.heap.size, 1, none⟩ = some (.slice none 0 0)) ∧ W.cell? ⟨w5.heap.size, 2, none⟩ = some (.bool false) ∧ W.cell? ⟨w5.heap.size, 3, none⟩ = some (.slice none 0 0)))
          (exact ⟨⟨⟨Loc.c 0 L1, Loc.c 1 L1⟩, Loc.c 2 L1, Loc.c 3 L1⟩, ⟨⟨Loc.c 0 L2, Loc.c 1 L2⟩, Loc.c 2 L2, Loc.c 3 L2⟩, ⟨⟨Loc.c 0 M1, Loc.c 1 M1⟩, Loc.c 2 M1, Loc.c 3 M1⟩, ⟨⟨Loc.c 0 M2, Loc.c 1 M2⟩, Loc.c 2 M2, Loc.c 3 M2⟩⟩)
          (first
            | (go_at_call 34; refine (add_rat _ (fun _ => False) _ _ x y (r1.mono (by omega)).to (r2.mono (by omega)).to).mono ?_; rintro e t1 ⟨v5, rfl, h5, hb5⟩; obtain ⟨b5, A5, m5, c5, b5', A5', m5', c5', rfl, h5, -, -⟩ := h5.op; have y5 := hb5.size; (try simp only [World.size_alloc, size_set, size_drew, size_drewN] at y5))
            | (go_at_call 39; refine (radd_rat _ (fun _ => False) _ _ x y (r1.mono (by omega)).to (r2.mono (by omega)).to).mono ?_; rintro e t2 ⟨v6, rfl, h6, hb6⟩; obtain ⟨b6, A6, m6, c6, b6', A6', m6', c6', rfl, h6, -, -⟩ := h6.op; have y6 := hb6.size; (try simp only [World.size_alloc, size_set, size_drew, size_drewN] at y6))
            | (go_at_call_of 17 (Value.slice A5 m5 c5); refine (rsame_VV _ (fun _ => False) (fun _ => False) _ _ _ _ (RatV.to h5) (RatV.to h6) rfl).mono ?_; rintro e t7 ⟨rfl, hb7⟩; have y7 := hb7.size; (try simp only [World.size_alloc, size_set, size_drew, size_drewN] at y7))
            | (go_at_call 33; refine (sub_rat _ (fun _ => False) _ _ x y (r1.mono (by omega)).to (r2.mono (by omega)).to).mono ?_; rintro e t4 ⟨v8, rfl, h8, hb8⟩; obtain ⟨b8, A8, m8, c8, b8', A8', m8', c8', rfl, h8, -, -⟩ := h8.op; have y8 := hb8.size; (try simp only [World.size_alloc, size_set, size_drew, size_drewN] at y8))
            | (go_at_call 42; refine (rsub_rat _ (fun _ => False) _ _ x y (r1.mono (by omega)).to (r2.mono (by omega)).to).mono ?_; rintro e t5 ⟨v9, rfl, h9, hb9⟩; obtain ⟨b9, A9, m9, c9, b9', A9', m9', c9', rfl, h9, -, -⟩ := h9.op; have y9 := hb9.size; (try simp only [World.size_alloc, size_set, size_drew, size_drewN] at y9))
            | (go_at_call_of 17 (Value.slice A8 m8 c8); refine (rsame_VV _ (fun _ => False) (fun _ => False) _ _ _ _ (RatV.to h8) (RatV.to h9) rfl).mono ?_; rintro e t10 ⟨rfl, hb10⟩; have y10 := hb10.size; (try simp only [World.size_alloc, size_set, size_drew, size_drewN] at y10))
            | (go_at_call 43; refine (mul_rat _ (fun _ => False) _ _ x y (r1.mono (by omega)).to (r2.mono (by omega)).to).mono ?_; rintro e t7 ⟨v11, rfl, h11, hb11⟩; obtain ⟨b11, A11, m11, c11, b11', A11', m11', c11', rfl, h11, -, -⟩ := h11.op; have y11 := hb11.size; (try simp only [World.size_alloc, size_set, size_drew, size_drewN] at y11))
            | (go_at_call 44; refine (rmul_rat _ (fun _ => False) _ _ x y (r1.mono (by omega)).to (r2.mono (by omega)).to).mono ?_; rintro e t8 ⟨v12, rfl, h12, hb12⟩; obtain ⟨b12, A12, m12, c12, b12', A12', m12', c12', rfl, h12, -, -⟩ := h12.op; have y12 := hb12.size; (try simp only [World.size_alloc, size_set, size_drew, size_drewN] at y12))
            | (go_at_call_of 17 (Value.slice A11 m11 c11); refine (rsame_VV _ (fun _ => False) (fun _ => False) _ _ _ _ (RatV.to h11) (RatV.to h12) rfl).mono ?_; rintro e t13 ⟨rfl, hb13⟩; have y13 := hb13.size; (try simp only [World.size_alloc, size_set, size_drew, size_drewN] at y13))
            | (go_at_call 45; refine (neg_rat _ (fun _ => False) _ x (r1.mono (by omega)).to).mono ?_; rintro e t10 ⟨v14, rfl, h14, hb14⟩; obtain ⟨b14, A14, m14, c14, b14', A14', m14', c14', rfl, h14, -, -⟩ := h14.op; have y14 := hb14.size; (try simp only [World.size_alloc, size_set, size_drew, size_drewN] at y14))
            | (go_at_call 46; refine (rneg_rat _ (fun _ => False) _ x (r1.mono (by omega)).to).mono ?_; rintro e t11 ⟨v15, rfl, h15, hb15⟩; obtain ⟨b15, A15, m15, c15, b15', A15', m15', c15', rfl, h15, -, -⟩ := h15.op; have y15 := hb15.size; (try simp only [World.size_alloc, size_set, size_drew, size_drewN] at y15))
            | (go_at_call_of 17 (Value.slice A14 m14 c14); refine (rsame_VV _ (fun _ => False) (fun _ => False) _ _ _ _ (RatV.to h14) (RatV.to h15) rfl).mono ?_; rintro e t17 ⟨rfl, hb17⟩; have y17 := hb17.size; (try simp only [World.size_alloc, size_set, size_drew, size_drewN] at y17))
            | (go_at_call 17; refine (rsame_zero _).mono ?_; rintro e t16 ⟨rfl, hb16⟩; have y16 := hb16.size; (try simp only [World.size_alloc, size_set, size_drew, size_drewN] at y16))
            | (go_at_call 32; refine (sign_rat _ (fun _ => False) 4 _ x r1.to).mono ?_; rintro e t18 ⟨he, hb18⟩; rw [HS.out] at he; subst he; have y18 := hb18.size; (try simp only [World.size_alloc, size_set, size_drew, size_drewN] at y18))
            | (go_at_call 47; refine (rsign_rat _ (fun _ => False) _ x (r1.mono (by omega)).to).mono ?_; rintro e t19 ⟨he, hb19⟩; rw [HS.out] at he; subst he; have y19 := hb19.size; (try simp only [World.size_alloc, size_set, size_drew, size_drewN] at y19)))
        all_goals
          go_wp2_with fail
          go_ret
          exact ⟨rfl, bel⟩
      · go_wp2_with fail
        refine (ratdivide_any _ (fun _ => False) _ _ x y (r1.mono (by omega)).to (r2.mono (by omega)).to hy0).mono ?_
        rintro e w4 ⟨v20, rfl, h20, hb20⟩
        obtain ⟨b20, A20, m20, c20, b20', A20', m20', c20', rfl, h20, -, -⟩ := h20.op
        have y20 := hb20.size; (try simp only [World.size_alloc, size_set, size_drew, size_drewN] at y20)
        clear e1 f1 e2 f2
        obtain ⟨e1, f1, l1⟩ := L1.all (w' := w4)
        obtain ⟨e2, f2, l2⟩ := L2.all (w' := w4)
        have M1 := made1 w4 #[.bool b20, .slice A20 m20 c20, .bool b20', .slice A20' m20' c20'] 27
        go_wp2_with fail
        refine (rdivide_rat_any _ (fun _ => False) _ _ x y (r1.mono (by omega)).to (r2.mono (by omega)).to hy0).mono ?_
        rintro e w5 ⟨v21, rfl, h21, hb21⟩
        obtain ⟨b21, A21, m21, c21, b21', A21', m21', c21', rfl, h21, -, -⟩ := h21.op
        have y21 := hb21.size; (try simp only [World.size_alloc, size_set, size_drew, size_drewN] at y21)
        clear e1 f1 e2 f2
        have M2 := made1 w5 #[.bool b21, .slice A21 m21 c21, .bool b21', .slice A21' m21' c21'] 27
        have hq1 := Loc.lt L1
        go_wp2_with fail
        go_region_held3 (fun W => ((W.cell? ⟨w.heap.size, 0, none⟩ = some (.bool n1) ∧ W.cell? ⟨w.heap.size, 1, none⟩ = some (.slice A xs.length c)) ∧ W.cell? ⟨w.heap.size, 2, none⟩ = some (.bool n2) ∧ W.cell? ⟨w.heap.size, 3, none⟩ = some (.slice B ys.length d)) ∧ ((W.cell? ⟨w.heap.size + 1, 0, none⟩ = some (.bool o1) ∧ W.cell? ⟨w.heap.size + 1, 1, none⟩ = some (.slice C us.length p)) ∧ W.cell? ⟨w.heap.size + 1, 2, none⟩ = some (.bool o2) ∧ W.cell? ⟨w.heap.size + 1, 3, none⟩ = some (.slice D vs.length f)) ∧ ((W.cell? ⟨w4.heap.size, 0, none⟩ = some (.bool b20) ∧ W.cell? ⟨w4.heap.size, 1, none⟩ = some (.slice A20 m20 c20)) ∧ W.cell? ⟨w4.heap.size, 2, none⟩ = some (.bool b20') ∧ W.cell? ⟨w4.heap.size, 3, none⟩ = some (.slice A20' m20' c20')) ∧ ((W.cell? ⟨w5.heap.size, 0, none⟩ = some (.bool b21) ∧ W.cell? ⟨w5.heap.size, 1, none⟩ = some (.slice A21 m21 c21)) ∧ W.cell? ⟨w5.heap.size, 2, none⟩ = some (.bool b21') ∧ W.cell? ⟨w5.heap.size, 3, none⟩ = some (.slice A21' m21' c21')))
          (exact ⟨⟨⟨Loc.c 0 L1, Loc.c 1 L1⟩, Loc.c 2 L1, Loc.c 3 L1⟩, ⟨⟨Loc.c 0 L2, Loc.c 1 L2⟩, Loc.c 2 L2, Loc.c 3 L2⟩, ⟨⟨Loc.c 0 M1, Loc.c 1 M1⟩, Loc.c 2 M1, Loc.c 3 M1⟩, ⟨⟨Loc.c 0 M2, Loc.c 1 M2⟩, Loc.c 2 M2, Loc.c 3 M2⟩⟩)
          (first
            | (go_at_call 34; refine (add_rat _ (fun _ => False) _ _ x y (r1.mono (by omega)).to (r2.mono (by omega)).to).mono ?_; rintro e t1 ⟨v5, rfl, h5, hb5⟩; obtain ⟨b5, A5, m5, c5, b5', A5', m5', c5', rfl, h5, -, -⟩ := h5.op; have y5 := hb5.size; (try simp only [World.size_alloc, size_set, size_drew, size_drewN] at y5))
            | (go_at_call 39; refine (radd_rat _ (fun _ => False) _ _ x y (r1.mono (by omega)).to (r2.mono (by omega)).to).mono ?_; rintro e t2 ⟨v6, rfl, h6, hb6⟩; obtain ⟨b6, A6, m6, c6, b6', A6', m6', c6', rfl, h6, -, -⟩ := h6.op; have y6 := hb6.size; (try simp only [World.size_alloc, size_set, size_drew, size_drewN] at y6))
            | (go_at_call_of 17 (Value.slice A5 m5 c5); refine (rsame_VV _ (fun _ => False) (fun _ => False) _ _ _ _ (RatV.to h5) (RatV.to h6) rfl).mono ?_; rintro e t7 ⟨rfl, hb7⟩; have y7 := hb7.size; (try simp only [World.size_alloc, size_set, size_drew, size_drewN] at y7))
            | (go_at_call 33; refine (sub_rat _ (fun _ => False) _ _ x y (r1.mono (by omega)).to (r2.mono (by omega)).to).mono ?_; rintro e t4 ⟨v8, rfl, h8, hb8⟩; obtain ⟨b8, A8, m8, c8, b8', A8', m8', c8', rfl, h8, -, -⟩ := h8.op; have y8 := hb8.size; (try simp only [World.size_alloc, size_set, size_drew, size_drewN] at y8))
            | (go_at_call 42; refine (rsub_rat _ (fun _ => False) _ _ x y (r1.mono (by omega)).to (r2.mono (by omega)).to).mono ?_; rintro e t5 ⟨v9, rfl, h9, hb9⟩; obtain ⟨b9, A9, m9, c9, b9', A9', m9', c9', rfl, h9, -, -⟩ := h9.op; have y9 := hb9.size; (try simp only [World.size_alloc, size_set, size_drew, size_drewN] at y9))
            | (go_at_call_of 17 (Value.slice A8 m8 c8); refine (rsame_VV _ (fun _ => False) (fun _ => False) _ _ _ _ (RatV.to h8) (RatV.to h9) rfl).mono ?_; rintro e t10 ⟨rfl, hb10⟩; have y10 := hb10.size; (try simp only [World.size_alloc, size_set, size_drew, size_drewN] at y10))
            | (go_at_call 43; refine (mul_rat _ (fun _ => False) _ _ x y (r1.mono (by omega)).to (r2.mono (by omega)).to).mono ?_; rintro e t7 ⟨v11, rfl, h11, hb11⟩; obtain ⟨b11, A11, m11, c11, b11', A11', m11', c11', rfl, h11, -, -⟩ := h11.op; have y11 := hb11.size; (try simp only [World.size_alloc, size_set, size_drew, size_drewN] at y11))
            | (go_at_call 44; refine (rmul_rat _ (fun _ => False) _ _ x y (r1.mono (by omega)).to (r2.mono (by omega)).to).mono ?_; rintro e t8 ⟨v12, rfl, h12, hb12⟩; obtain ⟨b12, A12, m12, c12, b12', A12', m12', c12', rfl, h12, -, -⟩ := h12.op; have y12 := hb12.size; (try simp only [World.size_alloc, size_set, size_drew, size_drewN] at y12))
            | (go_at_call_of 17 (Value.slice A11 m11 c11); refine (rsame_VV _ (fun _ => False) (fun _ => False) _ _ _ _ (RatV.to h11) (RatV.to h12) rfl).mono ?_; rintro e t13 ⟨rfl, hb13⟩; have y13 := hb13.size; (try simp only [World.size_alloc, size_set, size_drew, size_drewN] at y13))
            | (go_at_call 45; refine (neg_rat _ (fun _ => False) _ x (r1.mono (by omega)).to).mono ?_; rintro e t10 ⟨v14, rfl, h14, hb14⟩; obtain ⟨b14, A14, m14, c14, b14', A14', m14', c14', rfl, h14, -, -⟩ := h14.op; have y14 := hb14.size; (try simp only [World.size_alloc, size_set, size_drew, size_drewN] at y14))
            | (go_at_call 46; refine (rneg_rat _ (fun _ => False) _ x (r1.mono (by omega)).to).mono ?_; rintro e t11 ⟨v15, rfl, h15, hb15⟩; obtain ⟨b15, A15, m15, c15, b15', A15', m15', c15', rfl, h15, -, -⟩ := h15.op; have y15 := hb15.size; (try simp only [World.size_alloc, size_set, size_drew, size_drewN] at y15))
            | (go_at_call_of 17 (Value.slice A14 m14 c14); refine (rsame_VV _ (fun _ => False) (fun _ => False) _ _ _ _ (RatV.to h14) (RatV.to h15) rfl).mono ?_; rintro e t17 ⟨rfl, hb17⟩; have y17 := hb17.size; (try simp only [World.size_alloc, size_set, size_drew, size_drewN] at y17))
            | (go_at_call_of 17 (Value.slice A20 m20 c20); refine (rsame_VV _ (fun _ => False) (fun _ => False) _ _ _ _ (RatV.to h20) (RatV.to h21) rfl).mono ?_; rintro e t16 ⟨rfl, hb16⟩; have y16 := hb16.size; (try simp only [World.size_alloc, size_set, size_drew, size_drewN] at y16))
            | (go_at_call 32; refine (sign_rat _ (fun _ => False) 4 _ x r1.to).mono ?_; rintro e t18 ⟨he, hb18⟩; rw [HS.out] at he; subst he; have y18 := hb18.size; (try simp only [World.size_alloc, size_set, size_drew, size_drewN] at y18))
            | (go_at_call 47; refine (rsign_rat _ (fun _ => False) _ x (r1.mono (by omega)).to).mono ?_; rintro e t19 ⟨he, hb19⟩; rw [HS.out] at he; subst he; have y19 := hb19.size; (try simp only [World.size_alloc, size_set, size_drew, size_drewN] at y19)))
        all_goals
          go_wp2_with fail
          go_ret
          exact ⟨rfl, bel⟩
    · rw [decide_eq_false hf2] at he
      subst he
      go_wp2_with fail
      go_ret
      exact ⟨rfl, bel⟩
  · rw [decide_eq_false hf1] at he
    subst he
    go_wp2_with fail
    go_ret
    exact ⟨rfl, bel⟩
end Go.Proofs.Ytooheapikhdllaa

/- The statement 'RationalArithmetic' out of its walk. The frame is the guide's own (proof-skeleton), printed by lawgen.py. -/
namespace Go.Proofs.Ytooheapikhdllaa.rationalArithmetic
open Go.ChangeShapes Go.WideShapes Go.ChangeAt Go.RowKit Go.Proofs.Ytooheapikhdllaa
open Go.ChangeMaps (open_string shut_string)
set_option linter.unusedVariables false

set_option maxRecDepth 100000 in
theorem lifted (os : Os) (started : os.Started) (H : Type) (enc : TypeId × Value → H) :
    ReturnsInHanded {} Try.checked os 10 .any (Rows.rationalArithmeticSpec.pre6 enc Try.prog Try.f10 Rows.rationalArithmeticRow.domain false) (Rows.rationalArithmeticSpec.post enc Try.prog Try.f10 false true false false) := by
  refine returnsInHanded_of_change (C := Try.checked) own started (by kernel_rfl) Try.func10
    (ChangeSpec.witness6 (enc := enc) (C := Try.checked) false ⟨#[], #[.agg #[.bool false, .slice none 0 0, .bool false, .slice none 0 0], .agg #[.bool false, .slice none 0 0, .bool false, .slice none 0 0]], []⟩ 8 (by kernel_rfl) (by kernel_rfl) (by kernel_rfl) (by kernel_rfl)) ?_
  intro W base args ds gs before hval0 hW hcnd _
  have hval : ∀ (j : Nat) t v, Try.f10.params[j]? = some t → args[j]? = some v → Value.okWide Try.prog W .any base t v := hval0
  have hW' := hW
  obtain ⟨p, q, hA0, hV, rfl, hfz, hnd⟩ := hW
  have hA : DataW.TrodAll enc Try.prog W 0 (fun _ => true) true Try.f10.params.toList args.toList ds p := hA0
  rw [Try.params10] at hA hval
  obtain ⟨v0, vs0, d0, ds0, p0, q0, hargs, rfl, rfl, h0, r0⟩ := trodAll_cons hA
  obtain ⟨v1, vs1, d1, ds1, p1, q1, rfl, rfl, rfl, h1, r1⟩ := trodAll_cons r0
  obtain ⟨rfl, rfl, rfl⟩ := trodAll_nil r1
  obtain rfl : args = #[v0, v1] := by cases args; simp_all
  obtain ⟨rfl, rfl⟩ := trodVars_none hV
  have lt0 : ∀ x ∈ p0, x.block < W.heap.size := by obtain ⟨m, hm⟩ := h0; exact DataW.trod_lt m _ _ _ hm
  have k0 := fun (W' : World) (bel : Below W.heap.size W W') => Below.trod laidOut (by kernel_rfl) (of_decide_eq_true (by kernel_rfl)) h0 bel lt0
  obtain ⟨n0, x0, m0, y0, o0⟩ := open_Rat (hval 0 27 v0 rfl rfl) h0
  have lt1 : ∀ x ∈ p1, x.block < W.heap.size := by obtain ⟨m, hm⟩ := h1; exact DataW.trod_lt m _ _ _ hm
  have k1 := fun (W' : World) (bel : Below W.heap.size W W') => Below.trod laidOut (by kernel_rfl) (of_decide_eq_true (by kernel_rfl)) h1 bel lt1
  obtain ⟨n1, x1, m1, y1, o1⟩ := open_Rat (hval 1 27 v1 rfl rfl) h1
  refine (arith_walk W v0 v1 n0 m0 n1 m1 x0 y0 x1 y1 o0 o1).mono fun e W' ⟨he, bel⟩ => ?_
  subst he
  exact ⟨_, rfl, _, _, _, [], _, [], hW', trodAll_mk1 (shut_bool Try.underlying4 _), (trodAll_cons_mk (k0 _ bel) (trodAll_cons_mk (k1 _ bel) trodAll_mk0)), rfl, bel.frame _, fun h => by cases h⟩

theorem over : Rows.rationalArithmeticRow.holds Try.pinned (OpenSpec.ofChange Rows.rationalArithmeticSpec) :=
  OpenClaim.holds_of_wide 10 Try.f10 rfl rfl rfl rfl rfl rfl rfl ⟨rfl, rfl, rfl, rfl, rfl⟩ rfl rfl rfl rfl rfl (by kernel_rfl) Try.func10 (by kernel_rfl)
    (of_decide_eq_true (by kernel_rfl)) (by unfold Func.isWrapper; first | (rw [if_pos (by decide +kernel)]; kernel_rfl) | (rw [if_neg (by decide +kernel)]; exact ⟨rfl, rfl⟩))
    (fun os started H enc _ => lifted os started H enc)

/-- The statement: for every input the law returns true; each argument reads behind the call as it read before. -/
theorem proved : Rows.RationalArithmeticSaid := over
end Go.Proofs.Ytooheapikhdllaa.rationalArithmetic

