/- For every input the law returns true: the law's walk, and the statement out of it. -/
import Derived.Test.YtdambnieminnfaaGreatRows
import Derived.Test.YtdambnieminnfaaGreatW3
import Derived.Test.YtdambnieminnfaaGreatW20
import Derived.Test.YtdambnieminnfaaGreatW30
import Derived.Test.YtdambnieminnfaaGreatW44
import Derived.Test.YtdambnieminnfaaGreatW46
set_option linter.unusedSimpArgs false
set_option linter.unusedVariables false

/- RefinementOrder: the law's walk. Printed by gen40ord.py. -/
namespace Go.Proofs.YtdambnieminnfaaGreat
open Go.RowKit
attribute [local go_sem ↓] Go.wp_at_zero Go.wp_at_succ
attribute [local go_sem] beq_self_eq_true

set_option maxRecDepth 100000 in
set_option maxHeartbeats 32000000 in
theorem order_walk (w : World) (v1 v2 v3 : Value) (L1 L2 L3 : List (List Int)) (h1 : IMat w v1 L1) (h2 : IMat w v2 L2) (h3 : IMat w v3 L3) :
 Calls Tryz.prog 10 #[.agg #[v1], .agg #[v2], .agg #[v3]] w fun e w' => e = .returned (.bool true) ∧ Below w.heap.size w w' := by
 have H1 := Lib.hid h1
 have H2 := Lib.hid h2
 have H3 := Lib.hid h3
 obtain ⟨A1, c1, rfl, -, -, l1⟩ := h1.op
 obtain ⟨A2, c2, rfl, -, -, l2⟩ := h2.op
 obtain ⟨A3, c3, rfl, -, -, l3⟩ := h3.op
 obtain ⟨r1, hr1⟩ : ∃ r, L1.length = r := ⟨_, rfl⟩
 obtain ⟨r2, hr2⟩ : ∃ r, L2.length = r := ⟨_, rfl⟩
 obtain ⟨r3, hr3⟩ : ∃ r, L3.length = r := ⟨_, rfl⟩
 have HR1 := Lib.hid hr1
 have HR2 := Lib.hid hr2
 have HR3 := Lib.hid hr3
 rw [hr1] at H1
 rw [hr2] at H2
 rw [hr3] at H3
 rw [hr1, hr2, hr3]
 have B1 := made1 w #[.slice A1 r1 c1] 24
 have B2 := made2 w (.cells #[.slice A1 r1 c1] 24) #[.slice A2 r2 c2] 24
 have B3 := made3 w (.cells #[.slice A1 r1 c1] 24) (.cells #[.slice A2 r2 c2] 24) #[.slice A3 r3 c3] 24
 clear h1 h2 h3 hr1 hr2 hr3 l1 l2 l3
 go_enter Tryz.func10, Tryz.ntmps10
 go_wp2_with fail
 refine (known40_any _).mono ?_
 rintro e w1 ⟨rfl, hb1⟩
 have z1 := sz3 hb1
 have B11 : Loc w1 w.heap.size _ _ := B1.to
 have B21 : Loc w1 (w.heap.size + 1) _ _ := B2.to
 have B31 : Loc w1 (w.heap.size + 1 + 1) _ _ := B3.to
 have HB1 : Hid (Below w.heap.size w w1) := bel
 clear B1 B2 B3 hb1
 obtain ⟨e1, f1, -⟩ := B11.all (w' := w1)
 go_wp2_with fail
 refine (small_any _ _ L1 (H1.out.keep (.of_below HB1.out))).mono ?_
 rintro e w2 ⟨⟨bf, rfl, hf⟩, hb2⟩
 have y2 := hb2.size; (try simp only [zs] at y2)
 have HB2 : Hid (Below w.heap.size w w2) := HB1.out.trans (hb2.mono (by omega))
 cases bf
 case false =>
  clear e1 f1 hf
  go_wp2_with fail
  go_ret
  exact ⟨rfl, HB2.out⟩
 have HF1 : Hid (SM L1) := hf.out.1 rfl
 have B12 : Loc w2 (w.heap.size) _ _ := B11.to
 have B22 : Loc w2 (w.heap.size + 1) _ _ := B21.to
 have B32 : Loc w2 (w.heap.size + 1 + 1) _ _ := B31.to
 clear hf e1 f1 hb2 B11 B21 B31
 obtain ⟨e1, f1, -⟩ := B22.all (w' := w2)
 go_wp2_with fail
 refine (small_any _ _ L2 (H2.out.keep (.of_below HB2.out))).mono ?_
 rintro e w3 ⟨⟨bf, rfl, hf⟩, hb3⟩
 have y3 := hb3.size; (try simp only [zs] at y3)
 have HB3 : Hid (Below w.heap.size w w3) := HB2.out.trans (hb3.mono (by omega))
 cases bf
 case false =>
  clear e1 f1 hf
  go_wp2_with fail
  go_ret
  exact ⟨rfl, HB3.out⟩
 have HF2 : Hid (SM L2) := hf.out.1 rfl
 have B13 : Loc w3 (w.heap.size) _ _ := B12.to
 have B23 : Loc w3 (w.heap.size + 1) _ _ := B22.to
 have B33 : Loc w3 (w.heap.size + 1 + 1) _ _ := B32.to
 clear hf e1 f1 hb3 B12 B22 B32
 obtain ⟨e1, f1, -⟩ := B33.all (w' := w3)
 go_wp2_with fail
 refine (small_any _ _ L3 (H3.out.keep (.of_below HB3.out))).mono ?_
 rintro e w4 ⟨⟨bf, rfl, hf⟩, hb4⟩
 have y4 := hb4.size; (try simp only [zs] at y4)
 have HB4 : Hid (Below w.heap.size w w4) := HB3.out.trans (hb4.mono (by omega))
 cases bf
 case false =>
  clear e1 f1 hf
  go_wp2_with fail
  go_ret
  exact ⟨rfl, HB4.out⟩
 have HF3 : Hid (SM L3) := hf.out.1 rfl
 have B14 : Loc w4 (w.heap.size) _ _ := B13.to
 have B24 : Loc w4 (w.heap.size + 1) _ _ := B23.to
 have B34 : Loc w4 (w.heap.size + 1 + 1) _ _ := B33.to
 clear hf e1 f1 hb4 B13 B23 B33
 obtain ⟨e1, f1, -⟩ := B14.all (w' := w4)
 obtain ⟨e2, f2, -⟩ := B24.all (w' := w4)
 obtain ⟨e3, f3, -⟩ := B34.all (w' := w4)
 have hl1 : r1 ≤ 5 := by rw [← HR1.out]; exact HF1.out.1.1
 have hl2 : r2 ≤ 5 := by rw [← HR2.out]; exact HF2.out.1.1
 have hl3 : r3 ≤ 5 := by rw [← HR3.out]; exact HF3.out.1.1
 by_cases h12 : r1 = r2
 case neg =>
  have d1 : ((r1 : Int) != (r2 : Int)) = true := by simp only [bne_iff_ne]; omega
  go_wp2_with fail
  go_ret
  exact ⟨rfl, HB4.out⟩
 have d1 : ((r1 : Int) != (r2 : Int)) = false := by rw [h12]; exact bne_self_eq_false _
 by_cases h23 : r2 = r3
 case neg =>
  have d2 : ((r2 : Int) != (r3 : Int)) = true := by simp only [bne_iff_ne]; omega
  clear h12
  go_wp2_with fail
  go_ret
  exact ⟨rfl, HB4.out⟩
 have d2 : ((r2 : Int) != (r3 : Int)) = false := by rw [h23]; exact bne_self_eq_false _
 have HE12 : Hid (L1.length = L2.length) := by show _ = _; rw [HR1.out, HR2.out, h12]
 have HE23 : Hid (L2.length = L3.length) := by show _ = _; rw [HR2.out, HR3.out, h23]
 clear h12 h23
 go_wp2_with fail
 refine (decide_any _ _ _ L1 L1 (H1.out.keep (.of_below HB4.out)) (H1.out.keep (.of_below HB4.out)) (HF1.out.1.sz HF1.out.1)).mono ?_
 rintro e w5 ⟨b5, vW5, vG5, m5, K5, F5, G5, code5, rfl, hm5, hd5, hb5⟩
 obtain rfl := SM.code HF1.out HF1.out rfl hd5.out
 obtain rfl := dec_true hd5.out (wit_self HF1.out.2.1)
 have HM5 := Lib.hid hm5.out.1
 obtain ⟨AW5, cW5, rfl, -, -, -⟩ := hm5.out.1.op
 obtain ⟨AG5, cG5, rfl, -, -, -⟩ := hm5.out.2.op
 have y5 := hb5.size; (try simp only [zs] at y5)
 have HB5 : Hid (Below w.heap.size w w5) := HB4.out.trans (hb5.mono (by (try simp only [World.size_alloc]); omega))
 have B15 : Loc w5 (w.heap.size) _ _ := B14.to
 have B25 : Loc w5 (w.heap.size + 1) _ _ := B24.to
 have B35 : Loc w5 (w.heap.size + 1 + 1) _ _ := B34.to
 clear hm5 hd5 hb5 B14 B24 B34 e1 f1 e2 f2 e3 f3 
 have T55 := made1 w5 #[.bool true, .slice AW5 m5 cW5, .slice AG5 K5 cG5] 27
 obtain ⟨e1, f1, -⟩ := B15.all (w' := (w5.alloc (.cells #[.bool true, .slice AW5 m5 cW5, .slice AG5 K5 cG5] 27)))
 obtain ⟨e2, f2, -⟩ := B25.all (w' := (w5.alloc (.cells #[.bool true, .slice AW5 m5 cW5, .slice AG5 K5 cG5] 27)))
 obtain ⟨e3, f3, -⟩ := B35.all (w' := (w5.alloc (.cells #[.bool true, .slice AW5 m5 cW5, .slice AG5 K5 cG5] 27)))
 have HB5a : Hid (Below w.heap.size w (w5.alloc (.cells #[.bool true, .slice AW5 m5 cW5, .slice AG5 K5 cG5] 27))) := HB5.out.trans ((below1 w5 _).mono (by omega))
 go_wp2_with fail
 refine (decide_any _ _ _ L1 L2 (H1.out.keep (.of_below HB5a.out)) (H2.out.keep (.of_below HB5a.out)) (HF1.out.1.sz HF2.out.1)).mono ?_
 rintro e w6 ⟨b6, vW6, vG6, m6, K6, F6, G6, code6, rfl, hm6, hd6, hb6⟩
 obtain rfl := SM.code HF1.out HF2.out HE12.out hd6.out
 have HM6 := Lib.hid hm6.out.1
 obtain ⟨AW6, cW6, rfl, -, -, -⟩ := hm6.out.1.op
 obtain ⟨AG6, cG6, rfl, -, -, -⟩ := hm6.out.2.op
 have y6 := hb6.size; (try simp only [zs] at y6)
 have HB6 : Hid (Below w.heap.size w w6) := HB5a.out.trans (hb6.mono (by (try simp only [World.size_alloc]); omega))
 have HS6 : Hid (Below w5.heap.size w5 w6) := (below1 w5 _).trans (hb6.mono (by simp only [World.size_alloc]; omega))
 have B16 : Loc w6 (w.heap.size) _ _ := B15.to
 have B26 : Loc w6 (w.heap.size + 1) _ _ := B25.to
 have B36 : Loc w6 (w.heap.size + 1 + 1) _ _ := B35.to
 have T56 : Loc w6 w5.heap.size _ _ := T55.to
 have HD6 := Lib.hid hd6.out
 clear hm6 hd6 hb6 B15 B25 B35 e1 f1 e2 f2 e3 f3 T55
 have T66 := made1 w6 #[.bool b6, .slice AW6 m6 cW6, .slice AG6 K6 cG6] 27
 obtain ⟨e1, f1, -⟩ := B16.all (w' := (w6.alloc (.cells #[.bool b6, .slice AW6 m6 cW6, .slice AG6 K6 cG6] 27)))
 obtain ⟨e2, f2, -⟩ := B26.all (w' := (w6.alloc (.cells #[.bool b6, .slice AW6 m6 cW6, .slice AG6 K6 cG6] 27)))
 obtain ⟨e3, f3, -⟩ := B36.all (w' := (w6.alloc (.cells #[.bool b6, .slice AW6 m6 cW6, .slice AG6 K6 cG6] 27)))
 have HB6a : Hid (Below w.heap.size w (w6.alloc (.cells #[.bool b6, .slice AW6 m6 cW6, .slice AG6 K6 cG6] 27))) := HB6.out.trans ((below1 w6 _).mono (by omega))
 go_wp2_with fail
 refine (decide_any _ _ _ L2 L3 (H2.out.keep (.of_below HB6a.out)) (H3.out.keep (.of_below HB6a.out)) (HF2.out.1.sz HF3.out.1)).mono ?_
 rintro e w7 ⟨b7, vW7, vG7, m7, K7, F7, G7, code7, rfl, hm7, hd7, hb7⟩
 obtain rfl := SM.code HF2.out HF3.out HE23.out hd7.out
 have HM7 := Lib.hid hm7.out.1
 obtain ⟨AW7, cW7, rfl, -, -, -⟩ := hm7.out.1.op
 obtain ⟨AG7, cG7, rfl, -, -, -⟩ := hm7.out.2.op
 have y7 := hb7.size; (try simp only [zs] at y7)
 have HB7 : Hid (Below w.heap.size w w7) := HB6a.out.trans (hb7.mono (by (try simp only [World.size_alloc]); omega))
 have HS7 : Hid (Below w6.heap.size w6 w7) := (below1 w6 _).trans (hb7.mono (by simp only [World.size_alloc]; omega))
 have B17 : Loc w7 (w.heap.size) _ _ := B16.to
 have B27 : Loc w7 (w.heap.size + 1) _ _ := B26.to
 have B37 : Loc w7 (w.heap.size + 1 + 1) _ _ := B36.to
 have T57 : Loc w7 w5.heap.size _ _ := T56.to
 have T67 : Loc w7 w6.heap.size _ _ := T66.to
 have HD7 := Lib.hid hd7.out
 clear hm7 hd7 hb7 B16 B26 B36 e1 f1 e2 f2 e3 f3 T56 T66
 have T77 := made1 w7 #[.bool b7, .slice AW7 m7 cW7, .slice AG7 K7 cG7] 27
 obtain ⟨e1, f1, -⟩ := B17.all (w' := (w7.alloc (.cells #[.bool b7, .slice AW7 m7 cW7, .slice AG7 K7 cG7] 27)))
 obtain ⟨e2, f2, -⟩ := B27.all (w' := (w7.alloc (.cells #[.bool b7, .slice AW7 m7 cW7, .slice AG7 K7 cG7] 27)))
 obtain ⟨e3, f3, -⟩ := B37.all (w' := (w7.alloc (.cells #[.bool b7, .slice AW7 m7 cW7, .slice AG7 K7 cG7] 27)))
 have HB7a : Hid (Below w.heap.size w (w7.alloc (.cells #[.bool b7, .slice AW7 m7 cW7, .slice AG7 K7 cG7] 27))) := HB7.out.trans ((below1 w7 _).mono (by omega))
 go_wp2_with fail
 refine (decide_any _ _ _ L1 L3 (H1.out.keep (.of_below HB7a.out)) (H3.out.keep (.of_below HB7a.out)) (HF1.out.1.sz HF3.out.1)).mono ?_
 rintro e w8 ⟨b8, vW8, vG8, m8, K8, F8, G8, code8, rfl, hm8, hd8, hb8⟩
 obtain rfl := SM.code HF1.out HF3.out (HE12.out.trans HE23.out) hd8.out
 have HM8 := Lib.hid hm8.out.1
 obtain ⟨AW8, cW8, rfl, -, -, -⟩ := hm8.out.1.op
 obtain ⟨AG8, cG8, rfl, -, -, -⟩ := hm8.out.2.op
 have y8 := hb8.size; (try simp only [zs] at y8)
 have HB8 : Hid (Below w.heap.size w w8) := HB7a.out.trans (hb8.mono (by (try simp only [World.size_alloc]); omega))
 have HS8 : Hid (Below w7.heap.size w7 w8) := (below1 w7 _).trans (hb8.mono (by simp only [World.size_alloc]; omega))
 have B18 : Loc w8 (w.heap.size) _ _ := B17.to
 have B28 : Loc w8 (w.heap.size + 1) _ _ := B27.to
 have B38 : Loc w8 (w.heap.size + 1 + 1) _ _ := B37.to
 have T58 : Loc w8 w5.heap.size _ _ := T57.to
 have T68 : Loc w8 w6.heap.size _ _ := T67.to
 have T78 : Loc w8 w7.heap.size _ _ := T77.to
 have HD8 := Lib.hid hd8.out
 clear hm8 hd8 hb8 B17 B27 B37 e1 f1 e2 f2 e3 f3 T57 T67 T77
 have T88 := made1 w8 #[.bool b8, .slice AW8 m8 cW8, .slice AG8 K8 cG8] 27
 have HB8a : Hid (Below w.heap.size w (w8.alloc (.cells #[.bool b8, .slice AW8 m8 cW8, .slice AG8 K8 cG8] 27))) := HB8.out.trans ((below1 w8 _).mono (by omega))
 obtain ⟨e1, f1, -⟩ := B18.all (w' := (w8.alloc (.cells #[.bool b8, .slice AW8 m8 cW8, .slice AG8 K8 cG8] 27)))
 obtain ⟨e2, f2, -⟩ := B28.all (w' := (w8.alloc (.cells #[.bool b8, .slice AW8 m8 cW8, .slice AG8 K8 cG8] 27)))
 obtain ⟨e3, f3, -⟩ := B38.all (w' := (w8.alloc (.cells #[.bool b8, .slice AW8 m8 cW8, .slice AG8 K8 cG8] 27)))
 obtain ⟨i5, g5, -⟩ := T58.all (w' := (w8.alloc (.cells #[.bool b8, .slice AW8 m8 cW8, .slice AG8 K8 cG8] 27)))
 obtain ⟨i6, g6, -⟩ := T68.all (w' := (w8.alloc (.cells #[.bool b8, .slice AW8 m8 cW8, .slice AG8 K8 cG8] 27)))
 obtain ⟨i7, g7, -⟩ := T78.all (w' := (w8.alloc (.cells #[.bool b8, .slice AW8 m8 cW8, .slice AG8 K8 cG8] 27)))
 obtain ⟨i8, g8, -⟩ := T88.all (w' := (w8.alloc (.cells #[.bool b8, .slice AW8 m8 cW8, .slice AG8 K8 cG8] 27)))
 cases b6
 case false =>
  go_wp2_with fail
  go_ret
  exact ⟨rfl, HB8a.out⟩
 cases b7
 case false =>
  go_wp2_with fail
  go_ret
  exact ⟨rfl, HB8a.out⟩
 obtain ⟨em6, hw6⟩ := SM.dec HD6.out rfl
 obtain ⟨em7, hw7⟩ := SM.dec HD7.out rfl
 rw [em6] at hw6
 rw [em7] at hw7
 have HW6 := Lib.hid hw6
 have HW7 := Lib.hid hw7
 obtain rfl := dec_true HD8.out (wit_chain hw6 hw7)
 have HM6' : Hid (Mat 44 (w8.alloc (.cells #[.bool true, .slice AW8 m8 cW8, .slice AG8 K8 cG8] 27)) (fun _ => False) (.slice AW6 m6 cW6) (wid L1) (fun _ => wid L2) F6) := by
  have := HM6.out.keep (.of_below ((HS7.out.trans (HS8.out.mono (by omega))).trans ((below1 w8 _).mono (by omega)) : Below w6.heap.size w6 (w8.alloc (.cells #[.bool true, .slice AW8 m8 cW8, .slice AG8 K8 cG8] 27))))
  rw [em6] at this ⊢
  exact this
 have HM7' : Hid (Mat 44 (w8.alloc (.cells #[.bool true, .slice AW8 m8 cW8, .slice AG8 K8 cG8] 27)) (fun _ => False) (.slice AW7 m7 cW7) (wid L2) (fun _ => wid L3) F7) := by
  have := HM7.out.keep (.of_below (HS8.out.trans ((below1 w8 _).mono (by omega)) : Below w7.heap.size w7 (w8.alloc (.cells #[.bool true, .slice AW8 m8 cW8, .slice AG8 K8 cG8] 27))))
  rw [em7] at this ⊢
  exact this
 have hs1 : wid L1 ≤ 4 := HF1.out.2.2.2.1
 have hs2 : wid L2 ≤ 4 := HF2.out.2.2.2.1
 have hs3 : wid L3 ≤ 4 := HF3.out.2.2.2.1
 have HPR : Hid (∀ i, i < wid L1 → ∀ j, j < wid L3 → Rsz 1990 (prod (wid L2) F6 F7 i j)) := prod_rsz (n := wid L2) (HM6'.out.rsz (by decide)) (HM7'.out.rsz (by decide)) (by omega)
 clear hw6 hw7 em6 em7
 go_wp2_with fail
 refine (chain_any _ _ _ (wid L1) (wid L2) 44 (fun _ => wid L2) (fun _ => wid L3) F6 F7 HM6'.out HM7'.out (by omega) (by omega) (fun _ _ => by omega) (fun _ _ => by omega) (by decide) (by decide)).mono ?_
 rintro e w9 ⟨vO, code9, mo, rfl, ho, hc, hb9⟩
 obtain ⟨rfl, rfl⟩ := chain_of40 HW6.out HW7.out hc.out
 obtain ⟨AO, cO, rfl, -, -, -⟩ := (ho.out.mat (k := 1990) HPR.out).op
 have HO : Hid (Mat 1990 w9 (fun _ => False) (.slice AO (wid L1) cO) (wid L1) (fun _ => wid L3) (prod (wid L2) F6 F7)) := by
  exact ho.out.mat (k := 1990) HPR.out
 have y9 := hb9.size; (try simp only [zs] at y9)
 have HB9 : Hid (Below w.heap.size w w9) := HB8a.out.trans (hb9.mono (by simp only [World.size_alloc]; omega))
 have B19 : Loc w9 w.heap.size _ _ := B18.to
 have B39 : Loc w9 (w.heap.size + 1 + 1) _ _ := B38.to
 have T89 : Loc w9 w8.heap.size _ _ := T88.to
 clear e1 f1 e2 f2 e3 f3 i5 g5 i6 g6 i7 g7 i8 g8 ho hc hb9
 obtain ⟨e1, f1, -⟩ := B19.all (w' := w9)
 obtain ⟨e3, f3, -⟩ := B39.all (w' := w9)
 obtain ⟨i8, g8, -⟩ := T89.all (w' := w9)
 go_wp2_with fail
 refine (checkWitness_any _ _ _ _ L1 L3 (wid L1) 1990 (fun _ => wid L3) (prod (wid L2) F6 F7) (H1.out.keep (.of_below HB9.out)) (H3.out.keep (.of_below HB9.out)) HO.out (by omega) (fun _ _ => by omega) (by omega) (by omega)).mono ?_
 rintro e w10 ⟨he, hb10⟩
 have he := he.eq (b := true) ⟨fun _ => wit_chain HW6.out HW7.out, fun _ => rfl⟩
 subst he
 have y10 := hb10.size; (try simp only [zs] at y10)
 have HBX : Hid (Below w.heap.size w w10) := HB9.out.trans (hb10.mono (by omega))
 go_wp2_with fail
 go_ret
 exact ⟨rfl, HBX.out⟩
end Go.Proofs.YtdambnieminnfaaGreat

/- The statement 'RefinementOrder' out of its walk. The frame is the guide's own (proof-skeleton), printed by lawgen.py. -/
namespace Go.Proofs.YtdambnieminnfaaGreat.refinementOrder
open Go.ChangeShapes Go.WideShapes Go.ChangeAt Go.RowKit Go.Proofs.YtdambnieminnfaaGreat
open Go.ChangeMaps (open_string shut_string)
set_option linter.unusedVariables false

set_option maxRecDepth 100000 in
theorem lifted (os : Os) (started : os.Started) (H : Type) (enc : TypeId × Value → H) :
 ReturnsInHanded {} Tryz.checked os 10 .any (Rows.refinementOrderSpec.pre6 enc Tryz.prog Tryz.f10 Rows.refinementOrderRow.domain false) (Rows.refinementOrderSpec.post enc Tryz.prog Tryz.f10 false true false false) := by
 refine returnsInHanded_of_change (C := Tryz.checked) own started (by kernel_rfl) Tryz.func10
  (ChangeSpec.witness6 (enc := enc) (C := Tryz.checked) false ⟨#[], #[.agg #[.slice none 0 0], .agg #[.slice none 0 0], .agg #[.slice none 0 0]], []⟩ 8 (by kernel_rfl) (by kernel_rfl) (by kernel_rfl) (by kernel_rfl)) ?_
 intro W base args ds gs before hval0 hW hcnd _
 have hval : ∀ (j : Nat) t v, Tryz.f10.params[j]? = some t → args[j]? = some v → Value.okWide Tryz.prog W .any base t v := hval0
 have hW' := hW
 obtain ⟨p, q, hA0, hV, rfl, hfz, hnd⟩ := hW
 have hA : DataW.TrodAll enc Tryz.prog W 0 (fun _ => true) true Tryz.f10.params.toList args.toList ds p := hA0
 rw [Tryz.params10] at hA hval
 obtain ⟨v0, vs0, d0, ds0, p0, q0, hargs, rfl, rfl, h0, r0⟩ := trodAll_cons hA
 obtain ⟨v1, vs1, d1, ds1, p1, q1, rfl, rfl, rfl, h1, r1⟩ := trodAll_cons r0
 obtain ⟨v2, vs2, d2, ds2, p2, q2, rfl, rfl, rfl, h2, r2⟩ := trodAll_cons r1
 obtain ⟨rfl, rfl, rfl⟩ := trodAll_nil r2
 obtain rfl : args = #[v0, v1, v2] := by cases args; simp_all
 obtain ⟨rfl, rfl⟩ := trodVars_none hV
 have lt0 : ∀ x ∈ p0, x.block < W.heap.size := by obtain ⟨m, hm⟩ := h0; exact DataW.trod_lt m _ _ _ hm
 have k0 := fun (W' : World) (bel : Below W.heap.size W W') => Below.trod laidOut (by kernel_rfl) (of_decide_eq_true (by kernel_rfl)) h0 bel lt0
 obtain ⟨va0, L0, e0, ha0⟩ := open_Channel (hval 0 24 v0 rfl rfl) h0
 have lt1 : ∀ x ∈ p1, x.block < W.heap.size := by obtain ⟨m, hm⟩ := h1; exact DataW.trod_lt m _ _ _ hm
 have k1 := fun (W' : World) (bel : Below W.heap.size W W') => Below.trod laidOut (by kernel_rfl) (of_decide_eq_true (by kernel_rfl)) h1 bel lt1
 obtain ⟨va1, L1, e1, ha1⟩ := open_Channel (hval 1 24 v1 rfl rfl) h1
 have lt2 : ∀ x ∈ p2, x.block < W.heap.size := by obtain ⟨m, hm⟩ := h2; exact DataW.trod_lt m _ _ _ hm
 have k2 := fun (W' : World) (bel : Below W.heap.size W W') => Below.trod laidOut (by kernel_rfl) (of_decide_eq_true (by kernel_rfl)) h2 bel lt2
 obtain ⟨va2, L2, e2, ha2⟩ := open_Channel (hval 2 24 v2 rfl rfl) h2
 subst e0
 subst e1
 subst e2
 refine (order_walk _ _ _ _ _ _ _ ha0 ha1 ha2).mono fun e W' ⟨he, bel⟩ => ?_
 subst he
 exact ⟨_, rfl, _, _, _, [], _, [], hW', trodAll_mk1 (shut_bool Tryz.underlying4 _), (trodAll_cons_mk (k0 _ bel) (trodAll_cons_mk (k1 _ bel) (trodAll_cons_mk (k2 _ bel) trodAll_mk0))), rfl, bel.frame _, fun h => by cases h⟩

theorem over : Rows.refinementOrderRow.holds Tryz.pinned (OpenSpec.ofChange Rows.refinementOrderSpec) :=
 OpenClaim.holds_of_wide 10 Tryz.f10 rfl rfl rfl rfl rfl rfl rfl ⟨rfl, rfl, rfl, rfl, rfl⟩ rfl rfl rfl rfl rfl (by kernel_rfl) Tryz.func10 (by kernel_rfl)
  (of_decide_eq_true (by kernel_rfl)) (by unfold Func.isWrapper; first | (rw [if_pos (by decide +kernel)]; kernel_rfl) | (rw [if_neg (by decide +kernel)]; exact ⟨rfl, rfl⟩))
  (fun os started H enc _ => lifted os started H enc)

/-- The statement: for every input the law returns true; each argument reads behind the call as it read before. -/
theorem proved : Rows.RefinementOrderSaid := over
end Go.Proofs.YtdambnieminnfaaGreat.refinementOrder

