/- Contracts of the functions that the statements reach, part 44. -/
import Derived.Test.YtpeglenapmkdfaaGreatRows
import Derived.Test.YtpeglenapmkdfaaGreatM43
set_option linter.unusedSimpArgs false
set_option linter.unusedVariables false

/- ref, tidy. -/
namespace Go.Proofs.YtpeglenapmkdfaaGreat
open Go.RowKit
attribute [local go_sem ↓] Go.wp_at_zero Go.wp_at_succ
attribute [local go_sem] beq_self_eq_true

theorem Mat.mono {k j : Nat} {w : World} {X : Nat → Prop} {v : Value} {m : Nat} {N : Nat → Nat} {F : Nat → Nat → Rat} (h : Mat k w X v m N F) (hj : k ≤ j) : Mat j w X v m N F := by
  obtain ⟨us, A, cap, h1, h2, h3, h4, h5, h6⟩ := h
  exact ⟨us, A, cap, h1, h2, h3, h4, h5, fun i u hu => (h6 i u hu).mono hj⟩
theorem Sys.mono {k j : Nat} {w : World} {v : Value} {m mb : Nat} {N : Nat → Nat} {F : Nat → Nat → Rat} {Bv : Nat → Rat} (h : Sys k w v m mb N F Bv) (hj : k ≤ j) : Sys j w v m mb N F Bv := by
  obtain ⟨A, c, B, d, rfl, h1, h2⟩ := h
  exact ⟨A, c, B, d, rfl, h1.mono hj, h2.mono hj⟩
/-- A list of one fraction. -/
theorem Rats.one {w : World} {g : Nat} {e : RF} {A B : Option Addr} {c d : Nat} (L : Loc w g 44 #[.bool e.n1, .slice A e.xs.length c, .bool e.n2, .slice B e.ys.length d]) (h : RatR w (fun _ => False) (.agg #[.bool e.n1, .slice A e.xs.length c, .bool e.n2, .slice B e.ys.length d]) e.n1 e.xs e.n2 e.ys) :
    Rats w (fun _ => False) (.slice (some ⟨g, 0, none⟩) 1 1) [e] := by
  refine ⟨_, _, rfl, Nat.le_refl _, by decide, fun _ => ⟨_, rfl, L.lt, fun i e' he => ?_⟩⟩
  have hi := (List.getElem?_eq_some_iff.1 he).1
  obtain rfl : i = 0 := by simp at hi; omega
  simp at he
  subst he
  rw [Nat.zero_mul, addr_zero]
  exact ⟨A, c, B, d, Loc.c 0 L, Loc.c 1 L, Loc.c 2 L, Loc.c 3 L, h⟩

set_option maxRecDepth 100000 in
set_option maxHeartbeats 8000000 in
theorem ref_any (w : World) (kind : Int) (C E G A B : Option Addr) (n1 n2 n3 c1 c2 c3 p c q d : Nat) (b b' : Bool) :
    Calls Tryz.prog 32 #[.agg #[.int .i64 kind, .slice C n1 c1, .slice E n2 c2, .slice G n3 c3, .bool b, .slice A p c, .bool b', .slice B q d]] w fun e w' => e = .returned (.agg #[.int .i64 kind, .slice C n1 c1, .slice E n2 c2, .slice G n3 c3, .bool b, .slice A p c, .bool b', .slice B q d]) ∧ Below w.heap.size w w' := by
  have L1 := made1 w #[.int .i64 kind, .slice C n1 c1, .slice E n2 c2, .slice G n3 c3, .bool b, .slice A p c, .bool b', .slice B q d] 51
  go_enter Tryz.func32, Tryz.ntmps32
  go_wp2_with fail
  have L2 := made2 w (.cells #[.int .i64 kind, .slice C n1 c1, .slice E n2 c2, .slice G n3 c3, .bool b, .slice A p c, .bool b', .slice B q d] 51) #[.int .i64 kind, .slice C n1 c1, .slice E n2 c2, .slice G n3 c3, .bool b, .slice A p c, .bool b', .slice B q d] 61
  obtain ⟨e8, g8, -⟩ := L2.all
  refine bodyPost_ret (by simp [results, Tryz.results32, go_sem, e8, g8] <;> rfl) rfl ⟨rfl, bel⟩

set_option maxRecDepth 100000 in
set_option maxHeartbeats 8000000 in
theorem tidy_any (w : World) (kind : Int) (v1 v2 v3 : Value) (A B : Option Addr) (c d : Nat) (lx ly lr : List RF) (e : RF) (h1 : Rats w (fun _ => False) v1 lx) (h2 : Rats w (fun _ => False) v2 ly) (h3 : Rats w (fun _ => False) v3 lr) (h4 : RatR w (fun _ => False) (.agg #[.bool e.n1, .slice A e.xs.length c, .bool e.n2, .slice B e.ys.length d]) e.n1 e.xs e.n2 e.ys) :
    Calls Tryz.prog 34 #[.agg #[.int .i64 kind, v1, v2, v3, .bool e.n1, .slice A e.xs.length c, .bool e.n2, .slice B e.ys.length d]] w fun e' w' => Tells (NB lx 10 ∧ NB ly 10 ∧ NB lr 10 ∧ e.few) e' ∧ Below w.heap.size w w' := by
  have H1 := Lib.hid h1
  have H2 := Lib.hid h2
  have H3 := Lib.hid h3
  have H4 := Lib.hid h4
  obtain ⟨C, c1, rfl, h1, a1, a2⟩ := h1.op
  obtain ⟨E, c2, rfl, h2, a3, a4⟩ := h2.op
  obtain ⟨G, c3, rfl, h3, a5, a6⟩ := h3.op
  clear h1 h2 h3 h4
  obtain ⟨p, hp⟩ : ∃ p, e.xs.length = p := ⟨_, rfl⟩
  obtain ⟨q, hq⟩ : ∃ q, e.ys.length = q := ⟨_, rfl⟩
  obtain ⟨bn1, hn1⟩ : ∃ b, e.n1 = b := ⟨_, rfl⟩
  obtain ⟨bn2, hn2⟩ : ∃ b, e.n2 = b := ⟨_, rfl⟩
  have HV1 : Hid (∀ W g, Below w.heap.size w W → Loc W g 44 #[.bool bn1, .slice A p c, .bool bn2, .slice B q d] → Rats W (fun _ => False) (.slice (some ⟨g, 0, none⟩) 1 1) [e]) := fun W g hW hL => by
    subst hp hq hn1 hn2
    exact Rats.one hL (H4.out.keep (.of_below hW))
  rw [hp, hq, hn1, hn2]
  clear hp hq hn1 hn2 H4
  have L1 := made1 w #[.int .i64 kind, .slice C lx.length c1, .slice E ly.length c2, .slice G lr.length c3, .bool bn1, .slice A p c, .bool bn2, .slice B q d] 51
  go_enter Tryz.func34, Tryz.ntmps34
  go_wp2_with fail
  refine (numbers_any _ _ lx 10 (H1.out.keep kp) (by decide)).mono ?_
  rintro e1 w1 ⟨⟨b, rfl, hb⟩, hb1⟩
  have z1 := sz1 hb1
  obtain ⟨q1, f1, -⟩ := L1.all (w' := w1)
  cases b
  · have HV : Hid (¬ (NB lx 10 ∧ NB ly 10 ∧ NB lr 10 ∧ e.few)) := fun h => by have := hb.out.2 h.1; cases this
    clear hb
    go_wp2_with fail
    go_ret
    exact ⟨Tells.no HV.out, bel⟩
  have N1 : Hid (NB lx 10) := hb.out.1 rfl
  clear hb
  go_wp2_with fail
  refine (numbers_any _ _ ly 10 (H2.out.keep kp) (by decide)).mono ?_
  rintro e1 w2 ⟨⟨b, rfl, hb⟩, hb2⟩
  have y2 := hb2.size; (try simp only [World.size_alloc, size_set, size_drew, size_drewN] at y2)
  clear q1 f1
  obtain ⟨q1, f1, -⟩ := L1.all (w' := w2)
  cases b
  · have HV : Hid (¬ (NB lx 10 ∧ NB ly 10 ∧ NB lr 10 ∧ e.few)) := fun h => by have := hb.out.2 h.2.1; cases this
    clear hb
    go_wp2_with fail
    go_ret
    exact ⟨Tells.no HV.out, bel⟩
  have N2 : Hid (NB ly 10) := hb.out.1 rfl
  clear hb
  go_wp2_with fail
  refine (numbers_any _ _ lr 10 (H3.out.keep kp) (by decide)).mono ?_
  rintro e1 w3 ⟨⟨b, rfl, hb⟩, hb3⟩
  have y3 := hb3.size; (try simp only [World.size_alloc, size_set, size_drew, size_drewN] at y3)
  clear q1 f1
  obtain ⟨q1, f1, -⟩ := L1.all (w' := w3)
  cases b
  · have HV : Hid (¬ (NB lx 10 ∧ NB ly 10 ∧ NB lr 10 ∧ e.few)) := fun h => by have := hb.out.2 h.2.2.1; cases this
    clear hb
    go_wp2_with fail
    go_ret
    exact ⟨Tells.no HV.out, bel⟩
  have N3 : Hid (NB lr 10) := hb.out.1 rfl
  clear hb
  have hw3 : Below w.heap.size w w3 := bel
  have M := made1 w3 #[.bool bn1, .slice A p c, .bool bn2, .slice B q d] 44
  go_wp2_with fail
  refine (numbers_any _ _ [e] 1 (HV1.out _ _ bel M) (by decide)).mono ?_
  rintro e1 w4 ⟨⟨b, rfl, hb⟩, hb4⟩
  have y4 := hb4.size; (try simp only [World.size_alloc, size_set, size_drew, size_drewN] at y4)
  cases b
  · have HV : Hid (¬ (NB lx 10 ∧ NB ly 10 ∧ NB lr 10 ∧ e.few)) := fun h => by
      have := hb.out.2 ⟨Nat.le_refl _, fun i e' he => by
        have hi := (List.getElem?_eq_some_iff.1 he).1
        obtain rfl : i = 0 := by simp at hi; omega
        simp at he
        rw [← he]; exact h.2.2.2⟩
      cases this
    clear hb
    go_wp2_with fail
    go_ret
    exact ⟨Tells.no HV.out, bel⟩
  have HV : Hid (NB lx 10 ∧ NB ly 10 ∧ NB lr 10 ∧ e.few) := ⟨N1.out, N2.out, N3.out, (hb.out.1 rfl).2 0 e rfl⟩
  clear hb
  go_wp2_with fail
  go_ret
  exact ⟨Tells.yes HV.out, bel⟩
end Go.Proofs.YtpeglenapmkdfaaGreat

/- known of layer 8's laws. -/
namespace Go.Proofs.YtpeglenapmkdfaaGreat
open Go.RowKit
attribute [local go_sem ↓] Go.wp_at_zero Go.wp_at_succ
attribute [local go_sem] beq_self_eq_true

theorem row2 (w : World) (g : Nat) (t : TypeId) (a b : Int) (L : Loc w g t #[.int .i64 a, .int .i64 b]) (ha : -100 ≤ a ∧ a ≤ 100) (hb : -100 ≤ b ∧ b ≤ 100) :
    Calls Tryz.prog 36 #[.slice (some ⟨g, 0, none⟩) 2 2] w fun e w' => ∃ D d, e = .returned (.slice D 2 d) ∧ Hid (Nums 2 w' (fun _ => False) (.slice D 2 d) 2 (zi [a, b])) ∧ Below w.heap.size w w' := by
  refine (row_any w g t [a, b] L (fun z hz => ?_) (by simp)).mono ?_
  · simp at hz
    rcases hz with rfl | rfl <;> omega
  · rintro e w' ⟨v, rfl, h, hb⟩
    obtain ⟨D, d, rfl, h, -, -⟩ := h.op
    exact ⟨D, d, rfl, h, hb⟩
theorem row1 (w : World) (g : Nat) (t : TypeId) (a : Int) (L : Loc w g t #[.int .i64 a]) (ha : -100 ≤ a ∧ a ≤ 100) :
    Calls Tryz.prog 36 #[.slice (some ⟨g, 0, none⟩) 1 1] w fun e w' => ∃ D d, e = .returned (.slice D 1 d) ∧ Hid (Nums 2 w' (fun _ => False) (.slice D 1 d) 1 (zi [a])) ∧ Below w.heap.size w w' := by
  refine (row_any w g t [a] L (fun z hz => ?_) (by simp)).mono ?_
  · simp at hz
    subst hz; omega
  · rintro e w' ⟨v, rfl, h, hb⟩
    obtain ⟨D, d, rfl, h, -, -⟩ := h.op
    exact ⟨D, d, rfl, h, hb⟩
theorem Mat.two {k : Nat} {w : World} {g n : Nat} {t : TypeId} {v1 v2 : Value} {f1 f2 : Nat → Rat} (L : Loc w g t #[v1, v2]) (h1 : Nums k w (fun _ => False) v1 n f1) (h2 : Nums k w (fun _ => False) v2 n f2) :
    Mat k w (fun _ => False) (.slice (some ⟨g, 0, none⟩) 2 2) 2 (fun _ => n) (fun i => if i = 0 then f1 else f2) := by
  refine ⟨[v1, v2], _, _, rfl, rfl, Nat.le_refl _, by decide, fun _ => ⟨_, rfl, L.lt, id, fun i u hu => ?_⟩, fun i u hu => ?_⟩
  · have e : (⟨g, 0, none⟩ : Addr).add i = ⟨g, i, none⟩ := by simp [Addr.add]; intro h; omega
    rw [e, Loc.cell L]
    simpa using hu
  · have hi := (List.getElem?_eq_some_iff.1 hu).1
    rcases (show i = 0 ∨ i = 1 by simp at hi; omega) with rfl | rfl
    · simp at hu; subst hu; exact h1
    · simp at hu; subst hu; exact h2
theorem Mat.one {k : Nat} {w : World} {g n : Nat} {t : TypeId} {v1 : Value} {f1 : Nat → Rat} (L : Loc w g t #[v1]) (h1 : Nums k w (fun _ => False) v1 n f1) :
    Mat k w (fun _ => False) (.slice (some ⟨g, 0, none⟩) 1 1) 1 (fun _ => n) (fun _ => f1) := by
  refine ⟨[v1], _, _, rfl, rfl, Nat.le_refl _, by decide, fun _ => ⟨_, rfl, L.lt, id, fun i u hu => ?_⟩, fun i u hu => ?_⟩
  · have e : (⟨g, 0, none⟩ : Addr).add i = ⟨g, i, none⟩ := by simp [Addr.add]; intro h; omega
    rw [e, Loc.cell L]
    simpa using hu
  · have hi := (List.getElem?_eq_some_iff.1 hu).1
    obtain rfl : i = 0 := by simp at hi; omega
    simp at hu; subst hu; exact h1

set_option maxRecDepth 100000 in
set_option maxHeartbeats 4000000 in
theorem sameL_any (w : World) (v1 v2 : Value) (n1 n2 k : Nat) (f q : Nat → Rat) (h1 : Nums k w (fun _ => False) v1 n1 f) (h2 : Nums k w (fun _ => False) v2 n2 q) (hk : k ≤ 1000000) :
    Calls Tryz.prog 37 #[v1, v2] w fun e w' => Tells (n1 = n2 ∧ ∀ i, i < n1 → f i = q i) e ∧ Below w.heap.size w w' := by
  go_enter Tryz.func37, Tryz.ntmps37
  go_wp2_with fail
  refine (equalF_any _ _ _ n1 n2 k f q h1 h2 hk).mono ?_
  rintro e w1 ⟨⟨b, rfl, hb⟩, hb1⟩
  go_wp2_with fail
  go_ret
  exact ⟨⟨b, rfl, hb⟩, bel⟩

theorem Sys.mat {k : Nat} {w : World} {v0 v1 : Value} {m mb : Nat} {N : Nat → Nat} {F : Nat → Nat → Rat} {Bv : Nat → Rat} (h : Sys k w (.agg #[v0, v1]) m mb N F Bv) : Mat k w (fun _ => False) v0 m N F := by
  obtain ⟨A, c, B, d, e, h1, h2⟩ := h
  simp at e
  obtain ⟨rfl, rfl⟩ := e
  exact h1
theorem Sys.rhs {k : Nat} {w : World} {v0 v1 : Value} {m mb : Nat} {N : Nat → Nat} {F : Nat → Nat → Rat} {Bv : Nat → Rat} (h : Sys k w (.agg #[v0, v1]) m mb N F Bv) : Nums k w (fun _ => False) v1 mb Bv := by
  obtain ⟨A, c, B, d, e, h1, h2⟩ := h
  simp at e
  obtain ⟨rfl, rfl⟩ := e
  exact h2

set_option maxRecDepth 100000 in
set_option maxHeartbeats 32000000 in
theorem known08_any (w : World) : Calls Tryz.prog 11 #[] w fun e w' => e = .returned (.bool true) ∧ Below w.heap.size w w' := by
  go_enter Tryz.func11, Tryz.ntmps11
  go_upto_region 1 with fail
  go_cut [1] from 7 to 14 (fun p W => ∃ (g : Nat) (A B : Option Addr) (c d : Nat), p = .pointer (some ⟨g, 0, none⟩) ∧ w.heap.size ≤ g ∧ Loc W g 25 #[.slice A 2 c, .slice B 2 d] ∧ Hid (Sys 2 W (.agg #[.slice A 2 c, .slice B 2 d]) 2 2 (fun _ => 2) kA (zi [3, 1])) ∧ Below w.heap.size w W)
  case first =>
    go_wp2_with fail
    refine (row2 _ _ _ 1 1 (made1 w #[.int .i64 1, .int .i64 1] 3) (by decide) (by decide)).mono ?_
    rintro e w1 ⟨D1, d1, rfl, h1, hb1⟩
    have y1 := hb1.size; (try simp only [World.size_alloc, size_set, size_drew, size_drewN] at y1)
    go_wp2_with fail
    refine (row2 _ _ _ 1 (-1) (made1 w1 #[.int .i64 1, .int .i64 (-1)] 3) (by decide) (by decide)).mono ?_
    rintro e w2 ⟨D2, d2, rfl, h2, hb2⟩
    have y2 := hb2.size; (try simp only [World.size_alloc, size_set, size_drew, size_drewN] at y2)
    go_wp2_with fail
    refine (row2 _ _ _ 3 1 (made2 w2 (.cells #[.slice D1 2 d1, .slice D2 2 d2] 23) #[.int .i64 3, .int .i64 1] 3) (by decide) (by decide)).mono ?_
    rintro e w3 ⟨D3, d3, rfl, h3, hb3⟩
    have y3 := hb3.size; (try simp only [World.size_alloc, size_set, size_drew, size_drewN] at y3)
    have LM : Loc w3 w2.heap.size _ _ := (made1 w2 #[.slice D1 2 d1, .slice D2 2 d2] 23).to (w' := w3)
    have HSy : Hid (Sys 2 w3 (.agg #[.slice (some ⟨w2.heap.size, 0, none⟩) 2 2, .slice D3 2 d3]) 2 2 (fun _ => 2) kA (zi [3, 1])) := ⟨_, _, _, _, rfl, Mat.two LM (h1.out.keep kp) (h2.out.keep kp), h3.out⟩
    clear h1 h2 h3
    go_wp2_with fail
    go_meet
    exact ⟨_, _, _, _, _, rfl, by omega, made1 w3 #[.slice (some ⟨w2.heap.size, 0, none⟩) 2 2, .slice D3 2 d3] 25, HSy.out.keep kp, bel⟩
  case rest =>
    obtain ⟨g1, A1, B1, c1, d1, rfl, hg1, L1, HS1, hb1⟩ := hcut
    obtain ⟨w1, rfl⟩ : ∃ w1 : World, w1 = wc := ⟨_, rfl⟩
    have y1 := hb1.size
    have q1 := L1.lt
    go_upto_region 2 with fail
    go_cut [2] from 15 to 20 (fun p W => ∃ (g : Nat) (A B : Option Addr) (c d : Nat), p = .pointer (some ⟨g, 0, none⟩) ∧ w1.heap.size ≤ g ∧ Loc W g 25 #[.slice A 1 c, .slice B 1 d] ∧ Hid (Sys 2 W (.agg #[.slice A 1 c, .slice B 1 d]) 1 1 (fun _ => 1) (fun _ => zi [1]) (zi [-1])) ∧ Below w1.heap.size w1 W)
    case first =>
      go_wp2_with fail
      refine (row1 _ _ _ 1 (made1 w1 #[.int .i64 1] 3) (by decide)).mono ?_
      rintro e w2 ⟨D1, e1, rfl, h1, hb2⟩
      have y2 := hb2.size; (try simp only [World.size_alloc, size_set, size_drew, size_drewN] at y2)
      go_wp2_with fail
      refine (row1 _ _ _ (-1) (made2 w2 (.cells #[.slice D1 1 e1] 23) #[.int .i64 (-1)] 3) (by decide)).mono ?_
      rintro e w3 ⟨D2, e2, rfl, h2, hb3⟩
      have y3 := hb3.size; (try simp only [World.size_alloc, size_set, size_drew, size_drewN] at y3)
      have LM : Loc w3 w2.heap.size _ _ := (made1 w2 #[.slice D1 1 e1] 23).to (w' := w3)
      have HSy : Hid (Sys 2 w3 (.agg #[.slice (some ⟨w2.heap.size, 0, none⟩) 1 1, .slice D2 1 e2]) 1 1 (fun _ => 1) (fun _ => zi [1]) (zi [-1])) := ⟨_, _, _, _, rfl, Mat.one LM (h1.out.keep kp), h2.out⟩
      clear h1 h2
      go_wp2_with fail
      go_meet
      exact ⟨_, _, _, _, _, rfl, by omega, made1 w3 #[.slice (some ⟨w2.heap.size, 0, none⟩) 1 1, .slice D2 1 e2] 25, HSy.out.keep kp, bel⟩
    case rest =>
      obtain ⟨g2, A2, B2, c2, d2, rfl, hg2, L2, HS2, hb2⟩ := hcut
      obtain ⟨w2, rfl⟩ : ∃ w2 : World, w2 = wc := ⟨_, rfl⟩
      have y2 := hb2.size
      have q2 := L2.lt
      have L12 : Loc w2 g1 _ _ := L1.to
      have HS12 := Lib.hid (HS1.out.keep (.of_below hb2))
      obtain ⟨x1, f1, l1⟩ := L12.all
      have hw2 : Below w.heap.size w w2 := hb1.trans (hb2.mono y1)
      clear hb1 hb2 L1 HS1
      go_upto_region 3 with fail
      go_cut [3, 4] from 21 to 25 (fun p q W => q = .int .i64 0 ∧ ∃ (g ny : Nat) (X Y : Option Addr) (c d : Nat), p = .pointer (some ⟨g, 0, none⟩) ∧ w2.heap.size ≤ g ∧ Loc W g 32 #[.bool true, .slice X 2 c, .slice Y ny d] ∧ Hid (Nums 126 W (fun _ => False) (.slice X 2 c) 2 (zi [2, 1])) ∧ Below w2.heap.size w2 W)
      case first =>
        go_wp2_with fail
        refine (solve_any _ _ 2 2 2 126 779 (fun _ => 2) kA (zi [3, 1]) HS12.out (by decide) (by decide) (by decide) (by decide) (by decide) (by decide) (HS12.out.sz1 (by decide) (by decide) (fun _ _ => by decide) (by decide) (by decide))).mono ?_
        rintro e w3 ⟨b, vX, vY, nx, ny, f, y, code, rfl, hn, hs, hb3⟩
        have y3 := hb3.size
        obtain ⟨rfl, hrs⟩ := hs.out.1 k_vs
        obtain ⟨rfl, rfl, hf⟩ := k_rs hrs
        obtain ⟨X, cX, rfl, hx, -, -⟩ := hn.out.1.op
        obtain ⟨Y, cY, rfl, hy, -, -⟩ := hn.out.2.op
        have HX := Lib.hid (hx.congr (f' := zi [2, 1]) (fun i hi => (hf i hi).symm))
        clear hn hs hrs hf hx hy
        go_wp2_with fail
        go_meet
        exact ⟨rfl, _, _, _, _, _, _, rfl, by omega, made1 w3 #[.bool true, .slice X 2 cX, .slice Y ny cY] 32, HX.out.keep kp, bel⟩
      case rest =>
        obtain ⟨rfl, g3, ny, X3, Y3, c3, d3, rfl, hg3, L3, HX3, hb3⟩ := hcut
        obtain ⟨w3, rfl⟩ : ∃ w3 : World, w3 = wc := ⟨_, rfl⟩
        have y3 := hb3.size
        have q3 := L3.lt
        clear x1 f1 l1
        go_upto_region 4 with fail
        go_cut [5, 6] from 26 to 37 (fun p q W => q = .int .i64 0 ∧ ∃ (g nx ny nr : Nat) (X Y R A B : Option Addr) (c d e m1 m2 p1 p2 : Nat) (b b' : Bool), p = .pointer (some ⟨g, 0, none⟩) ∧ w3.heap.size ≤ g ∧ Loc W g 51 #[.int .i64 2, .slice X nx c, .slice Y ny d, .slice R nr e, .bool b, .slice A m1 p1, .bool b', .slice B m2 p2] ∧ Hid (RatL 1568 W (fun _ => False) (.agg #[.bool b, .slice A m1 p1, .bool b', .slice B m2 p2]) 3) ∧ Below w3.heap.size w3 W)
        case first =>
          go_wp2_with fail
          refine (row2 _ _ _ 1 1 (made1 w3 #[.int .i64 1, .int .i64 1] 3) (by decide) (by decide)).mono ?_
          rintro e w4 ⟨D1, e1, rfl, h1, hb4⟩
          have y4 := hb4.size; (try simp only [World.size_alloc, size_set, size_drew, size_drewN] at y4)
          go_wp2_with fail
          refine (row1 _ _ _ 3 (made2 w4 (.cells #[.slice D1 2 e1] 23) #[.int .i64 3] 3) (by decide)).mono ?_
          rintro e w5 ⟨D2, e2, rfl, h2, hb5⟩
          have y5 := hb5.size; (try simp only [World.size_alloc, size_set, size_drew, size_drewN] at y5)
          have LM : Loc w5 w4.heap.size _ _ := (made1 w4 #[.slice D1 2 e1] 23).to (w' := w5)
          have HSy : Hid (Sys 2 w5 (.agg #[.slice (some ⟨w4.heap.size, 0, none⟩) 1 1, .slice D2 1 e2]) 1 1 (fun _ => 2) (fun _ => zi [1, 1]) (zi [3])) := ⟨_, _, _, _, rfl, Mat.one LM (h1.out.keep kp), h2.out⟩
          clear h1 h2
          go_wp2_with fail
          refine (row2 _ _ _ 2 1 (made1 w5 #[.int .i64 2, .int .i64 1] 3) (by decide) (by decide)).mono ?_
          rintro e w6 ⟨D3, e3, rfl, h3, hb6⟩
          have y6 := hb6.size; (try simp only [World.size_alloc, size_set, size_drew, size_drewN] at y6)
          have HSz : Hid (Sys 2 w6 (.agg #[.slice (some ⟨w4.heap.size, 0, none⟩) 1 1, .slice D2 1 e2]) 1 1 (fun _ => 2) (fun _ => zi [1, 1]) (zi [3])) := HSy.out.keep kp
          go_wp2_with fail
          refine (minimizeTop_any _ _ _ 1 1 2 126 779 1568 2 (fun _ => 2) (fun _ => zi [1, 1]) (zi [3]) (zi [2, 1]) HSz.out h3.out (by decide) (by decide) (by decide) (by decide) (by decide) (by decide) (by decide) (by decide) (fun h _ => HSz.out.sz1 (by decide) (by decide) (fun _ _ => by decide) (by decide) (by decide) h) (HSz.out.sz2 h3.out (by decide) (by decide) (fun _ _ => by decide) (by decide) (by decide))).mono ?_
          rintro e w7 ⟨vO, code, kind, nx, ny, nr, f, y, r, val, rfl, HO, hs, hb7⟩
          have y7 := hb7.size
          obtain ⟨rfl, hop⟩ := hs.out.2.2 k_vs2 rfl
          obtain ⟨rfl, rfl⟩ := k_op.uniq hop
          obtain ⟨C, E, G, t3, t4, t5, b, A, p, c, b', A', p', c', rfl, -, -, -, hr⟩ := HO.out
          have HR := Lib.hid hr
          clear HO hs hop hr h3 HSy HSz
          go_wp2_with fail
          go_meet
          exact ⟨rfl, _, _, _, _, _, _, _, _, _, _, _, _, _, _, _, _, _, _, rfl, by omega, made1 w7 #[.int .i64 2, .slice C nx t3, .slice E ny t4, .slice G nr t5, .bool b, .slice A p c, .bool b', .slice A' p' c'] 51, HR.out.keep kp, bel⟩
        case rest =>
          obtain ⟨rfl, g5, nx5, ny5, nr5, X5, Y5, R5, A5, B5, c5, d5, e5, m51, m52, p51, p52, b5, b5', rfl, hg5, L5, HR5, hb5⟩ := hcut
          obtain ⟨w5, rfl⟩ : ∃ w5 : World, w5 = wc := ⟨_, rfl⟩
          have y5 := hb5.size
          have q5 := L5.lt
          have HS1 := Lib.hid (HS12.out.keep (.of_below (hb3.trans (hb5.mono y3))))
          have HSb := Lib.hid (HS2.out.keep (.of_below (hb3.trans (hb5.mono y3))))
          have HX := Lib.hid (HX3.out.keep (.of_below hb5))
          have hw5 : Below w.heap.size w w5 := (hw2.trans (hb3.mono (by have := hw2.size; omega))).trans (hb5.mono (by have := hw2.size; omega))
          have M1 : Loc w5 g1 _ _ := (L12.below' hb3 (by omega)).below' hb5 (by omega)
          have M2 : Loc w5 g2 _ _ := (L2.below' hb3 (by omega)).below' hb5 (by omega)
          have M3 : Loc w5 g3 _ _ := L3.below' hb5 (by omega)
          have HMA : Hid (∀ W, Keep (fun _ => False) w5 W → Sys 2 W (.agg #[.slice A1 2 c1, .slice B1 2 d1]) 2 2 (fun _ => 2) kA (zi [3, 1])) := fun W hW => HS1.out.keep hW
          have HMB : Hid (∀ W, Keep (fun _ => False) w5 W → Sys 2 W (.agg #[.slice A2 1 c2, .slice B2 1 d2]) 1 1 (fun _ => 1) (fun _ => zi [1]) (zi [-1])) := fun W hW => HSb.out.keep hW
          have HV1 : Hid (∀ W, Keep (fun _ => False) w5 W → Mat 2 W (fun _ => False) (.slice A1 2 c1) 2 (fun _ => 2) kA) := fun W hW => (HS1.out.keep hW).mat
          have HV2 : Hid (∀ W, Keep (fun _ => False) w5 W → Nums 2 W (fun _ => False) (.slice B1 2 d1) 2 (zi [3, 1])) := fun W hW => (HS1.out.keep hW).rhs
          have HR : Hid (∀ W, Keep (fun _ => False) w5 W → RatL 1000000 W (fun _ => False) (.agg #[.bool b5, .slice A5 m51 p51, .bool b5', .slice B5 m52 p52]) 3) := fun W hW => (HR5.out.keep hW).mono (by decide)
          clear hb3 hb5 L12 L2 L3 HS12 HS2 HX3 HS1 HSb HR5 hw2 hg1 hg2 hg3 hg5 q1 q2 q3 q5 y1 y2 y3 y5 
          go_wp2_with fail
          go_region_held3 (fun W => (W.cell? ⟨g1, 0, none⟩ = some (.slice A1 2 c1) ∧ W.cell? ⟨g1, 1, none⟩ = some (.slice B1 2 d1)) ∧ (W.cell? ⟨g2, 0, none⟩ = some (.slice A2 1 c2) ∧ W.cell? ⟨g2, 1, none⟩ = some (.slice B2 1 d2)) ∧ (W.cell? ⟨g3, 0, none⟩ = some (.bool true) ∧ W.cell? ⟨g3, 1, none⟩ = some (.slice X3 2 c3)) ∧ W.cell? ⟨g5, 0, none⟩ = some (.int .i64 2) ∧ (W.cell? ⟨g5, 4, none⟩ = some (.bool b5) ∧ W.cell? ⟨g5, 5, none⟩ = some (.slice A5 m51 p51)) ∧ W.cell? ⟨g5, 6, none⟩ = some (.bool b5') ∧ W.cell? ⟨g5, 7, none⟩ = some (.slice B5 m52 p52))
            (exact ⟨⟨Loc.c 0 M1, Loc.c 1 M1⟩, ⟨Loc.c 0 M2, Loc.c 1 M2⟩, ⟨Loc.c 0 M3, Loc.c 1 M3⟩, Loc.c 0 L5, ⟨Loc.c 4 L5, Loc.c 5 L5⟩, Loc.c 6 L5, Loc.c 7 L5⟩)
            (first
              | (go_at_call 14; refine (valid_any _ _ _ _ _ 2 _ _ _ (HV1.out _ kp) (HV2.out _ kp)).mono ?_; rintro e u1 ⟨he, hb11⟩; have he := he.eq (b := true) ⟨fun _ => k_vs, fun _ => rfl⟩; subst he; have y11 := hb11.size; (try simp only [World.size_alloc, size_set, size_drew, size_drewN] at y11))
              | (go_at_call_of 36 (Value.slice (some ⟨u1.heap.size, 0, none⟩) 2 2); refine (row2 _ _ _ 2 1 (made1 u1 #[.int .i64 2, .int .i64 1] 3) (by decide) (by decide)).mono ?_; rintro e u2 ⟨D12, e12, rfl, h12, hb12⟩; have y12 := hb12.size; (try simp only [World.size_alloc, size_set, size_drew, size_drewN] at y12))
              | (go_at_call_of 16 (Value.slice D12 2 e12); refine (checkPoint_any _ _ _ (HMA.out _ kp) (h12.out.keep kp) (by decide) (by decide)).mono ?_; rintro e u3 ⟨he, hb13⟩; have he := he.eq (b := true) ⟨fun _ => k_pt, fun _ => rfl⟩; subst he; have y13 := hb13.size; (try simp only [World.size_alloc, size_set, size_drew, size_drewN] at y13))
              | (go_at_call_of 36 (Value.slice (some ⟨u3.heap.size, 0, none⟩) 2 2); refine (row2 _ _ _ 1 2 (made1 u3 #[.int .i64 1, .int .i64 2] 3) (by decide) (by decide)).mono ?_; rintro e u4 ⟨D14, e14, rfl, h14, hb14⟩; have y14 := hb14.size; (try simp only [World.size_alloc, size_set, size_drew, size_drewN] at y14))
              | (go_at_call_of 16 (Value.slice D14 2 e14); refine (checkPoint_any _ _ _ (HMA.out _ kp) (h14.out.keep kp) (by decide) (by decide)).mono ?_; rintro e u5 ⟨he, hb15⟩; have he := he.eq (b := false) ⟨fun h => (by cases h), fun h => absurd h k_npt⟩; subst he; have y15 := hb15.size; (try simp only [World.size_alloc, size_set, size_drew, size_drewN] at y15))
              | (go_at_call_of 36 (Value.slice (some ⟨u5.heap.size, 0, none⟩) 1 1); refine (row1 _ _ _ 1 (made1 u5 #[.int .i64 1] 3) (by decide)).mono ?_; rintro e u6 ⟨D16, e16, rfl, h16, hb16⟩; have y16 := hb16.size; (try simp only [World.size_alloc, size_set, size_drew, size_drewN] at y16))
              | (go_at_call_of 18 (Value.slice D16 1 e16); refine (checkFarkas_any _ _ _ (HMB.out _ kp) (h16.out.keep kp) (by decide) (by decide)).mono ?_; rintro e u7 ⟨he, hb17⟩; have he := he.eq (b := true) ⟨fun _ => k_fk, fun _ => rfl⟩; subst he; have y17 := hb17.size; (try simp only [World.size_alloc, size_set, size_drew, size_drewN] at y17))
              | (go_at_call_of 36 (Value.slice (some ⟨u7.heap.size, 0, none⟩) 1 1); refine (row1 _ _ _ 0 (made1 u7 #[.int .i64 0] 3) (by decide)).mono ?_; rintro e u8 ⟨D18, e18, rfl, h18, hb18⟩; have y18 := hb18.size; (try simp only [World.size_alloc, size_set, size_drew, size_drewN] at y18))
              | (go_at_call_of 18 (Value.slice D18 1 e18); refine (checkFarkas_any _ _ _ (HMB.out _ kp) (h18.out.keep kp) (by decide) (by decide)).mono ?_; rintro e u9 ⟨he, hb19⟩; have he := he.eq (b := false) ⟨fun h => (by cases h), fun h => absurd h k_nfk⟩; subst he; have y19 := hb19.size; (try simp only [World.size_alloc, size_set, size_drew, size_drewN] at y19))
              | (go_at_call_of 36 (Value.slice (some ⟨u9.heap.size, 0, none⟩) 2 2); refine (row2 _ _ _ 2 1 (made1 u9 #[.int .i64 2, .int .i64 1] 3) (by decide) (by decide)).mono ?_; rintro e u10 ⟨D20, e20, rfl, h20, hb20⟩; have y20 := hb20.size; (try simp only [World.size_alloc, size_set, size_drew, size_drewN] at y20))
              | (go_at_call 37; refine (sameL_any _ _ _ 2 2 126 (zi [2, 1]) (zi [2, 1]) (HX.out.keep kp) ((h20.out.mono (by decide)).keep kp) (by decide)).mono ?_; rintro e u11 ⟨he, hb21⟩; have he := he.eq (b := true) ⟨fun _ => ⟨rfl, fun _ _ => rfl⟩, fun _ => rfl⟩; subst he; have y21 := hb21.size; (try simp only [World.size_alloc, size_set, size_drew, size_drewN] at y21))
              | (go_at_call 23; refine (rwholeN_any _ 3 (by decide) (by decide)).mono ?_; rintro e u12 ⟨v22, rfl, i22, hb22⟩; obtain ⟨b22, A22, m22, c22, b22', A22', m22', c22', rfl, i22, -, -⟩ := i22.op; have y22 := hb22.size; (try simp only [World.size_alloc, size_set, size_drew, size_drewN] at y22))
              | (go_at_call 27; refine (equal_any _ (fun _ => False) _ _ 3 ((3 : Int) : Rat) (HR.out _ kp) (RatL.to (i22.len ((rsz_int (z := 3) (by decide) (by decide)).mono (by decide))))).mono ?_; rintro e u13 ⟨he, hb23⟩; have he := he.eq (b := true) ⟨fun _ => rfl, fun _ => rfl⟩; subst he; have y23 := hb23.size; (try simp only [World.size_alloc, size_set, size_drew, size_drewN] at y23)))
          all_goals
            go_wp2_with fail
            go_ret
            exact ⟨rfl, hw5.trans ((bel : Below w5.heap.size w5 _).mono hw5.size)⟩
end Go.Proofs.YtpeglenapmkdfaaGreat

/- What optima say of each other, as the laws ask it. -/
namespace Go.Proofs.YtpeglenapmkdfaaGreat
open Go.RowKit
section
variable {m mb nx ny nr nc nx' ny' nr' : Nat} {N : Nat → Nat} {F : Nat → Nat → Rat} {f y r Bv kc f' y' r' : Nat → Rat} {val val' : Rat} {k k' : Int} {b : Bool}
theorem OP.uniqS (h : OP k m mb N F Bv nc kc nx f ny y nr r val) (h' : OP k' m mb N F Bv nc kc nx' f' ny' y' nr' r' val') : k = k' ∧ val = val' := by
  obtain rfl := h.1.2.2.1
  exact h.uniq h'
theorem OP.kinds (h : OP k m mb N F Bv nc kc nx f ny y nr r val) : k = 0 ∨ k = 1 ∨ k = 2 := by
  obtain ⟨-, -, h⟩ := h
  rcases h with ⟨h, -⟩ | ⟨h, -⟩ | ⟨h, -⟩
  · exact .inl h
  · exact .inr (.inl h)
  · exact .inr (.inr h)
theorem OP.none (h : OP 0 m mb N F Bv nc kc nx f ny y nr r val) : FK m mb N F Bv ny y := by
  obtain ⟨-, -, h⟩ := h
  rcases h with ⟨-, h⟩ | ⟨h, -⟩ | ⟨h, -⟩
  · exact h.1
  · exact absurd h (by decide)
  · exact absurd h (by decide)
theorem OP.some (h : OP k m mb N F Bv nc kc nx f ny y nr r val) (hk : k ≠ 0) : PT m mb N F Bv nx f := by
  obtain ⟨-, -, h⟩ := h
  rcases h with ⟨h, -⟩ | ⟨-, h⟩ | ⟨-, h⟩
  · exact absurd h hk
  · exact h.1
  · exact h.1
theorem optimum_no (h : OP 0 m mb N F Bv nc kc nx f ny y nr r val) (h' : RS b m mb N F Bv nx' f' ny' y') : b = false := rs_fk h' h.none
theorem optimum_yes (h : OP k m mb N F Bv nc kc nx f ny y nr r val) (hk : k ≠ 0) (h' : RS b m mb N F Bv nx' f' ny' y') : b = true := rs_pt h' (h.some hk)
theorem op2_le (h : OP 2 m mb N F Bv nc kc nx f ny y nr r val) (hp : PT m mb N F Bv nx' f') : nx' = nc ∧ val ≤ sm nc (fun j => kc j * f' j) := by
  obtain ⟨-, hn, h⟩ := h
  rcases h with ⟨h, -⟩ | ⟨h, -⟩ | ⟨-, h⟩
  · exact absurd h (by decide)
  · exact absurd h (by decide)
  obtain rfl := hp.1.2.2.1
  have h1 := val_le hp h.2.1.2
  rw [h.2.2.2.2, ← hn] at h1
  exact ⟨hp.2.1.trans hn.symm, h1⟩
theorem rcmp_nonneg {x y : Rat} (h : y ≤ x) : 0 ≤ rcmp x y := by
  have h2 : 0 ≤ x - y := by grind
  unfold rcmp
  have h3 := Rat.num_nonneg.2 h2
  rcases Int.lt_trichotomy (x - y).num 0 with h | h | h
  · omega
  · rw [h]; decide
  · rw [Int.sign_eq_one_of_pos h]; decide
end
end Go.Proofs.YtpeglenapmkdfaaGreat

