/- Contracts of the functions that the statements reach, part 37. -/
import Derived.Test.YtdambnieminnfaaGreatRows
import Derived.Test.YtdambnieminnfaaGreatZ17
import Derived.Test.YtdambnieminnfaaGreatZ31
import Derived.Test.YtdambnieminnfaaGreatZ33
import Derived.Test.YtdambnieminnfaaGreatZ35
import Derived.Test.YtdambnieminnfaaGreatZ36
set_option linter.unusedSimpArgs false
set_option linter.unusedVariables false

/- farkas. -/
namespace Go.Proofs.YtdambnieminnfaaGreat
open Go.RowKit
attribute [local go_sem ↓] Go.wp_at_zero Go.wp_at_succ

theorem ValL.grow {k g : Nat} {w w2 : World} {v : Value} {rs : List R4} {f : Nat → Rat} {r : R4} (hv : ValL k w (fun b => v.ownBlock = some b) rs f) (hr : RatL k w (fun b => v.ownBlock = some b) r.v (f rs.length)) (hg : w.grownBy w2 v.ownBlock) (ho : v.ownBlock = some g ∨ g = w.heap.size) :
 ValL k w2 (fun b => b = g) (rs ++ [r]) f := by
 have h1 : ValL k w (fun b => v.ownBlock = some b) (rs ++ [r]) f := hv.push hr
 have h2 : ValL k w (fun b => v.ownBlock = some b ∨ b = g) (rs ++ [r]) f := h1.weak (fun b hb h => by
  rcases h with h | h
  ·exact h
  ·rcases ho with ho | ho
   ·rw [h]; exact ho
   ·omega)
 have hk : Keep (fun b => v.ownBlock = some b ∨ b = g) w w2 := (Keep.refl _ w).grown hg (fun q hq => .inl (.inl hq))
 exact (h2.keep hk).weak (fun b _ h => .inr h)

set_option maxRecDepth 100000 in
set_option maxHeartbeats 16000000 in
theorem farkas_any (w : World) (l : Lay) (m n kk : Nat) (S : St) (k : Nat → Rat) (sg : Nat → Int) (hT : Tab w l m n S k sg) (hm : m ≤ 80) (hn : n ≤ 80) (hkk : 2 ≤ kk) (hkk2 : kk ≤ 100000) (hs : ∀ c, c ≤ n + m → Rsz kk (k c)) (hsg : ∀ i, i < m → sg i = 1 ∨ sg i = -1) :
 Calls Tryz.prog 102 #[.pointer (some ⟨l.p, 0, none⟩)] w fun e w' => ∃ v', e = .returned v' ∧ Nums (kk + kk + 10) w' (fun _ => False) v' m (fun i => ((-(sg i) : Int) : Rat) * (1 - k (n + i))) ∧ Fr w.heap.size v' ∧ Below w.heap.size w w' := by
 have HT := Lib.hid hT
 have HS := Lib.hid hs
 have HSG := Lib.hid hsg
 obtain ⟨⟨⟨cs, cr, cb, hbox, hcs, hcr, hcb⟩, ⟨ss, hsn, hss⟩, -⟩, -, hcost, -, -⟩ := hT
 have HSS := Lib.hid hss
 have hl := hbox.lt
 have g2 := hsn.lt
 have g3 := hcost.lt
 obtain ⟨N, hN⟩ : ∃ N, n + m + 1 = N := ⟨_, rfl⟩
 have HN := Lib.hid hN
 rw [hN] at hcost hbox
 have hmr : (m : Int) ≤ (cs : Int) := by omega
 obtain ⟨e1, f1, -⟩ := hbox.all (w' := w)
 clear hs hss hsg
 go_enter Tryz.func102, Tryz.ntmps102
 go_wp2_with fail
 go_loopw [3, 12] (fun v i wr => ∃ (ci : Nat) (rs : List R4), ci ≤ m ∧ i = .int .i64 ci ∧ OwnR wr w.heap.size v rs ∧ rs.length = ci ∧ ValL (kk + kk + 10) wr (fun b => v.ownBlock = some b) rs (fun i => ((-(sg i) : Int) : Rat) * (1 - k (n + i))) ∧ Below w.heap.size w wr) (fun _ i _ => m - (intOf i).toNat)
 case atStart => exact ⟨0, [], by omega, rfl, OwnR.nil _ _, rfl, fun i r hr => by simp at hr, bel⟩
 case round =>
  clear e1 f1
  obtain ⟨ci, rs, hci, rfl, hown, hrl, hv, hB⟩ := hrel
  obtain ⟨wo, rfl⟩ : ∃ wo : World, wo = wr := ⟨_, rfl⟩
  have y9 := hB.size
  by_cases hlt : ci < m
  ·have hKF : Keep (fun _ => False) w wo := .of_below hB
   have hbo : Loc wo _ _ _ := Loc.keep hbox hKF id
   have hsno : Loc wo _ _ _ := Loc.keep hsn hKF id
   have hsc : wo.cell? ⟨l.gs, ci, none⟩ = some (.int .i64 (sg ci)) := by rw [Loc.cell hsno, HSS.out ci hlt]
   obtain ⟨sv, hsv⟩ : ∃ s, sg ci = s := ⟨_, rfl⟩
   have hs1 := HSG.out ci hlt
   rw [hsv] at hsc hs1
   have HSV := Lib.hid hsv
   have hsw : IntKind.i64.wrap (-sv) = -sv := by rw [IntKind.wrap_i64]; omega
   obtain ⟨P, hP⟩ : ∃ P, n + ci = P := ⟨_, rfl⟩
   have hcp : P < N := by omega
   have HP := Lib.hid hP
   have hpw : (n : Int) + (ci : Int) = (P : Int) := by omega
   have hpw2 : IntKind.i64.wrap (P : Int) = P := by rw [IntKind.wrap_i64]; omega
   obtain ⟨b4, A4, m4, c4, b4', A4', m4', c4', x0, x1, x2, x3, r5, -⟩ := hcost.at hcp
   have HL : Hid (∀ W, Keep (fun _ => False) w W → ((W.cell? ⟨l.p, 3, none⟩ = some (.slice (some ⟨l.gc, 0, none⟩) N N) ∧ W.cell? ⟨l.p, 0, none⟩ = some (.int .i64 n)) ∧ (W.cell? ⟨l.gc, P * 4, none⟩ = some (.bool b4) ∧ W.cell? ⟨l.gc, P * 4 + 1, none⟩ = some (.slice A4 m4 c4)) ∧ W.cell? ⟨l.gc, P * 4 + 2, none⟩ = some (.bool b4') ∧ W.cell? ⟨l.gc, P * 4 + 3, none⟩ = some (.slice A4' m4' c4'))) := fun W hW =>
    ⟨⟨cell_keep (Loc.c 3 hbox) hl id hW, cell_keep (Loc.c 0 hbox) hl id hW⟩, ⟨cell_keep x0 g3 id hW, cell_keep x1 g3 id hW⟩, cell_keep x2 g3 id hW, cell_keep x3 g3 id hW⟩
   have k0 : (0 : Int) ≤ (P : Int) := by omega
   have k1 : (P : Int) < (N : Int) := by omega
   have k2 : (0 : Int) ≤ (ci : Int) := by omega
   have HKP : Hid (Rsz kk (k P)) := HS.out P (by omega)
   have HD : Hid (Rsz (kk + 3) (1 - k P)) := by
    show Rsz _ _
    have h := (rsz_int (z := 1) (by decide) (by decide)).add HKP.out.neg
    have e : ((1 : Int) : Rat) + -k P = 1 - k P := by have : ((1 : Int) : Rat) = 1 := rfl; grind
    rw [e] at h
    exact h.mono (by omega)
   have HPR : Hid (Rsz (kk + kk + 10) (((-sv : Int) : Rat) * (1 - k P))) := by
    show Rsz _ _
    exact ((rsz_int (z := -sv) (by omega) (by omega)).mul HD.out).mono (by omega)
   clear x0 x1 x2 x3 hsv hP
   go_upto_region 5 with fail
   go_cut [6] from 17 to 30 (fun v W => ∃ (g10 : Nat) (b7 : Bool) (A7 : Option Addr) (m7 c7 : Nat) (b7' : Bool) (A7' : Option Addr) (m7' c7' : Nat), v = .pointer (some ⟨g10, 0, none⟩) ∧ wo.heap.size ≤ g10 ∧ Loc W g10 60 #[.bool b7, .slice A7 m7 c7, .bool b7', .slice A7' m7' c7'] ∧
    RatV W (fun b => b < wo.heap.size) (.agg #[.bool b7, .slice A7 m7 c7, .bool b7', .slice A7' m7' c7']) (1 - k P) ∧ Below wo.heap.size wo W)
   case first =>
    go_wp2_with fail
    go_region_held3 (fun W => (W.cell? ⟨l.p, 3, none⟩ = some (.slice (some ⟨l.gc, 0, none⟩) N N) ∧ W.cell? ⟨l.p, 0, none⟩ = some (.int .i64 n)) ∧ (W.cell? ⟨l.gc, P * 4, none⟩ = some (.bool b4) ∧ W.cell? ⟨l.gc, P * 4 + 1, none⟩ = some (.slice A4 m4 c4)) ∧ W.cell? ⟨l.gc, P * 4 + 2, none⟩ = some (.bool b4') ∧ W.cell? ⟨l.gc, P * 4 + 3, none⟩ = some (.slice A4' m4' c4'))
     (exact HL.out _ kp)
     (first
      | (go_at_call 141; refine (whole_lin _ 1 (by decide) (by decide)).mono ?_; rintro e u1 ⟨v6, rfl, i6, hb6⟩; rw [show ((1 : Int) : Rat) = 1 from rfl] at i6; obtain ⟨b6, A6, m6, c6, b6', A6', m6', c6', rfl, i6, -, -⟩ := i6.op; have y6 := hb6.size; (try simp only [zs] at y6))
      | (go_at_call 107; refine (sub_rat _ (fun _ => False) _ _ 1 (k P) (RatL.to (i6.len ((rsz_int (z := 1) (by decide) (by decide)).mono (by omega)))) (RatL.to ((r5.keep (hKF.weak (fun _ _ h => h.elim))).mono (by omega)))).mono ?_; rintro e u2 ⟨v7, rfl, i7, hb7⟩; obtain ⟨b7, A7, m7, c7, b7', A7', m7', c7', rfl, i7, -, -⟩ := i7.op; have y7 := hb7.size; (try simp only [zs] at y7); (first
        | (have h7 : Loc u2 wo.heap.size 60 #[.bool false, .slice none 0 0, .bool false, .slice none 0 0] := (made1 wo #[.bool false, .slice none 0 0, .bool false, .slice none 0 0] 60).to (w' := u2); obtain ⟨e7, g7, l7⟩ := h7.all (w' := u2))
        | (have h7 : Loc u2 u1.heap.size 60 #[.bool false, .slice none 0 0, .bool false, .slice none 0 0] := (made1 u1 #[.bool false, .slice none 0 0, .bool false, .slice none 0 0] 60).to (w' := u2); obtain ⟨e7, g7, l7⟩ := h7.all (w' := u2))
        | skip)))
    all_goals
     go_wp2_with fail
     go_meet
     first
      | (have q := Loc.fill4 (u := .bool b7) (v := .slice A7 m7 c7) (x := .bool b7') (y := .slice A7' m7' c7') h7; exact ⟨_, _, _, _, _, _, _, _, _, rfl, by omega, q, RatV.out i7, bel⟩)
      | exact ⟨_, _, _, _, _, _, _, _, _, rfl, by omega, made1 u2 _ _, RatV.out i7, bel⟩
   case rest =>
    obtain ⟨g10, b7, A7, m7, c7, b7', A7', m7', c7', rfl, hg10, NT, i7, hB7⟩ := hcut
    obtain ⟨w7, rfl⟩ : ∃ w7 : World, w7 = wc := ⟨_, rfl⟩
    have y8 := hB7.size; (try simp only [zs] at y8)
    have q8 := NT.lt
    have hown7 : Hid (∀ b, u3.ownBlock = some b → b < wo.heap.size) := fun b hb => (hown.lt hb).1
    go_wp2_with fail
    go_region_held3 (fun W => (W.cell? ⟨g10, 0, none⟩ = some (.bool b7) ∧ W.cell? ⟨g10, 1, none⟩ = some (.slice A7 m7 c7)) ∧ W.cell? ⟨g10, 2, none⟩ = some (.bool b7') ∧ W.cell? ⟨g10, 3, none⟩ = some (.slice A7' m7' c7'))
     (first | exact ⟨⟨Loc.c 0 NT9, Loc.c 1 NT9⟩, Loc.c 2 NT9, Loc.c 3 NT9⟩ | exact ⟨⟨Loc.c 0 NT, Loc.c 1 NT⟩, Loc.c 2 NT, Loc.c 3 NT⟩)
     (first
      | (go_at_call 141; refine (whole_lin _ (-sv) (by omega) (by omega)).mono ?_; rintro e u8 ⟨v8, rfl, i8, hb8⟩; obtain ⟨b9, A9, m9, c9, b9', A9', m9', c9', rfl, i8, -, -⟩ := i8.op; have y10 := hb8.size; (try simp only [zs] at y10))
      | (go_at_call 51; refine (mul_rat _ (fun _ => False) _ _ ((-sv : Int) : Rat) (1 - k P) (RatL.to (i8.len ((rsz_int (by omega) (by omega)).mono (show 2 ≤ 10000000 by omega)))) (RatL.to ((i7.len HD.out).mono (by omega)))).mono ?_; rintro e u9 ⟨v9, rfl, i9, hb9⟩; obtain ⟨b8, A8, m8, c8, b8', A8', m8', c8', rfl, i9, -, -⟩ := i9.op; have y11 := hb9.size; (try simp only [zs] at y11); have NTa : Loc (u9.alloc (.cells #[.bool b8, .slice A8 m8 c8, .bool b8', .slice A8' m8' c8'] 60)) g10 _ _ := Loc.to NT)
      | (refine step_pushR _ rfl _ _ rfl w.heap.size u3 rs rfl (hown.below (bel : Below wo.heap.size wo (u9.alloc (.cells #[.bool b8, .slice A8 m8 c8, .bool b8', .slice A8' m8' c8'] 60)))) _ ⟨b8, A8, m8, c8, b8', A8', m8', c8'⟩ rfl (heap_alloc_new u9 _) (by omega) (by simp only [World.size_alloc]; omega) ?_; intro g cap w9 hown9 hg9 ho9 hl9; have NT9 : Loc w9 g10 _ _ := Loc.to NTa (k := Stay.refl.grown hg9 (fun e => by have := hown7.out _ e; omega))))
    all_goals
     have hbo9 : Below w.heap.size w (u9.alloc (.cells #[.bool b8, .slice A8 m8 c8, .bool b8', .slice A8' m8' c8'] 60)) := bel
     have hb99 : Below w.heap.size w w9 := below_own hbo9 (hown.below (bel : Below wo.heap.size wo (u9.alloc (.cells #[.bool b8, .slice A8 m8 c8, .bool b8', .slice A8' m8' c8'] 60)))) hg9 (Nat.le_refl _) (by simp only [World.size_alloc]; omega)
     have hvv : ValL (kk + kk + 10) (u9.alloc (.cells #[.bool b8, .slice A8 m8 c8, .bool b8', .slice A8' m8' c8'] 60)) (fun b => u3.ownBlock = some b) rs (fun i => ((-(sg i) : Int) : Rat) * (1 - k (n + i))) := hv.keep (Keep.of_below (bel : Below wo.heap.size wo (u9.alloc (.cells #[.bool b8, .slice A8 m8 c8, .bool b8', .slice A8' m8' c8'] 60))))
     have hrr9 : RatL (kk + kk + 10) (u9.alloc (.cells #[.bool b8, .slice A8 m8 c8, .bool b8', .slice A8' m8' c8'] 60)) (fun b => u3.ownBlock = some b) (R4.v ⟨b8, A8, m8, c8, b8', A8', m8', c8'⟩) (((-(sg rs.length) : Int) : Rat) * (1 - k (n + rs.length))) := by
      rw [hrl, HSV.out, HP.out]
      exact RatL.keep (RatL.weak (i9.len HPR.out) (fun b _ hb => by have := hown7.out b hb; show b < _; simp only [size_drew] at *; omega)) kp
     have hg3 := ValL.grow hvv hrr9 hg9 ho9
     clear hvv hrr9 hbo9 hb8 hb9 hB7 NT NTa
     go_wp2_with fail
     go_roundw
     case rel =>
      refine ⟨ci + 1, rs ++ [⟨b8, A8, m8, c8, b8', A8', m8', c8'⟩], by omega, by go_num, (by rw [hrl] at hown9; exact hown9), by simp [hrl], hg3.weak (fun b _ hb => ?_), hb99⟩
      injection hb with hb
      exact hb.symm
     case measure => simp only [intOf]; omega
  ·obtain rfl : m = ci := by omega
   go_wp2_with fail
   go_ret
   subst hrl
   exact ⟨_, rfl, hown.nums hv (fun _ _ h => h.elim) (fun _ _ h => h), fun a' n' c' e => (hown.lt (g := a'.block) (congrArg Value.ownBlock e)).2, hB⟩
end Go.Proofs.YtdambnieminnfaaGreat

/- What the tableaux at the ends of the two phases prove of the system: plain laws. -/
namespace Go.Proofs.YtdambnieminnfaaGreat

section
variable {m n : Nat} {F : Nat → Nat → Rat} {Bv kc : Nat → Rat} {S : St} {N : Nat → Nat}
theorem sgn_sq (Bv : Nat → Rat) (l : Nat) : ((sgn Bv l : Int) : Rat) * ((sgn Bv l : Int) : Rat) = 1 := by
 rcases sgn_or Bv l with h | h <;> rw [h]
 ·rw [show ((1 : Int) : Rat) = 1 from rfl]; grind
 ·rw [show ((-1 : Int) : Rat) = -1 from rfl]; grind
theorem sgn_cancel (Bv : Nat → Rat) (l : Nat) {x y : Rat} (h : ((sgn Bv l : Int) : Rat) * x = ((sgn Bv l : Int) : Rat) * y) : x = y := by
 have h2 := sgn_sq Bv l
 have : ((sgn Bv l : Int) : Rat) * (((sgn Bv l : Int) : Rat) * x) = ((sgn Bv l : Int) : Rat) * (((sgn Bv l : Int) : Rat) * y) := by rw [h]
 grind
/-- A solution of the first tableau solves the system. -/
theorem sv_of {f : Nat → Rat} {bv : Nat → Rat} (hf : ∀ j, j < n → 0 ≤ f j) (h : ∀ l, l < m → sm n (fun j => t0 m n F Bv l j * f j) = ((sgn Bv l : Int) : Rat) * bv l) : SV m n n F f bv := by
 refine ⟨rfl, fun j hj => Rat.not_lt.2 (hf j hj), fun l hl => sgn_cancel Bv l ?_⟩
 rw [← h l hl, ← sm_mul]
 exact sm_congr (fun j hj => by rw [t0_left hj]; grind)
theorem pt_sv (G : Good m n (t0 m n F Bv) S.T S.b) (hF : Feas m n S) (hZ : Zer m n S) : SV m n n F (pt m n S) Bv :=
 sv_of (fun j _ => pt_nonneg hF j) (fun l hl => by rw [pt_solves G hZ hl, t0_right])
/-- The vector of the duals, its signs back, times the system. -/
theorem du_left (G : Good m n (t0 m n F Bv) S.T S.b) (d : Nat → Rat) {c : Nat} (hc : c < n) : sm m (fun l => (((sgn Bv l : Int) : Rat) * du m n d S l) * F l c) = d c - rho m d S.T S.b c := by
 rw [G.dual (d := d) (show c ≤ n + m by omega), sm_congr (g := fun l => du m n d S l * t0 m n F Bv l c) (fun l _ => by rw [t0_left hc]; grind)]; grind
theorem du_right (G : Good m n (t0 m n F Bv) S.T S.b) (d : Nat → Rat) : sm m (fun l => (((sgn Bv l : Int) : Rat) * du m n d S l) * Bv l) = d (n + m) - rho m d S.T S.b (n + m) := by
 rw [G.dual (d := d) (Nat.le_refl (n + m)), sm_congr (g := fun l => du m n d S l * t0 m n F Bv l (n + m)) (fun l _ => by rw [t0_right]; grind)]; grind
theorem du_1 {l : Nat} (hl : l < m) : ((-(sgn Bv l) : Int) : Rat) * (1 - rho m (d1 m n) S.T S.b (n + l)) = -(((sgn Bv l : Int) : Rat) * du m n (d1 m n) S l) := by
 have h : d1 m n (n + l) = 1 := by unfold d1; rw [if_pos (by omega)]
 unfold du
 rw [h, Rat.intCast_neg]; grind
theorem rho_basic {T0 : Nat → Nat → Rat} {d : Nat → Rat} (G : Good m n T0 S.T S.b) {i : Nat} (hi : i < m) : rho m d S.T S.b (S.b i) = 0 := by
 unfold rho
 rw [sm_one _ i hi (fun l hl hne => by rw [G.id i hi l hl, if_neg hne]; grind), G.id i hi i hi, if_pos rfl]; grind
/-- The first phase fails: its duals are a Farkas vector. -/
theorem fk_of (hV : VS m m N) (hN : N 0 = n) (G : Good m n (t0 m n F Bv) S.T S.b) (hF : Feas m n S) (ho : ∀ j, j < n → ¬ rho m (d1 m n) S.T S.b j < 0) (hne : rho m (d1 m n) S.T S.b (n + m) ≠ 0) :
 FK m m N F Bv m (fun i => ((-(sgn Bv i) : Int) : Rat) * (1 - rho m (d1 m n) S.T S.b (n + i))) := by
 refine ⟨hV, rfl, ?_, fun j hj => ?_⟩
 ·have h := du_right G (d1 m n)
  rw [d1_right] at h
  rw [sm_congr (g := fun l => -((((sgn Bv l : Int) : Rat) * du m n (d1 m n) S l) * Bv l)) (fun l hl => by dsimp only; rw [du_1 hl]; grind), sm_neg, h]
  have := p1_le (n := n) hF
  have h0 : rho m (d1 m n) S.T S.b (n + m) < 0 := Rat.lt_of_le_of_ne this hne
  grind
 ·rw [hN] at hj
  have h := du_left G (d1 m n) hj
  have h0 : d1 m n j = 0 := by unfold d1; rw [if_neg (by omega)]
  rw [h0] at h
  rw [sm_congr (g := fun l => -((((sgn Bv l : Int) : Rat) * du m n (d1 m n) S l) * F l j)) (fun l hl => by dsimp only; rw [du_1 hl]; grind), sm_neg, h]
  have := ho j hj
  grind
/-- The first phase succeeds: its point solves the system. -/
theorem pt_of (hV : VS m m N) (hN : N 0 = n) (G : Good m n (t0 m n F Bv) S.T S.b) (hF : Feas m n S) (hZ : Zer m n S) : PT m m N F Bv n (pt m n S) :=
 ⟨hV, by rw [hN]; exact pt_sv G hF hZ⟩
end
end Go.Proofs.YtdambnieminnfaaGreat

/- feasible, Solve. -/
namespace Go.Proofs.YtdambnieminnfaaGreat
open Go.RowKit
attribute [local go_sem ↓] Go.wp_at_zero Go.wp_at_succ

theorem Tab.cong {w : World} {l : Lay} {m n : Nat} {S : St} {k k' : Nat → Rat} {sg : Nat → Int} (h : Tab w l m n S k sg) (hk : ∀ c, c ≤ n + m → k' c = k c) : Tab w l m n S k' sg :=
 ⟨h.fix, h.rows, h.cost.congr (fun i hi => hk i (by omega)), h.bas, h.dis⟩

/-- The sizes of all tableaux, told. -/
def Szk (K1 K2 m n : Nat) (T0 : Nat → Nat → Rat) (d : Nat → Rat) : Prop := ∀ S : St, Good m n T0 S.T S.b → (∀ r, r < m → ∀ c, c ≤ n + m → Rsz K1 (S.T r c)) ∧ ∀ r, r ≤ m → ∀ c, c ≤ n + m → Rsz K2 (prc d S r c)
theorem Szk.szs {K1 K2 m n : Nat} {T0 : Nat → Nat → Rat} {d : Nat → Rat} (h : Szk K1 K2 m n T0 d) (h1 : K1 ≤ 3000) (h2 : K2 ≤ 9000) : Szs m n T0 d := fun S hG => ⟨fun r hr c hc => ((h S hG).1 r hr c hc).mono h1, fun r hr c hc => ((h S hG).2 r hr c hc).mono h2⟩
theorem Szk.rho {K1 K2 m n : Nat} {T0 : Nat → Nat → Rat} {d : Nat → Rat} (h : Szk K1 K2 m n T0 d) {S : St} (hG : Good m n T0 S.T S.b) : ∀ c, c ≤ n + m → Rsz K2 (rho m d S.T S.b c) := fun c hc => (h S hG).2 m (Nat.le_refl m) c hc

/-- What the first phase leaves. -/
structure Ph1 (w w' : World) (m n : Nat) (F : Nat → Nat → Rat) (Bv : Nat → Rat) (l : Lay) (S : St) (ok : Bool) : Prop where
 good : Good m n (t0 m n F Bv) S.T S.b
 feas : Feas m n S
 ok : ok = true ↔ rho m (d1 m n) S.T S.b (n + m) = 0
 opt : ∀ j, j < n → ¬ rho m (d1 m n) S.T S.b j < 0
 tab : Tab w' l m n S (rho m (d1 m n) S.T S.b) (sgn Bv)
 low : ∀ b, l.X m b → w.heap.size ≤ b

set_option maxRecDepth 100000 in
set_option maxHeartbeats 8000000 in
theorem feasible_any (w : World) (m n k : Nat) (N : Nat → Nat) (F : Nat → Nat → Rat) (Bv : Nat → Rat) (va vb : Value) (hA : Mat k w (fun _ => False) va m N F) (hB : Nums k w (fun _ => False) vb m Bv) (hN : ∀ i, i < m → N i = n) (hm1 : 1 ≤ m) (hn1 : 1 ≤ n) (hm : m ≤ 80) (hn : n ≤ 80) (hk : k ≤ 1000) (hk1 : 1 ≤ k)
 (hs : Szs m n (t0 m n F Bv) (d1 m n)) :
 Calls Tryz.prog 101 #[.agg #[va, vb]] w fun e w' => ∃ (l : Lay) (S : St) (ok : Bool), e = .returned (.tuple #[.pointer (some ⟨l.p, 0, none⟩), .bool ok]) ∧ Hid (Ph1 w w' m n F Bv l S ok) ∧ Below w.heap.size w w' := by
 have HA := Lib.hid hA
 have HB := Lib.hid hB
 have HN := Lib.hid hN
 have HS := Lib.hid hs
 obtain ⟨A, cA, rfl, hA, la1, la2⟩ := hA.op
 obtain ⟨C, cB, rfl, hB, lb1, lb2⟩ := hB.op
 have L := made1 w #[.slice A m cA, .slice C m cB] 80
 clear hA hB hN hs
 go_enter Tryz.func101, Tryz.ntmps101
 go_wp2_with fail
 refine (begin_any _ m n k N F Bv _ _ (HA.out.keep kp) (HB.out.keep kp) HN.out hm1 hn1 hm hn hk hk1).mono ?_
 rintro e w1 ⟨l, rfl, hT, hb1, hlow⟩
 have hw0 : (w.alloc (.cells #[.slice A m cA, .slice C m cB] 80)).heap.size = w.heap.size + 1 := World.size_alloc _ _
 have hb1' : Below w.heap.size w w1 := bel
 have HT : Hid (Tab w1 l m n ⟨t0 m n F Bv, fun i => n + i⟩ (rho m (d1 m n) (t0 m n F Bv) (fun i => n + i)) (sgn Bv)) := hT.cong (fun c hc => c0_rho hc)
 have HLOW : Hid (∀ b, l.X m b → w.heap.size ≤ b) := fun b hb => by have := hlow b hb; omega
 have hG0 := t0_good (m := m) (n := n) (F := F) (Bv := Bv)
 clear hT hlow hw0
 go_wp2_with fail
 refine (minimize_any _ l m n (t0 m n F Bv) (d1 m n) ⟨t0 m n F Bv, fun i => n + i⟩ (sgn Bv) (fun _ => True) HT.out hG0 t0_feas trivial (fun _ _ _ _ _ _ => trivial) hm hn (fun S h => ⟨(HS.out S h).1, fun c hc => (HS.out S h).2 m (Nat.le_refl m) c hc⟩)).mono ?_
 rintro e w2 ⟨S, hG, hF, -, hT, hK, hres⟩
 have hend : Hid (e = .returned (.tuple #[.int .i64 0, .bool true]) ∧ ∀ j, j < n → ¬ rho m (d1 m n) S.T S.b j < 0) := by
  rcases hres.out with h | ⟨j, -, hj, hno⟩
  ·exact h
  ·obtain ⟨i, hi, hp⟩ := p1_bound hj
   exact absurd hp (hno i hi)
 have he := hend.out.1
 have HO := Lib.hid hend.out.2
 have HT2 := Lib.hid hT
 have HG := Lib.hid hG
 have HF := Lib.hid hF
 subst he
 have hb2 : Below w.heap.size w w2 := hb1'.trans (hK.low hb1'.size (fun b hb hx => by have := HLOW.out b hx; omega))
 obtain ⟨⟨⟨cs, cr, cb, hbox, hcs, hcr, hcb⟩, -, -⟩, -, ⟨rs, KC, hcl, hcv⟩, -, -⟩ := hT
 obtain ⟨R, hR⟩ : ∃ R, n + m = R := ⟨_, rfl⟩
 obtain ⟨M, hM⟩ : ∃ M, n + m + 1 = M := ⟨_, rfl⟩
 rw [hM] at hbox hcl
 have HR := Lib.hid hR
 have r0 : (0 : Int) ≤ (R : Int) := by omega
 have r1 : (R : Int) < (M : Int) := by omega
 obtain ⟨⟨b5, A5, m5, c5, b5', A5', m5', c5'⟩, hq5⟩ : ∃ q, rs[R]? = some q := ⟨_, List.getElem?_eq_getElem (by omega)⟩
 have j5 : RatL 100000 w2 _ _ _ := hcv R _ hq5
 obtain ⟨x0, x1, x2, x3⟩ := KC.cells hq5
 unfold R4.v at j5
 dsimp only at j5 x0 x1 x2 x3
 obtain ⟨sv, hsv⟩ : ∃ s, (rho m (d1 m n) S.T S.b R).num.sign = s := ⟨_, rfl⟩
 have HSV := Lib.hid hsv
 have HSZ : Hid (sv = 0 ↔ rho m (d1 m n) S.T S.b (n + m) = 0) := by show _ ↔ _; rw [← hsv, hR]; exact sign_zero_iff _
 have hlb := hbox.lt
 have hlc := KC.lt
 have HL : Hid (∀ W, Below w2.heap.size w2 W → W.cell? ⟨l.p, 3, none⟩ = some (.slice (some ⟨l.gc, 0, none⟩) M M) ∧ (W.cell? ⟨l.gc, R * 4, none⟩ = some (.bool b5) ∧ W.cell? ⟨l.gc, R * 4 + 1, none⟩ = some (.slice A5 m5 c5)) ∧ W.cell? ⟨l.gc, R * 4 + 2, none⟩ = some (.bool b5') ∧ W.cell? ⟨l.gc, R * 4 + 3, none⟩ = some (.slice A5' m5' c5')) := fun W hW => by
  refine ⟨Loc.cell (Loc.below hbox hW) 3, ⟨?_, ?_⟩, ?_, ?_⟩
  ·exact cell_keep (X := fun _ => False) x0 hlc id (.of_below hW)
  ·exact cell_keep (X := fun _ => False) x1 hlc id (.of_below hW)
  ·exact cell_keep (X := fun _ => False) x2 hlc id (.of_below hW)
  ·exact cell_keep (X := fun _ => False) x3 hlc id (.of_below hW)
 clear hR hM hsv x0 x1 x2 x3 hbox hcv KC hcl hq5 hK hG hF hend hres hb1 hb1' HT hG0
 by_cases hs0 : sv = 0
 ·subst hs0
  have HPH : Hid (∀ W, Below w2.heap.size w2 W → Hid (Ph1 w W m n F Bv l S true)) := fun W hW => ⟨HG.out, HF.out, ⟨fun _ => HSZ.out.1 rfl, fun _ => rfl⟩, HO.out, HT2.out.on (.of_below hW), HLOW.out⟩
  clear HSZ HO HF
  go_wp2_with fail
  go_region_held3 (fun W => W.cell? ⟨l.p, 3, none⟩ = some (.slice (some ⟨l.gc, 0, none⟩) M M) ∧ (W.cell? ⟨l.gc, R * 4, none⟩ = some (.bool b5) ∧ W.cell? ⟨l.gc, R * 4 + 1, none⟩ = some (.slice A5 m5 c5)) ∧ W.cell? ⟨l.gc, R * 4 + 2, none⟩ = some (.bool b5') ∧ W.cell? ⟨l.gc, R * 4 + 3, none⟩ = some (.slice A5' m5' c5'))
   (exact HL.out _ bel)
   (first
    | (go_at_call 140; refine (tright_any _ l m n (sgn Bv) (HT2.out.on kp).fix hm hn).mono ?_; rintro e u1 ⟨he, hb6⟩; rw [HR.out] at he; subst he; have y6 := hb6.size; (try simp only [zs] at y6))
    | (go_at_call 98; refine (sign_rat _ (fun _ => False) 100000 _ _ (RatL.to j5)).mono ?_; rintro e u2 ⟨he, hb7⟩; rw [HSV.out] at he; subst he; have y7 := hb7.size; (try simp only [zs] at y7)))
  all_goals
   go_wp2_with fail
   go_ret2
   exact ⟨l, S, true, rfl, HPH.out _ bel, hb2.trans ((bel : Below w2.heap.size w2 _).mono hb2.size)⟩
 ·have hs1 : (sv == 0) = false := beq_eq_false_iff_ne.2 hs0
  have HPH : Hid (∀ W, Below w2.heap.size w2 W → Hid (Ph1 w W m n F Bv l S false)) := fun W hW => ⟨HG.out, HF.out, ⟨fun h => (by cases h), fun h => absurd (HSZ.out.2 h) hs0⟩, HO.out, HT2.out.on (.of_below hW), HLOW.out⟩
  clear HSZ HO HF
  go_wp2_with fail
  go_region_held3 (fun W => W.cell? ⟨l.p, 3, none⟩ = some (.slice (some ⟨l.gc, 0, none⟩) M M) ∧ (W.cell? ⟨l.gc, R * 4, none⟩ = some (.bool b5) ∧ W.cell? ⟨l.gc, R * 4 + 1, none⟩ = some (.slice A5 m5 c5)) ∧ W.cell? ⟨l.gc, R * 4 + 2, none⟩ = some (.bool b5') ∧ W.cell? ⟨l.gc, R * 4 + 3, none⟩ = some (.slice A5' m5' c5'))
   (exact HL.out _ bel)
   (first
    | (go_at_call 140; refine (tright_any _ l m n (sgn Bv) (HT2.out.on kp).fix hm hn).mono ?_; rintro e u1 ⟨he, hb6⟩; rw [HR.out] at he; subst he; have y6 := hb6.size; (try simp only [zs] at y6))
    | (go_at_call 98; refine (sign_rat _ (fun _ => False) 100000 _ _ (RatL.to j5)).mono ?_; rintro e u2 ⟨he, hb7⟩; rw [HSV.out] at he; subst he; have y7 := hb7.size; (try simp only [zs] at y7)))
  all_goals
   go_wp2_with fail
   go_ret2
   exact ⟨l, S, false, rfl, HPH.out _ bel, hb2.trans ((bel : Below w2.heap.size w2 _).mono hb2.size)⟩

/- Solve. -/

theorem Loc.fill3 {w : World} {g : Nat} {t : TypeId} {a b c u v x : Value} (L : Loc w g t #[a, b, c]) : Loc (((w.setCell ⟨g, 0, none⟩ u).setCell ⟨g, 1, none⟩ v).setCell ⟨g, 2, none⟩ x) g t #[u, v, x] := by
 have := ((L.set 0 u).set 1 v).set 2 x
 simpa using this

/-- What Solve says. -/
def SolveSays (code : Int) (b : Bool) (m mb : Nat) (N : Nat → Nat) (F : Nat → Nat → Rat) (Bv : Nat → Rat) (nx : Nat) (f : Nat → Rat) (ny : Nat) (y : Nat → Rat) : Prop :=
 (VS m mb N → code = 0 ∧ RS b m mb N F Bv nx f ny y) ∧ (¬ VS m mb N → code = 1 ∧ b = false ∧ nx = 0 ∧ ny = 0)

set_option maxRecDepth 100000 in
set_option maxHeartbeats 8000000 in
theorem solve_any (w : World) (vs : Value) (m mb k K1 K2 : Nat) (N : Nat → Nat) (F : Nat → Nat → Rat) (Bv : Nat → Rat) (hS : Sys k w vs m mb N F Bv) (hk1 : 1 ≤ k) (hk : k ≤ 1000) (hK1 : 2 ≤ K1) (hK1' : K1 ≤ 3000) (hK2 : 2 ≤ K2) (hK2' : K2 ≤ 9000)
 (hs : VS m mb N → Szk K1 K2 m (N 0) (t0 m (N 0) F Bv) (d1 m (N 0))) :
 Calls Tryz.prog 62 #[vs] w fun e w' => ∃ (b : Bool) (vX vY : Value) (nx ny : Nat) (f y : Nat → Rat) (code : Int), e = .returned (.tuple #[.agg #[.bool b, vX, vY], .int .i64 code]) ∧
  Hid (Nums K1 w' (fun _ => False) vX nx f ∧ Nums (K2 + K2 + 10) w' (fun _ => False) vY ny y) ∧ Hid (SolveSays code b m mb N F Bv nx f ny y) ∧ Below w.heap.size w w' := by
 obtain ⟨A, cA, B, d, rfl, hA, hB⟩ := hS
 have HA := Lib.hid hA
 have HB := Lib.hid hB
 have HS := Lib.hid hs
 have L1 := made1 w #[.slice A m cA, .slice B mb d] 80
 have L2 := made2 w (.cells #[.slice A m cA, .slice B mb d] 80) #[.bool false, .slice none 0 0, .slice none 0 0] 76
 clear hA hB hs
 go_enter Tryz.func62, Tryz.ntmps62
 go_wp2_with fail
 refine (valid_any _ _ _ m mb k N F Bv (HA.out.keep kp) (HB.out.keep kp)).mono ?_
 rintro e w1 ⟨⟨b, rfl, hb⟩, hb1⟩
 obtain ⟨z1, z2⟩ := sz2 hb1
 have LF := Loc.fill3 (u := .bool false) (v := .slice none 0 0) (x := .slice none 0 0) (L2.to (w' := w1))
 obtain ⟨e1, f1, -⟩ := L1.all (w' := w1)
 obtain ⟨e2, f2, -⟩ := L2.all (w' := w1)
 cases b
 ·have HV : Hid (¬ VS m mb N) := fun h => by have := hb.out.2 h; cases this
  obtain ⟨e8, g8, -⟩ := LF.all
  clear hb
  go_wp2_with fail
  refine bodyPost_ret (by simp [results, Tryz.results62, go_sem, e8, g8] <;> rfl) rfl ⟨false, _, _, 0, 0, fun _ => 0, fun _ => 0, 1, rfl, ⟨Nums.nil _ _ _ _, Nums.nil _ _ _ _⟩, ⟨fun h => absurd h HV.out, fun _ => ⟨rfl, rfl, rfl, rfl⟩⟩, bel⟩
 have HV : Hid (VS m mb N) := hb.out.1 rfl
 clear hb LF
 obtain ⟨v1, v2, rfl, v4, v5, v6⟩ := HV.out
 obtain ⟨n, hnn⟩ : ∃ n, N 0 = n := ⟨_, rfl⟩
 have HN : Hid (∀ i, i < mb → N i = n) := fun i hi => by rw [← hnn]; exact v6 i hi
 have HN0 := Lib.hid hnn
 have HSZ := HS.out HV.out
 rw [hnn] at HSZ v4 v5
 have HSK := Lib.hid HSZ
 clear v6 hnn HSZ HS
 go_wp2_with fail
 refine (feasible_any _ mb n k N F Bv _ _ (HA.out.keep kp) (HB.out.keep kp) HN.out v1 v4 v2 v5 hk hk1 (HSK.out.szs hK1' hK2')).mono ?_
 rintro e w3 ⟨l, S, ok, rfl, HP, hb3⟩
 have z3 := hb3.size
 obtain ⟨e3, f3, l3⟩ := L2.all (w' := w3)
 clear e1 f1 e2 f2
 cases ok
 ·have HNE : Hid (rho mb (d1 mb n) S.T S.b (n + mb) ≠ 0) := fun h => by have := HP.out.ok.2 h; cases this
  clear e3 f3
  go_wp2_with fail
  refine (farkas_any _ l mb n K2 S _ (sgn Bv) (HP.out.tab.on kp) v2 v5 hK2 (by omega) (HSK.out.rho HP.out.good) (fun i _ => sgn_or Bv i)).mono ?_
  rintro e w4 ⟨v', rfl, hn4, hf4, hb4⟩
  have z4 := hb4.size
  obtain ⟨A4, c4, rfl, hn4, -, -⟩ := hn4.op
  have HN4 := Lib.hid hn4
  have HF4 := Lib.hid hf4
  have HFK : Hid (FK mb mb N F Bv mb (fun i => ((-(sgn Bv i) : Int) : Rat) * (1 - rho mb (d1 mb n) S.T S.b (n + i)))) := fk_of HV.out HN0.out HP.out.good HP.out.feas HP.out.opt HNE.out
  have LF := Loc.fill3 (u := .bool false) (v := .slice none 0 0) (x := .slice A4 mb c4) (L2.to (w' := w4))
  obtain ⟨e3, f3, l3⟩ := L2.all (w' := w4)
  obtain ⟨e8, g8, -⟩ := LF.all
  have hcs : ∀ u ∈ (#[.bool false, .slice none 0 0, .slice none 0 0] : Array Value), noW u := fun u hu => by
   simp at hu
   rcases hu with rfl | rfl
   ·exact noW_bool _
   ·exact noW_slice _ _ _
  have HCS := Lib.hid hcs
  clear hn4 hf4 hcs
  go_wp2_with fail
  refine bodyPost_ret (by simp [results, Tryz.results62, go_sem, e8, g8] <;> rfl) rfl ⟨false, _, _, 0, mb, fun _ => 0, _, 0, rfl, ⟨Nums.nil _ _ _ _, HN4.out.past (L2.to (w' := w4)) HCS.out HF4.out (by omega) kp⟩, ⟨fun _ => ⟨rfl, .inr ⟨rfl, rfl, HFK.out⟩⟩, fun h => absurd HV.out h⟩, bel⟩
 ·have HZ : Hid (Zer mb n S) := p1_zero HP.out.good HP.out.feas (HP.out.ok.1 rfl)
  clear e3 f3
  go_wp2_with fail
  refine (point_any _ l mb n K1 (t0 mb n F Bv) S _ (sgn Bv) (HP.out.tab.on kp) HP.out.good v2 v5 hK1 (fun r hr => (HSK.out S HP.out.good).1 r hr (n + mb) (Nat.le_refl _))).mono ?_
  rintro e w4 ⟨v', rfl, hn4, hf4, hb4⟩
  have z4 := hb4.size
  obtain ⟨A4, c4, rfl, hn4, -, -⟩ := hn4.op
  have HN4 := Lib.hid hn4
  have HF4 := Lib.hid hf4
  have HPT : Hid (PT mb mb N F Bv n (pt mb n S)) := pt_of HV.out HN0.out HP.out.good HP.out.feas HZ.out
  have LF := Loc.fill3 (u := .bool true) (v := .slice A4 n c4) (x := .slice none 0 0) (L2.to (w' := w4))
  obtain ⟨e3, f3, l3⟩ := L2.all (w' := w4)
  obtain ⟨e8, g8, -⟩ := LF.all
  have hcs : ∀ u ∈ (#[.bool false, .slice none 0 0, .slice none 0 0] : Array Value), noW u := fun u hu => by
   simp at hu
   rcases hu with rfl | rfl
   ·exact noW_bool _
   ·exact noW_slice _ _ _
  have HCS := Lib.hid hcs
  clear hn4 hf4 hcs
  go_wp2_with fail
  refine bodyPost_ret (by simp [results, Tryz.results62, go_sem, e8, g8] <;> rfl) rfl ⟨true, _, _, n, 0, _, fun _ => 0, 0, rfl, ⟨HN4.out.past (L2.to (w' := w4)) HCS.out HF4.out (by omega) kp, Nums.nil _ _ _ _⟩, ⟨fun _ => ⟨rfl, .inl ⟨rfl, rfl, HPT.out⟩⟩, fun h => absurd HV.out h⟩, bel⟩
end Go.Proofs.YtdambnieminnfaaGreat

/- The sizes of the tableaux of integer systems. -/
namespace Go.Proofs.YtdambnieminnfaaGreat
section
variable {m n a k : Nat} {F : Nat → Nat → Rat} {Bv : Nat → Rat}
/-- An integer of at most a. -/
def IntLe (a : Nat) (q : Rat) : Prop := ∃ z : Int, q = (z : Rat) ∧ z.natAbs ≤ a
theorem IntLe.turn {q : Rat} (l : Nat) (h : IntLe a q) : IntLe a (((sgn Bv l : Int) : Rat) * q) := by
 obtain ⟨z, rfl, hz⟩ := h
 refine ⟨sgn Bv l * z, by rw [Rat.intCast_mul], ?_⟩
 rcases sgn_or Bv l with e | e
 ·rw [e]; simpa using hz
 ·rw [e]; simpa using hz
theorem t0_int (ha : 1 ≤ a) (hF : ∀ i, i < m → ∀ j, j < n → IntLe a (F i j)) (hB : ∀ i, i < m → IntLe a (Bv i)) {l c : Nat} (hl : l < m) (hc : c ≤ n + m) : IntLe a (t0 m n F Bv l c) := by
 by_cases h : c < n
 ·rw [t0_left h]; exact (hF l hl c h).turn l
 ·by_cases h2 : c = n + m
  ·rw [h2, t0_right]; exact (hB l hl).turn l
  ·have e : c = n + (c - n) := by omega
   rw [e, t0_unit (by omega)]
   split
   ·exact ⟨1, rfl, ha⟩
   ·exact ⟨0, rfl, Nat.zero_le _⟩
theorem t0_wholeI (ha : 1 ≤ a) (hF : ∀ i, i < m → ∀ j, j < n → IntLe a (F i j)) (hB : ∀ i, i < m → IntLe a (Bv i)) : Whole m n a (t0 m n F Bv) := by
 refine ⟨fun _ => 1, fun l c => (t0 m n F Bv l c).num, fun l hl => ⟨Nat.one_pos, fun c hc => ?_⟩⟩
 obtain ⟨z, e, hz⟩ := t0_int ha hF hB hl hc
 dsimp only
 rw [e, Rat.num_intCast]
 refine ⟨hz, ?_⟩
 rw [show ((1 : Nat) : Rat) = 1 from rfl]; grind
theorem t0_sizeI (ha : 1 ≤ a) (hF : ∀ i, i < m → ∀ j, j < n → IntLe a (F i j)) (hB : ∀ i, i < m → IntLe a (Bv i)) (hk1 : 1 ≤ k) (hk : (2 * ((m + 1) * a)) ^ m < 4294967296 ^ k) {S : St} (G : Good m n (t0 m n F Bv) S.T S.b) :
 ∀ r, r < m → ∀ c, c ≤ n + m → Rsz k (S.T r c) := G.size ha (t0_wholeI ha hF hB) hk hk1
/-- The sizes of an integer system's tableaux in the first phase. -/
theorem szkI {K1 K2 : Nat} (ha : 1 ≤ a) (hF : ∀ i, i < m → ∀ j, j < n → IntLe a (F i j)) (hB : ∀ i, i < m → IntLe a (Bv i)) (hK1 : 1 ≤ K1) (hk : (2 * ((m + 1) * a)) ^ m < 4294967296 ^ K1) (hK2 : 2 + (2 + K1 + 1) * m + 3 ≤ K2) :
 Szk K1 K2 m n (t0 m n F Bv) (d1 m n) := fun S hG =>
 ⟨t0_sizeI ha hF hB hK1 hk hG, prc_size (t0_sizeI ha hF hB hK1 hk hG) hG.lt (fun c _ => rsz_d1 c) (by decide) hK2⟩
/-- The power that the sizes ask for, by bits. -/
theorem pow_bits {x e k : Nat} (h : x ≤ 2 ^ e) (hm : e * m < 32 * k) : x ^ m < 4294967296 ^ k := by
 refine Nat.lt_of_le_of_lt (Nat.pow_le_pow_left h m) ?_
 rw [← Nat.pow_mul, show (4294967296 : Nat) = 2 ^ 32 by decide, ← Nat.pow_mul]
 exact Nat.pow_lt_pow_right (by decide) hm
end
end Go.Proofs.YtdambnieminnfaaGreat

