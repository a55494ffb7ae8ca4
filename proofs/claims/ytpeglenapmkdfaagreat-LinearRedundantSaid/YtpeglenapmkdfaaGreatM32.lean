/- Contracts of the functions that the statements reach, part 32. -/
import Derived.Test.YtpeglenapmkdfaaGreatRows
import Derived.Test.YtpeglenapmkdfaaGreatM3
import Derived.Test.YtpeglenapmkdfaaGreatM20
import Derived.Test.YtpeglenapmkdfaaGreatM21
import Derived.Test.YtpeglenapmkdfaaGreatM26
set_option linter.unusedSimpArgs false
set_option linter.unusedVariables false

/- farkas. -/
namespace Go.Proofs.YtpeglenapmkdfaaGreat
open Go.RowKit
attribute [local go_sem ↓] Go.wp_at_zero Go.wp_at_succ

theorem ValL.grow {k g : Nat} {w w2 : World} {v : Value} {rs : List R4} {f : Nat → Rat} {r : R4} (hv : ValL k w (fun b => v.ownBlock = some b) rs f) (hr : RatL k w (fun b => v.ownBlock = some b) r.v (f rs.length)) (hg : w.grownBy w2 v.ownBlock) (ho : v.ownBlock = some g ∨ g = w.heap.size) :
    ValL k w2 (fun b => b = g) (rs ++ [r]) f := by
  have h1 : ValL k w (fun b => v.ownBlock = some b) (rs ++ [r]) f := hv.push hr
  have h2 : ValL k w (fun b => v.ownBlock = some b ∨ b = g) (rs ++ [r]) f := h1.weak (fun b hb h => by
    rcases h with h | h
    · exact h
    · rcases ho with ho | ho
      · rw [h]; exact ho
      · omega)
  have hk : Keep (fun b => v.ownBlock = some b ∨ b = g) w w2 := (Keep.refl _ w).grown hg (fun q hq => .inl (.inl hq))
  exact (h2.keep hk).weak (fun b _ h => .inr h)

set_option maxRecDepth 100000 in
set_option maxHeartbeats 16000000 in
theorem farkas_any (w : World) (l : Lay) (m n kk : Nat) (S : St) (k : Nat → Rat) (sg : Nat → Int) (hT : Tab w l m n S k sg) (hm : m ≤ 80) (hn : n ≤ 80) (hkk : 2 ≤ kk) (hkk2 : kk ≤ 100000) (hs : ∀ c, c ≤ n + m → Rsz kk (k c)) (hsg : ∀ i, i < m → sg i = 1 ∨ sg i = -1) :
    Calls Tryz.prog 48 #[.pointer (some ⟨l.p, 0, none⟩)] w fun e w' => ∃ v', e = .returned v' ∧ Nums (kk + kk + 10) w' (fun _ => False) v' m (fun i => ((-(sg i) : Int) : Rat) * (1 - k (n + i))) ∧ Fr w.heap.size v' ∧ Below w.heap.size w w' := by
  have HT := Lib.hid hT
  have HS := Lib.hid hs
  have HSG := Lib.hid hsg
  obtain ⟨⟨⟨cs, cr, cb, hbox, hcs, hcr, hcb⟩, ⟨ss, hsn, hss⟩, -⟩, -, hcost, -, -⟩ := hT
  have HSS := Lib.hid hss
  have hl := hbox.lt
  have g2 := hsn.lt
  have g3 := hcost.lt
  obtain ⟨N, hN⟩ : ∃ N, n + m + 1 = N := ⟨_, rfl⟩
  have HN := Lib.hid hN
  rw [hN] at hcost hbox
  have hmr : (m : Int) ≤ (cs : Int) := by omega
  obtain ⟨e1, f1, -⟩ := hbox.all (w' := w)
  clear hs hss hsg
  go_enter Tryz.func48, Tryz.ntmps48
  go_wp2_with fail
  go_loopw [3, 12] (fun v i wr => ∃ (ci : Nat) (rs : List R4), ci ≤ m ∧ i = .int .i64 ci ∧ OwnR wr w.heap.size v rs ∧ rs.length = ci ∧ ValL (kk + kk + 10) wr (fun b => v.ownBlock = some b) rs (fun i => ((-(sg i) : Int) : Rat) * (1 - k (n + i))) ∧ Below w.heap.size w wr) (fun _ i _ => m - (intOf i).toNat)
  case atStart => exact ⟨0, [], by omega, rfl, OwnR.nil _ _, rfl, fun i r hr => by simp at hr, bel⟩
  case round =>
    clear e1 f1
    obtain ⟨ci, rs, hci, rfl, hown, hrl, hv, hB⟩ := hrel
    obtain ⟨wo, rfl⟩ : ∃ wo : World, wo = wr := ⟨_, rfl⟩
    have y9 := hB.size
    by_cases hlt : ci < m
    · have hKF : Keep (fun _ => False) w wo := .of_below hB
      have hbo : Loc wo _ _ _ := Loc.keep hbox hKF id
      have hsno : Loc wo _ _ _ := Loc.keep hsn hKF id
      have hsc : wo.cell? ⟨l.gs, ci, none⟩ = some (.int .i64 (sg ci)) := by rw [Loc.cell hsno, HSS.out ci hlt]
      obtain ⟨sv, hsv⟩ : ∃ s, sg ci = s := ⟨_, rfl⟩
      have hs1 := HSG.out ci hlt
      rw [hsv] at hsc hs1
      have HSV := Lib.hid hsv
      have hsw : IntKind.i64.wrap (-sv) = -sv := by rw [IntKind.wrap_i64]; omega
      obtain ⟨P, hP⟩ : ∃ P, n + ci = P := ⟨_, rfl⟩
      have hcp : P < N := by omega
      have HP := Lib.hid hP
      have hpw : (n : Int) + (ci : Int) = (P : Int) := by omega
      have hpw2 : IntKind.i64.wrap (P : Int) = P := by rw [IntKind.wrap_i64]; omega
      obtain ⟨b4, A4, m4, c4, b4', A4', m4', c4', x0, x1, x2, x3, r5, -⟩ := hcost.at hcp
      have HL : Hid (∀ W, Keep (fun _ => False) w W → ((W.cell? ⟨l.p, 3, none⟩ = some (.slice (some ⟨l.gc, 0, none⟩) N N) ∧ W.cell? ⟨l.p, 0, none⟩ = some (.int .i64 n)) ∧ (W.cell? ⟨l.gc, P * 4, none⟩ = some (.bool b4) ∧ W.cell? ⟨l.gc, P * 4 + 1, none⟩ = some (.slice A4 m4 c4)) ∧ W.cell? ⟨l.gc, P * 4 + 2, none⟩ = some (.bool b4') ∧ W.cell? ⟨l.gc, P * 4 + 3, none⟩ = some (.slice A4' m4' c4'))) := fun W hW =>
        ⟨⟨cell_keep (Loc.c 3 hbox) hl id hW, cell_keep (Loc.c 0 hbox) hl id hW⟩, ⟨cell_keep x0 g3 id hW, cell_keep x1 g3 id hW⟩, cell_keep x2 g3 id hW, cell_keep x3 g3 id hW⟩
      have k0 : (0 : Int) ≤ (P : Int) := by omega
      have k1 : (P : Int) < (N : Int) := by omega
      have k2 : (0 : Int) ≤ (ci : Int) := by omega
      have HKP : Hid (Rsz kk (k P)) := HS.out P (by omega)
      have HD : Hid (Rsz (kk + 3) (1 - k P)) := by
        show Rsz _ _
        have h := (rsz_int (z := 1) (by decide) (by decide)).add HKP.out.neg
        have e : ((1 : Int) : Rat) + -k P = 1 - k P := by have : ((1 : Int) : Rat) = 1 := rfl; grind
        rw [e] at h
        exact h.mono (by omega)
      have HPR : Hid (Rsz (kk + kk + 10) (((-sv : Int) : Rat) * (1 - k P))) := by
        show Rsz _ _
        exact ((rsz_int (z := -sv) (by omega) (by omega)).mul HD.out).mono (by omega)
      clear x0 x1 x2 x3 hsv hP
      go_upto_region 5 with fail
      go_cut [6] from 17 to 30 (fun v W => ∃ (g10 : Nat) (b7 : Bool) (A7 : Option Addr) (m7 c7 : Nat) (b7' : Bool) (A7' : Option Addr) (m7' c7' : Nat), v = .pointer (some ⟨g10, 0, none⟩) ∧ wo.heap.size ≤ g10 ∧ Loc W g10 44 #[.bool b7, .slice A7 m7 c7, .bool b7', .slice A7' m7' c7'] ∧
        RatV W (fun b => b < wo.heap.size) (.agg #[.bool b7, .slice A7 m7 c7, .bool b7', .slice A7' m7' c7']) (1 - k P) ∧ Below wo.heap.size wo W)
      case first =>
        go_wp2_with fail
        go_region_held3 (fun W => (W.cell? ⟨l.p, 3, none⟩ = some (.slice (some ⟨l.gc, 0, none⟩) N N) ∧ W.cell? ⟨l.p, 0, none⟩ = some (.int .i64 n)) ∧ (W.cell? ⟨l.gc, P * 4, none⟩ = some (.bool b4) ∧ W.cell? ⟨l.gc, P * 4 + 1, none⟩ = some (.slice A4 m4 c4)) ∧ W.cell? ⟨l.gc, P * 4 + 2, none⟩ = some (.bool b4') ∧ W.cell? ⟨l.gc, P * 4 + 3, none⟩ = some (.slice A4' m4' c4'))
          (exact HL.out _ kp)
          (first
            | (go_at_call 62; refine (whole_lin _ 1 (by decide) (by decide)).mono ?_; rintro e u1 ⟨v6, rfl, i6, hb6⟩; rw [show ((1 : Int) : Rat) = 1 from rfl] at i6; obtain ⟨b6, A6, m6, c6, b6', A6', m6', c6', rfl, i6, -, -⟩ := i6.op; have y6 := hb6.size; (try simp only [World.size_alloc, size_set, size_drew, size_drewN] at y6))
            | (go_at_call 74; refine (sub_rat _ (fun _ => False) _ _ 1 (k P) (RatL.to (i6.len ((rsz_int (z := 1) (by decide) (by decide)).mono (by omega)))) (RatL.to ((r5.keep (hKF.weak (fun _ _ h => h.elim))).mono (by omega)))).mono ?_; rintro e u2 ⟨v7, rfl, i7, hb7⟩; obtain ⟨b7, A7, m7, c7, b7', A7', m7', c7', rfl, i7, -, -⟩ := i7.op; have y7 := hb7.size; (try simp only [World.size_alloc, size_set, size_drew, size_drewN] at y7); (first
              | (have h7 : Loc u2 wo.heap.size 44 #[.bool false, .slice none 0 0, .bool false, .slice none 0 0] := (made1 wo #[.bool false, .slice none 0 0, .bool false, .slice none 0 0] 44).to (w' := u2); obtain ⟨e7, g7, l7⟩ := h7.all (w' := u2))
              | (have h7 : Loc u2 u1.heap.size 44 #[.bool false, .slice none 0 0, .bool false, .slice none 0 0] := (made1 u1 #[.bool false, .slice none 0 0, .bool false, .slice none 0 0] 44).to (w' := u2); obtain ⟨e7, g7, l7⟩ := h7.all (w' := u2))
              | skip)))
        all_goals
          go_wp2_with fail
          go_meet
          first
            | (have q := Loc.fill4 (u := .bool b7) (v := .slice A7 m7 c7) (x := .bool b7') (y := .slice A7' m7' c7') h7; exact ⟨_, _, _, _, _, _, _, _, _, rfl, by omega, q, RatV.out i7, bel⟩)
            | exact ⟨_, _, _, _, _, _, _, _, _, rfl, by omega, made1 u2 _ _, RatV.out i7, bel⟩
      case rest =>
        obtain ⟨g10, b7, A7, m7, c7, b7', A7', m7', c7', rfl, hg10, NT, i7, hB7⟩ := hcut
        obtain ⟨w7, rfl⟩ : ∃ w7 : World, w7 = wc := ⟨_, rfl⟩
        have y8 := hB7.size; (try simp only [World.size_alloc, size_set, size_drew, size_drewN] at y8)
        have q8 := NT.lt
        have hown7 : Hid (∀ b, u3.ownBlock = some b → b < wo.heap.size) := fun b hb => (hown.lt hb).1
        go_wp2_with fail
        go_region_held3 (fun W => (W.cell? ⟨g10, 0, none⟩ = some (.bool b7) ∧ W.cell? ⟨g10, 1, none⟩ = some (.slice A7 m7 c7)) ∧ W.cell? ⟨g10, 2, none⟩ = some (.bool b7') ∧ W.cell? ⟨g10, 3, none⟩ = some (.slice A7' m7' c7'))
          (first | exact ⟨⟨Loc.c 0 NT9, Loc.c 1 NT9⟩, Loc.c 2 NT9, Loc.c 3 NT9⟩ | exact ⟨⟨Loc.c 0 NT, Loc.c 1 NT⟩, Loc.c 2 NT, Loc.c 3 NT⟩)
          (first
            | (go_at_call 62; refine (whole_lin _ (-sv) (by omega) (by omega)).mono ?_; rintro e u8 ⟨v8, rfl, i8, hb8⟩; obtain ⟨b9, A9, m9, c9, b9', A9', m9', c9', rfl, i8, -, -⟩ := i8.op; have y10 := hb8.size; (try simp only [World.size_alloc, size_set, size_drew, size_drewN] at y10))
            | (go_at_call 61; refine (mul_rat _ (fun _ => False) _ _ ((-sv : Int) : Rat) (1 - k P) (RatL.to (i8.len ((rsz_int (by omega) (by omega)).mono (show 2 ≤ 10000000 by omega)))) (RatL.to ((i7.len HD.out).mono (by omega)))).mono ?_; rintro e u9 ⟨v9, rfl, i9, hb9⟩; obtain ⟨b8, A8, m8, c8, b8', A8', m8', c8', rfl, i9, -, -⟩ := i9.op; have y11 := hb9.size; (try simp only [World.size_alloc, size_set, size_drew, size_drewN] at y11); have NTa : Loc (u9.alloc (.cells #[.bool b8, .slice A8 m8 c8, .bool b8', .slice A8' m8' c8'] 44)) g10 _ _ := Loc.to NT)
            | (refine step_pushR _ rfl _ _ rfl w.heap.size u3 rs rfl (hown.below (bel : Below wo.heap.size wo (u9.alloc (.cells #[.bool b8, .slice A8 m8 c8, .bool b8', .slice A8' m8' c8'] 44)))) _ ⟨b8, A8, m8, c8, b8', A8', m8', c8'⟩ rfl (heap_alloc_new u9 _) (by omega) (by simp only [World.size_alloc]; omega) ?_; intro g cap w9 hown9 hg9 ho9 hl9; have NT9 : Loc w9 g10 _ _ := Loc.to NTa (k := Stay.refl.grown hg9 (fun e => by have := hown7.out _ e; omega))))
        all_goals
          have hbo9 : Below w.heap.size w (u9.alloc (.cells #[.bool b8, .slice A8 m8 c8, .bool b8', .slice A8' m8' c8'] 44)) := bel
          have hb99 : Below w.heap.size w w9 := below_own hbo9 (hown.below (bel : Below wo.heap.size wo (u9.alloc (.cells #[.bool b8, .slice A8 m8 c8, .bool b8', .slice A8' m8' c8'] 44)))) hg9 (Nat.le_refl _) (by simp only [World.size_alloc]; omega)
          have hvv : ValL (kk + kk + 10) (u9.alloc (.cells #[.bool b8, .slice A8 m8 c8, .bool b8', .slice A8' m8' c8'] 44)) (fun b => u3.ownBlock = some b) rs (fun i => ((-(sg i) : Int) : Rat) * (1 - k (n + i))) := hv.keep (Keep.of_below (bel : Below wo.heap.size wo (u9.alloc (.cells #[.bool b8, .slice A8 m8 c8, .bool b8', .slice A8' m8' c8'] 44))))
          have hrr9 : RatL (kk + kk + 10) (u9.alloc (.cells #[.bool b8, .slice A8 m8 c8, .bool b8', .slice A8' m8' c8'] 44)) (fun b => u3.ownBlock = some b) (R4.v ⟨b8, A8, m8, c8, b8', A8', m8', c8'⟩) (((-(sg rs.length) : Int) : Rat) * (1 - k (n + rs.length))) := by
            rw [hrl, HSV.out, HP.out]
            exact RatL.keep (RatL.weak (i9.len HPR.out) (fun b _ hb => by have := hown7.out b hb; show b < _; simp only [size_drew] at *; omega)) kp
          have hg3 := ValL.grow hvv hrr9 hg9 ho9
          clear hvv hrr9 hbo9 hb8 hb9 hB7 NT NTa
          go_wp2_with fail
          go_roundw
          case rel =>
            refine ⟨ci + 1, rs ++ [⟨b8, A8, m8, c8, b8', A8', m8', c8'⟩], by omega, by go_num, (by rw [hrl] at hown9; exact hown9), by simp [hrl], hg3.weak (fun b _ hb => ?_), hb99⟩
            injection hb with hb
            exact hb.symm
          case measure => simp only [intOf]; omega
    · obtain rfl : m = ci := by omega
      go_wp2_with fail
      go_ret
      subst hrl
      exact ⟨_, rfl, hown.nums hv (fun _ _ h => h.elim) (fun _ _ h => h), fun a' n' c' e => (hown.lt (g := a'.block) (congrArg Value.ownBlock e)).2, hB⟩
end Go.Proofs.YtpeglenapmkdfaaGreat

/- column. -/
namespace Go.Proofs.YtpeglenapmkdfaaGreat
open Go.RowKit
attribute [local go_sem ↓] Go.wp_at_zero Go.wp_at_succ

set_option maxHeartbeats 4000000 in
theorem column_any (w : World) (va vb : Value) (m j k : Nat) (N : Nat → Nat) (F : Nat → Nat → Rat) (h : Mat k w (fun _ => False) va m N F) (hs : ∃ B p c, vb = .slice B p c) (hj : ∀ i, i < m → j < N i) (hm : m ≤ 200) :
    Calls Tryz.prog 44 #[.agg #[va, vb], .int .i64 j] w fun e w' => ∃ v', e = .returned v' ∧ Nums k w' (fun _ => False) v' m (fun i => F i j) ∧ Below w.heap.size w w' := by
  obtain ⟨A, c1, rfl, h, l1, l2⟩ := h.op
  obtain ⟨B, p, c2, rfl⟩ := hs
  have H := Lib.hid h
  have HJ := Lib.hid hj
  have i0 : (0 : Int) ≤ (j : Int) := by omega
  clear h hj
  go_enter Tryz.func44, Tryz.ntmps44
  go_wp2_with fail
  go_loopw [5, 11] (fun v i wr => ∃ (c : Nat) (rs : List R4), c ≤ m ∧ i = .int .i64 c ∧ OwnR wr w.heap.size v rs ∧ rs.length = c ∧ ValL k w (fun _ => False) rs (fun i => F i j) ∧ Below w.heap.size w wr) (fun _ i _ => m - (intOf i).toNat)
  case atStart => exact ⟨0, [], by omega, rfl, OwnR.nil _ _, rfl, fun i r hr => by simp at hr, bel⟩
  case round =>
    obtain ⟨c, rs, hc, rfl, hown, hrl, hv, hB⟩ := hrel
    obtain ⟨wo, rfl⟩ : ∃ wo : World, wo = wr := ⟨_, rfl⟩
    have y5 := hB.size; (try simp only [World.size_alloc, size_set, size_drew, size_drewN] at y5)
    by_cases hlt : c < m
    · obtain ⟨a, D, d, rfl, hab, -, hcell, hnum, l3, l4⟩ := Mat.at H.out hlt
      have hjc := HJ.out c hlt
      have j1 : (j : Int) < (N c : Int) := by omega
      obtain ⟨a', b3, A3, m3, c3, b3', A3', m3', c3', rfl, ha', -, x0, x1, x2, x3, r3⟩ := Nums.at hnum hjc
      have hcell' : wo.cell? (a.add c) = _ := cell_keep (X := fun _ => False) hcell (by rw [add_block]; exact hab) id (.of_below hB)
      replace x0 : wo.cell? (a'.add (j * 4)) = _ := cell_keep (X := fun _ => False) x0 (by rw [add_block]; exact ha') id (.of_below hB)
      replace x1 : wo.cell? ⟨(a'.add (j * 4)).block, (a'.add (j * 4)).off + 1, none⟩ = _ := cell_keep (X := fun _ => False) x1 (by simp only [add_block]; exact ha') id (.of_below hB)
      replace x2 : wo.cell? ⟨(a'.add (j * 4)).block, (a'.add (j * 4)).off + 2, none⟩ = _ := cell_keep (X := fun _ => False) x2 (by simp only [add_block]; exact ha') id (.of_below hB)
      replace x3 : wo.cell? ⟨(a'.add (j * 4)).block, (a'.add (j * 4)).off + 3, none⟩ = _ := cell_keep (X := fun _ => False) x3 (by simp only [add_block]; exact ha') id (.of_below hB)
      go_wp2_with (at_builtin; refine wpList_pushR _ rfl _ _ rfl w.heap.size _ rs rfl (hown.below ((Below.refl _ _).alloc (Nat.le_refl _) _)) _ ⟨b3, A3, m3, c3, b3', A3', m3', c3'⟩ rfl (heap_alloc_new wo _) (by omega) (by simp only [World.size_alloc]; omega) ?_)
      intro g cap w2 hown2 hg2 ho hl
      have hb2 : Below w.heap.size w w2 := below_own (hB.alloc y5 _) (hown.below ((Below.refl _ _).alloc (Nat.le_refl _) _)) hg2 (Nat.le_refl _) (by simp only [World.size_alloc]; omega)
      go_wp2_with fail
      go_roundw
      case rel =>
        refine ⟨c + 1, rs ++ [⟨b3, A3, m3, c3, b3', A3', m3', c3'⟩], by omega, by go_num, ?_, by simp [hrl], hv.push (by rw [hrl]; exact r3), hb2⟩
        exact hown2
      case measure => simp only [intOf]; omega
    · obtain rfl : c = m := by omega
      go_wp2_with fail
      go_ret
      subst hrl
      exact ⟨_, rfl, hown.nums (hv.keep (.of_below hB)) (fun _ _ h => h) (fun _ _ h => h), hB⟩
end Go.Proofs.YtpeglenapmkdfaaGreat

/- solves, CheckPoint. -/
namespace Go.Proofs.YtpeglenapmkdfaaGreat
open Go.RowKit
attribute [local go_sem ↓] Go.wp_at_zero Go.wp_at_succ

theorem dot_rsz {k n : Nat} {f q : Nat → Rat} (hf : ∀ i, i < n → Rsz k (f i)) (hq : ∀ i, i < n → Rsz k (q i)) (hn : n ≤ 200) (hk : k ≤ 2000) : Rsz 900000 (sm n (fun i => f i * q i)) := by
  have : ∀ i, i ≤ n → Rsz ((2 * k + 2) * i + 2) (sm i (fun i => f i * q i)) := fun i => by
    induction i with
    | zero => intro _; exact (rsz_int (z := 0) (by decide) (by decide))
    | succ i ih =>
      intro hi
      rw [sm_succ]
      exact ((ih (by omega)).add ((hf i (by omega)).mul (hq i (by omega)))).mono (by rw [Nat.mul_add]; omega)
  have h2 : (2 * k + 2) * n ≤ (2 * 2000 + 2) * 200 := Nat.mul_le_mul (by omega) (by omega)
  exact (this n (Nat.le_refl n)).mono (by omega)

/-- The numbers f are a point. -/
def SV (m n nx : Nat) (F : Nat → Nat → Rat) (f bv : Nat → Rat) : Prop := nx = n ∧ (∀ j, j < nx → ¬ f j < 0) ∧ ∀ i, i < m → sm n (fun j => F i j * f j) = bv i

set_option maxHeartbeats 8000000 in
theorem solves_any (w : World) (va vb vx vbv : Value) (m nx mb k : Nat) (N : Nat → Nat) (F : Nat → Nat → Rat) (f bv : Nat → Rat) (h : Mat k w (fun _ => False) va m N F) (hs : ∃ B p c, vb = .slice B p c)
    (hx : Nums k w (fun _ => False) vx nx f) (hbv : Nums k w (fun _ => False) vbv mb bv) (hm1 : 1 ≤ m) (hm2 : m ≤ 80) (hn : N 0 ≤ 80) (hN : ∀ i, i < m → N i = N 0) (hmb : m ≤ mb) (hk1 : 1 ≤ k) (hk : k ≤ 2000) :
    Calls Tryz.prog 40 #[.agg #[va, vb], vx, vbv] w fun e w' => Tells (SV m (N 0) nx F f bv) e ∧ Below w.heap.size w w' := by
  have H := Lib.hid h
  have HX := Lib.hid hx
  have HBV := Lib.hid hbv
  obtain ⟨A, c1, rfl, h, l1, l2⟩ := h.op
  obtain ⟨B, p, c2, rfl⟩ := hs
  obtain ⟨C, c3, rfl, hx, l3, l4⟩ := hx.op
  obtain ⟨E, c4, rfl, hbv, l5, l6⟩ := hbv.op
  obtain ⟨a, D, d, rfl, hab, -, hcell, hnum, l7, l8⟩ := Mat.at h (show 0 < m by omega)
  have e0 : a.add 0 = a := by simp [Addr.add]
  rw [e0] at hcell
  have hc2 : (w.alloc (.cells #[.slice (some a) m c1, .slice B p c2] 25)).cell? a = _ := cell_keep (X := fun _ => False) hcell hab id kp
  have q0 : (0 : Int) < (m : Int) := by omega
  obtain ⟨n, hnn⟩ : ∃ n, N 0 = n := ⟨_, rfl⟩
  rw [hnn] at hcell hnum hc2 l7 hN hn
  rw [hnn]
  have HN := Lib.hid hN
  have L := made1 w #[.slice (some a) m c1, .slice B p c2] 25
  clear hN hnn hnum h hx hbv
  by_cases h1 : nx ≠ n
  · have hv : Hid (¬ SV m n nx F f bv) := fun h => h1 h.1
    have h4 : ((nx : Int) == (n : Int)) = false := beq_eq_false_iff_ne.2 (by omega)
    have h5 : ((nx : Int) != (n : Int)) = true := bne_iff_ne.2 (by omega)
    go_enter Tryz.func40, Tryz.ntmps40
    go_wp2_with fail
    go_ret
    exact ⟨Tells.no hv.out, bel⟩
  obtain rfl : nx = n := Classical.not_not.1 h1
  clear h1
  go_enter Tryz.func40, Tryz.ntmps40
  go_wp2_with fail
  refine (containsNeg_any _ _ nx k f (Nums.keep HX.out kp) (by omega)).mono ?_
  rintro e w1 ⟨b, rfl, hbi, hb1⟩
  have z1 := sz1 hb1
  have HB : Hid (b = false ↔ ∀ i, i < nx → ¬ f i < 0) := hbi
  clear hbi
  cases b
  · have HP : Hid (∀ i, i < nx → ¬ f i < 0) := HB.out.1 rfl
    obtain ⟨e1, f1, -⟩ := L.all (w' := w1)
    clear HB hc2
    go_wp2_with fail
    go_loopw [24] (fun i wr => ∃ (c : Nat), c ≤ m ∧ i = .int .i64 c ∧ Hid (∀ i, i < c → sm nx (fun j => F i j * f j) = bv i) ∧ Below w.heap.size w wr) (fun i _ => m - (intOf i).toNat)
    case atStart => exact ⟨0, by omega, rfl, Lib.hid (fun i hi => absurd hi (by omega)), bel⟩
    case round =>
      obtain ⟨c, hc, rfl, hall, hB⟩ := hrel
      obtain ⟨wo, rfl⟩ : ∃ wo : World, wo = wr := ⟨_, rfl⟩
      have y5 := hB.size; (try simp only [World.size_alloc, size_set, size_drew, size_drewN] at y5)
      by_cases hlt : c < m
      · obtain ⟨a5, D5, d5, ea5, hab5, -, hcell5, hnum5, l9, l10⟩ := Mat.at (Mat.keep H.out (.of_below hB)) hlt
        injection ea5 with ea5
        subst ea5
        rw [HN.out c hlt] at hcell5 hnum5 l9
        have hcm : c < mb := by omega
        obtain ⟨a6, b6, A6, m6, c6, b6', A6', m6', c6', rfl, ha6, -, x0, x1, x2, x3, r6⟩ := Nums.at (Nums.keep HBV.out (.of_below hB)) hcm
        have HD : Hid (Rsz 900000 (sm nx (fun j => F c j * f j))) := dot_rsz (hnum5.rsz hk1) (HX.out.rsz hk1) (by omega) hk
        have HL : Hid (∀ W, Below wo.heap.size wo W → (W.cell? (a6.add (c * 4)) = some (.bool b6) ∧ W.cell? ⟨(a6.add (c * 4)).block, (a6.add (c * 4)).off + 1, none⟩ = some (.slice A6 m6 c6)) ∧ W.cell? ⟨(a6.add (c * 4)).block, (a6.add (c * 4)).off + 2, none⟩ = some (.bool b6') ∧ W.cell? ⟨(a6.add (c * 4)).block, (a6.add (c * 4)).off + 3, none⟩ = some (.slice A6' m6' c6')) := fun W hW => by
          refine ⟨⟨?_, ?_⟩, ?_, ?_⟩
          · exact cell_keep (X := fun _ => False) x0 (by rw [add_block]; exact ha6) id (.of_below hW)
          · exact cell_keep (X := fun _ => False) x1 (by simp only [add_block]; exact ha6) id (.of_below hW)
          · exact cell_keep (X := fun _ => False) x2 (by simp only [add_block]; exact ha6) id (.of_below hW)
          · exact cell_keep (X := fun _ => False) x3 (by simp only [add_block]; exact ha6) id (.of_below hW)
        obtain ⟨dv, hdv⟩ : ∃ q, sm nx (fun j => F c j * f j) = q := ⟨_, rfl⟩
        rw [hdv] at HD
        have HDV := Lib.hid hdv
        obtain ⟨qq, hqq⟩ : ∃ q, rcmp dv (bv c) = q := ⟨_, rfl⟩
        have HQ : Hid (qq = 0 ↔ dv = bv c) := by show _ ↔ _; rw [← hqq]; exact rcmp_zero dv (bv c)
        have HQQ := Lib.hid hqq
        clear x0 x1 x2 x3 hdv hqq
        go_wp2_with fail
        go_region_held3 (fun W => (W.cell? (a6.add (c * 4)) = some (.bool b6) ∧ W.cell? ⟨(a6.add (c * 4)).block, (a6.add (c * 4)).off + 1, none⟩ = some (.slice A6 m6 c6)) ∧ W.cell? ⟨(a6.add (c * 4)).block, (a6.add (c * 4)).off + 2, none⟩ = some (.bool b6') ∧ W.cell? ⟨(a6.add (c * 4)).block, (a6.add (c * 4)).off + 3, none⟩ = some (.slice A6' m6' c6'))
          (exact HL.out _ bel)
          (first
            | (go_at_call 43; refine (dot_any _ _ _ nx nx k (F c) f (Nums.keep hnum5 kp) (Nums.keep HX.out kp) (Nat.le_refl _) (by omega) hk1 (by omega)).mono ?_; rintro e u1 ⟨v7, rfl, i7, hb7⟩; rw [HDV.out] at i7; obtain ⟨b7, A7, m7, c7, b7', A7', m7', c7', rfl, i7, -, -⟩ := i7.op; have y7 := hb7.size; (try simp only [World.size_alloc, size_set, size_drew, size_drewN] at y7))
            | (go_at_call 67; refine (ratcompare_any _ (fun _ => False) _ _ dv (bv c) (RatL.to ((i7.len HD.out).mono (by omega))) (RatL.to (r6.mono (by omega)))).mono ?_; rintro e u2 ⟨he, hb8⟩; rw [HQQ.out] at he; subst he; have y8 := hb8.size; (try simp only [World.size_alloc, size_set, size_drew, size_drewN] at y8)))
        all_goals
          by_cases hq0 : qq = 0
          · subst hq0
            have HE := Lib.hid (HQ.out.1 rfl)
            clear HQ HQQ
            go_wp2_with fail
            go_roundw
            case rel =>
              refine ⟨c + 1, by omega, by go_num, Lib.hid (fun i hi => ?_), bel⟩
              by_cases hic : i < c
              · exact hall.out i hic
              · obtain rfl : i = c := by omega
                rw [HDV.out]; exact HE.out
            case measure => simp only [intOf]; omega
          · have HV : Hid (¬ SV m nx nx F f bv) := fun hh => hq0 (HQ.out.2 (by rw [← HDV.out]; exact hh.2.2 c hlt))
            have hq1 : (qq == 0) = false := beq_eq_false_iff_ne.2 hq0
            have hq2 : (qq != 0) = true := bne_iff_ne.2 hq0
            clear HQ HQQ
            go_wp2_with fail
            go_ret
            exact ⟨Tells.no HV.out, bel⟩
      · obtain rfl : c = m := by omega
        go_wp2_with fail
        go_ret
        exact ⟨Tells.yes ⟨rfl, HP.out, hall.out⟩, hB⟩
  · have HV : Hid (¬ SV m nx nx F f bv) := fun h => by have := HB.out.2 h.2.1; cases this
    clear HB
    go_wp2_with fail
    go_ret
    exact ⟨Tells.no HV.out, bel⟩
end Go.Proofs.YtpeglenapmkdfaaGreat

