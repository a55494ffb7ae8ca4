/- Contracts of the functions that the statements reach, part 33. -/
import Derived.Test.YtdambnieminnfaaGreatRows
import Derived.Test.YtdambnieminnfaaGreatZ17
import Derived.Test.YtdambnieminnfaaGreatZ25
import Derived.Test.YtdambnieminnfaaGreatZ30
import Derived.Test.YtdambnieminnfaaGreatZ31
import Derived.Test.YtdambnieminnfaaGreatZ32
set_option linter.unusedSimpArgs false
set_option linter.unusedVariables false

/- point. -/
namespace Go.Proofs.YtdambnieminnfaaGreat
open Go.RowKit
attribute [local go_sem ↓] Go.wp_at_zero Go.wp_at_succ

theorem zvals (k : Nat) (w : World) (X : Nat → Prop) (n : Nat) : ValL k w X (List.replicate n zR4) (fun _ => 0) := fun i q hq => by
 obtain ⟨h1, h2⟩ := List.getElem?_eq_some_iff.1 hq
 rw [List.getElem_replicate] at h2
 subst h2
 exact zR4L _ _ _
theorem rsz_zero (k : Nat) (hk : 2 ≤ k) : Rsz k (0 : Rat) := (rsz_int (z := 0) (by decide) (by decide)).mono hk

set_option maxRecDepth 100000 in
set_option maxHeartbeats 16000000 in
theorem point_any (w : World) (l : Lay) (m n kk : Nat) (T0 : Nat → Nat → Rat) (S : St) (k : Nat → Rat) (sg : Nat → Int) (hT : Tab w l m n S k sg) (hG : Good m n T0 S.T S.b) (hm : m ≤ 80) (hn : n ≤ 80) (hkk : 2 ≤ kk) (hs : ∀ r, r < m → Rsz kk (S.T r (n + m))) :
 Calls Tryz.prog 103 #[.pointer (some ⟨l.p, 0, none⟩)] w fun e w' => ∃ v', e = .returned v' ∧ Nums kk w' (fun _ => False) v' n (pt m n S) ∧ Fr w.heap.size v' ∧ Below w.heap.size w w' := by
 have HT := Lib.hid hT
 have HG := Lib.hid hG
 have HS := Lib.hid hs
 obtain ⟨⟨⟨cs, cr, cb, hbox, hcs, hcr, hcb⟩, -, ⟨rr, hrow, hrr⟩⟩, -, -, ⟨bb, hbas, hbb⟩, -⟩ := hT
 have HRR := Lib.hid hrr
 have HBB := Lib.hid hbb
 have hl := hbox.lt
 have g2 := hrow.lt
 have g3 := hbas.lt
 obtain ⟨N, hN⟩ : ∃ N, n + m + 1 = N := ⟨_, rfl⟩
 have HN := Lib.hid hN
 obtain ⟨R, hR⟩ : ∃ R, n + m = R := ⟨_, rfl⟩
 have HR := Lib.hid hR
 have hmr : (m : Int) ≤ (cr : Int) := by omega
 have hmb : (m : Int) ≤ (cb : Int) := by omega
 obtain ⟨e1, f1, -⟩ := hbox.all (w' := w)
 clear hG hs hrr hbb
 go_enter Tryz.func103, Tryz.ntmps103
 go_wp2_with (at_make; refine wpList_makeR _ rfl _ _ rfl w.heap.size n rfl rfl rfl rfl (by omega) (by omega) ?_)
 intro w7 K7 hg7
 have hb7 : Below w.heap.size w w7 := (Below.refl _ _).grown hg7 (Nat.le_refl _) (fun k hk => by cases hk)
 have y7 := hb7.size
 have y8 := K7.lt
 clear e1 f1
 go_wp2_with fail
 go_loopw [14] (fun i wr => ∃ (ci : Nat) (rs : List R4), ci ≤ n ∧ i = .int .i64 ci ∧ Line wr w.heap.size rs ∧ rs.length = n ∧ ValL kk wr (fun b => b = w.heap.size) rs (fun _ => 0) ∧ Below w.heap.size w wr) (fun i _ => n - (intOf i).toNat)
 case atStart => exact ⟨0, _, by omega, rfl, K7, by simp, zvals _ _ _ _, hb7⟩
 case round =>
  clear K7 y8 y7 hb7
  obtain ⟨ci, rs, hci, rfl, K8, hrl, hvz, hB8⟩ := hrel
  obtain ⟨wo, rfl⟩ : ∃ wo : World, wo = wr := ⟨_, rfl⟩
  have y9 := hB8.size
  have q3 := K8.lt
  by_cases hlt : ci < n
  ·go_wp2_with fail
   refine (zero_lin _).mono ?_
   rintro e u1 ⟨v9, rfl, i9, hb9⟩
   obtain ⟨b9, A9, m9, c9, b9', A9', m9', c9', rfl, i9, -, -⟩ := i9.op
   have y10 := hb9.size; (try simp only [zs] at y10)
   obtain ⟨qr, hqr⟩ : ∃ q, rs[ci]? = some q := ⟨_, List.getElem?_eq_getElem (by omega)⟩
   have K9 : Line u1 w.heap.size rs := Loc.to K8
   obtain ⟨g0, g1, g2', g3'⟩ := K9.cells hqr
   have f9 := K9.frz
   go_wp2_with fail
   go_roundw
   case rel =>
    refine ⟨ci + 1, rs.set ci ⟨b9, A9, m9, c9, b9', A9', m9', c9'⟩, by omega, by go_num, K9.put (by omega) ⟨b9, A9, m9, c9, b9', A9', m9', c9'⟩, by simpa using hrl, ?_, bel⟩
    refine ValL.set0 (hvz.keep kp) ?_
    have h1 := i9.weak (Y := fun b => b = w.heap.size) (fun b _ hx => by have : b = w.heap.size := hx; show b < wo.heap.size; omega)
    exact (RatV.len h1 (rsz_zero kk hkk)).keep kp
   case measure => simp only [intOf]; omega
  ·obtain rfl : n = ci := by omega
   have hbo : Loc wo _ _ _ := Loc.keep (X := fun _ => False) hbox (.of_below hB8) id
   obtain ⟨e1, f1, -⟩ := hbo.all (w' := wo)
   go_wp2_with fail
   go_loopw [27] (fun i wr => ∃ (ci : Nat) (rs : List R4), ci ≤ m ∧ i = .int .i64 ci ∧ Line wr w.heap.size rs ∧ rs.length = n ∧ ValL kk wr (fun b => b = w.heap.size) rs (fun x => sm ci (fun i => if S.b i = x then S.T i (n + m) else 0)) ∧ Below w.heap.size w wr) (fun i _ => m - (intOf i).toNat)
   case atStart => exact ⟨0, rs, by omega, rfl, K8, hrl, hvz, hB8⟩
   case round =>
    clear K8 hrl hvz hB8 q3 y9 hbo e1 f1
    obtain ⟨ci, rs, hci, rfl, K8, hrl, hvz, hB8⟩ := hrel
    obtain ⟨wo, rfl⟩ : ∃ wo : World, wo = wr := ⟨_, rfl⟩
    have y9 := hB8.size
    have q3 := K8.lt
    have hKF : Keep (fun _ => False) w wo := .of_below hB8
    have hbo : Loc wo _ _ _ := Loc.keep hbox hKF id
    have hro : Loc wo _ _ _ := Loc.keep hrow hKF id
    have hba : Loc wo _ _ _ := Loc.keep hbas hKF id
    obtain ⟨e1, f1, l1⟩ := hbo.all (w' := wo)
    by_cases hlt : ci < m
    ·have hbc : wo.cell? ⟨l.gb, ci, none⟩ = some (.int .i64 (S.b ci)) := by rw [Loc.cell hba, HBB.out ci hlt]
     have HRI : Hid (rr[ci]? = some (.slice (some ⟨l.G ci, 0, none⟩) N N)) := by show _ = _; rw [HRR.out ci hlt, HN.out]
     have hRw := HT.out.rows ci hlt
     rw [HN.out] at hRw
     obtain ⟨b4, A4, m4, c4, b4', A4', m4', c4', x0, x1, x2, x3, r5, -⟩ := hRw.at (show n + m < N by omega)
     rw [HR.out] at x0 x1 x2 x3
     have hgl := hRw.lt
     obtain ⟨bj, hbj⟩ : ∃ bj, S.b ci = bj := ⟨_, rfl⟩
     rw [hbj] at hbc
     have HBJ := Lib.hid hbj
     clear hbj
     have k0 : (0 : Int) ≤ (ci : Int) := by omega
     have k1 : (ci : Int) < (m : Int) := by omega
     have k2 : (0 : Int) ≤ (R : Int) := by omega
     have k3 : (R : Int) < (N : Int) := by omega
     by_cases hbn : bj < n
     ·have HL : Hid (∀ W, Keep (fun b => b = w.heap.size) w W → (W.cell? ⟨l.p, 2, none⟩ = some (.slice (some ⟨l.gr, 0, none⟩) m cr) ∧ W.cell? ⟨l.gr, ci, none⟩ = some (.slice (some ⟨l.G ci, 0, none⟩) N N)) ∧ (W.cell? ⟨l.G ci, R * 4, none⟩ = some (.bool b4) ∧ W.cell? ⟨l.G ci, R * 4 + 1, none⟩ = some (.slice A4 m4 c4)) ∧ W.cell? ⟨l.G ci, R * 4 + 2, none⟩ = some (.bool b4') ∧ W.cell? ⟨l.G ci, R * 4 + 3, none⟩ = some (.slice A4' m4' c4')) := fun W hW => by
       have hx := HT.out.xlt
       have hgx : l.G ci ≠ w.heap.size := by have := hx _ (.inr (.inr (.inr (.inr (.inr ⟨ci, hlt, rfl⟩))))); omega
       refine ⟨⟨cell_keep (Loc.c 2 hbox) hl (fun e => by have e : l.p = w.heap.size := e; omega) hW, cell_keep ((Loc.c ci hrow).trans HRI.out) g2 (fun e => by have e : l.gr = w.heap.size := e; omega) hW⟩, ⟨?_, ?_⟩, ?_, ?_⟩
       ·exact cell_keep x0 hgl hgx hW
       ·exact cell_keep x1 hgl hgx hW
       ·exact cell_keep x2 hgl hgx hW
       ·exact cell_keep x3 hgl hgx hW
      clear x0 x1 x2 x3
      have hTw : Hid (Fix wo l m n sg) := (HT.out.on hKF).fix
      obtain ⟨qr, hqr⟩ : ∃ q, rs[bj]? = some q := ⟨_, List.getElem?_eq_getElem (by omega)⟩
      have kb0 : (0 : Int) ≤ (bj : Int) := by omega
      have kb1 : (bj : Int) < (n : Int) := by omega
      go_wp2_with fail
      go_region_held3 (fun W => (W.cell? ⟨l.p, 2, none⟩ = some (.slice (some ⟨l.gr, 0, none⟩) m cr) ∧ W.cell? ⟨l.gr, ci, none⟩ = some (.slice (some ⟨l.G ci, 0, none⟩) N N)) ∧ (W.cell? ⟨l.G ci, R * 4, none⟩ = some (.bool b4) ∧ W.cell? ⟨l.G ci, R * 4 + 1, none⟩ = some (.slice A4 m4 c4)) ∧ W.cell? ⟨l.G ci, R * 4 + 2, none⟩ = some (.bool b4') ∧ W.cell? ⟨l.G ci, R * 4 + 3, none⟩ = some (.slice A4' m4' c4'))
       (exact HL.out _ kp)
       (first
        | (go_at_call 140; refine (tright_any _ l m n sg (hTw.out.keep (X := fun _ => False) kp id id id) hm hn).mono ?_; rintro e u1 ⟨he, hb6⟩; rw [HR.out] at he; subst he; have y6 := hb6.size; (try simp only [zs] at y6); have K9 : Line u1 w.heap.size rs := Loc.to K8; obtain ⟨g0, g1, g2', g3'⟩ := K9.cells hqr; have f9 := K9.frz; have l9 := K9.lt))
      all_goals
       go_wp2_with fail
       go_roundw
       case rel =>
        refine ⟨ci + 1, rs.set bj ⟨b4, A4, m4, c4, b4', A4', m4', c4'⟩, by omega, by go_num, K9.put (by omega) ⟨b4, A4, m4, c4, b4', A4', m4', c4'⟩, by simpa using hrl, ?_, bel⟩
        refine ValL.set (f := fun x => sm ci (fun i => if S.b i = x then S.T i (n + m) else 0)) (hvz.keep kp) ?_ (fun x hx _ => ?_)
        ·rw [sm_succ, sm_zero (fun i hi => if_neg (fun e => by have := HG.out.inj (show i < m by omega) hlt (by rw [HBJ.out]; exact e); omega)), if_pos HBJ.out]
         have h1 : (0 : Rat) + S.T ci (n + m) = S.T ci (n + m) := by grind
         rw [h1]
         have h2 := (r5.len (HS.out ci hlt)).weak (Y := fun b => b = w.heap.size) (fun b hbl hb => by have : b = w.heap.size := hb; omega)
         exact h2.keep kp
        ·rw [sm_succ, if_neg (fun e => hx (by rw [← e, HBJ.out]))]; grind
       case measure => simp only [intOf]; omega
     ·have hbn2 : ¬ (bj : Int) < (n : Int) := by omega
      go_wp2_with fail
      go_roundw
      case rel =>
       refine ⟨ci + 1, rs, by omega, by go_num, K8, hrl, hvz.congr (fun x hx => ?_), hB8⟩
       rw [sm_succ, if_neg (fun e => by rw [HBJ.out] at e; omega)]; grind
      case measure => simp only [intOf]; omega
    ·obtain rfl : m = ci := by omega
     go_wp2_with fail
     go_ret
     exact ⟨_, rfl, Line.nums K8 hvz hrl (fun _ _ h => h.elim) id (by unfold maxLen; omega), Fr.own (Nat.le_refl _), hB8⟩
end Go.Proofs.YtdambnieminnfaaGreat

/- Three lists that each grow by one element, in whatever order their elements are laid. -/
namespace Go.Proofs.YtdambnieminnfaaGreat
open Go.RowKit

/-- w4: where the lists stood at first; W: the world at hand. -/
structure Trip (w4 W : World) (B : Nat) (vS0 vR0 vB0 vS vR vB : Value) (uS uR uB : List Value) : Prop where
 oS : Own1 W B 3 vS uS
 oR : Own1 W B 55 vR uR
 oB : Own1 W B 3 vB uB
 aS : ∀ g, vS.ownBlock = some g → vS0.ownBlock = some g ∨ w4.heap.size ≤ g
 aR : ∀ g, vR.ownBlock = some g → vR0.ownBlock = some g ∨ w4.heap.size ≤ g
 aB : ∀ g, vB.ownBlock = some g → vB0.ownBlock = some g ∨ w4.heap.size ≤ g
 dRS : ∀ g, vR.ownBlock = some g → vS.ownBlock ≠ some g
 dRB : ∀ g, vR.ownBlock = some g → vB.ownBlock ≠ some g
 dSB : ∀ g, vS.ownBlock = some g → vB.ownBlock ≠ some g
 lS : ∀ g, vS0.ownBlock = some g → g < w4.heap.size
 lR : ∀ g, vR0.ownBlock = some g → g < w4.heap.size
 lB : ∀ g, vB0.ownBlock = some g → g < w4.heap.size
 keep : Keep (fun b => vS0.ownBlock = some b ∨ vR0.ownBlock = some b ∨ vB0.ownBlock = some b) w4 W
 bl : Below B w4 W
 lo : B ≤ w4.heap.size

section
variable {w4 W W' : World} {B gp g cap n gb : Nat} {vS0 vR0 vB0 vS vR vB u : Value} {uS uR uB : List Value} {t : TypeId} {cs : Array Value}
theorem Trip.alloc (T : Trip w4 W B vS0 vR0 vB0 vS vR vB uS uR uB) (o : Obj) : Trip w4 (W.alloc o) B vS0 vR0 vB0 vS vR vB uS uR uB :=
 ⟨T.oS.below (below1 _ _), T.oR.below (below1 _ _), T.oB.below (below1 _ _), T.aS, T.aR, T.aB, T.dRS, T.dRB, T.dSB, T.lS, T.lR, T.lB, T.keep.alloc o, T.bl.alloc (Nat.le_trans T.lo T.keep.size) o, T.lo⟩
theorem Trip.pushS (T : Trip w4 W B vS0 vR0 vB0 vS vR vB uS uR uB) (h1 : Own1 W' B 3 (.slice (some ⟨g, 0, none⟩) n cap) (uS ++ [u])) (h2 : W.grownBy W' vS.ownBlock) (h3 : vS.ownBlock = some g ∨ g = W.heap.size) :
 Trip w4 W' B vS0 vR0 vB0 (.slice (some ⟨g, 0, none⟩) n cap) vR vB (uS ++ [u]) uR uB := by
 have hk : Keep (fun b => vS.ownBlock = some b) W W' := (Keep.refl _ W).grown h2 (fun g hg => .inl hg)
 have hs := T.keep.size
 refine ⟨h1, T.oR.keep hk (fun g hg => T.dRS g hg), T.oB.keep hk (fun g hg e => T.dSB g e hg), fun g' hg' => ?_, T.aR, T.aB, fun g' hg' e => ?_, T.dRB, fun g' hg' e => ?_, T.lS, T.lR, T.lB, T.keep.grown h2 (fun g hg => ?_), T.bl.grown h2 (Nat.le_trans T.lo hs) (fun g hg => (T.oS.lt hg).2), T.lo⟩
 ·injection hg' with hg'; subst hg'
  rcases h3 with h3 | h3
  ·exact T.aS _ h3
  ·exact .inr (by show _ ≤ g; omega)
 ·injection e with e; have e : g = g' := e; subst e
  rcases h3 with h3 | h3
  ·exact T.dRS _ hg' h3
  ·have := (T.oR.lt hg').1; omega
 ·injection hg' with hg'; have hg' : g = g' := hg'; subst hg'
  rcases h3 with h3 | h3
  ·exact T.dSB _ h3 e
  ·have := (T.oB.lt e).1; omega
 ·rcases T.aS g hg with h | h
  ·exact .inl (.inl h)
  ·exact .inr h
theorem Trip.pushR (T : Trip w4 W B vS0 vR0 vB0 vS vR vB uS uR uB) (h1 : Own1 W' B 55 (.slice (some ⟨g, 0, none⟩) n cap) (uR ++ [u])) (h2 : W.grownBy W' vR.ownBlock) (h3 : vR.ownBlock = some g ∨ g = W.heap.size) :
 Trip w4 W' B vS0 vR0 vB0 vS (.slice (some ⟨g, 0, none⟩) n cap) vB uS (uR ++ [u]) uB := by
 have hk : Keep (fun b => vR.ownBlock = some b) W W' := (Keep.refl _ W).grown h2 (fun g hg => .inl hg)
 have hs := T.keep.size
 refine ⟨T.oS.keep hk (fun g hg e => T.dRS g e hg), h1, T.oB.keep hk (fun g hg e => T.dRB g e hg), T.aS, fun g' hg' => ?_, T.aB, fun g' hg' e => ?_, fun g' hg' e => ?_, T.dSB, T.lS, T.lR, T.lB, T.keep.grown h2 (fun g hg => ?_), T.bl.grown h2 (Nat.le_trans T.lo hs) (fun g hg => (T.oR.lt hg).2), T.lo⟩
 ·injection hg' with hg'; subst hg'
  rcases h3 with h3 | h3
  ·exact T.aR _ h3
  ·exact .inr (by show _ ≤ g; omega)
 ·injection hg' with hg'; have hg' : g = g' := hg'; subst hg'
  rcases h3 with h3 | h3
  ·exact T.dRS _ h3 e
  ·have := (T.oS.lt e).1; omega
 ·injection hg' with hg'; have hg' : g = g' := hg'; subst hg'
  rcases h3 with h3 | h3
  ·exact T.dRB _ h3 e
  ·have := (T.oB.lt e).1; omega
 ·rcases T.aR g hg with h | h
  ·exact .inl (.inr (.inl h))
  ·exact .inr h
theorem Trip.pushB (T : Trip w4 W B vS0 vR0 vB0 vS vR vB uS uR uB) (h1 : Own1 W' B 3 (.slice (some ⟨g, 0, none⟩) n cap) (uB ++ [u])) (h2 : W.grownBy W' vB.ownBlock) (h3 : vB.ownBlock = some g ∨ g = W.heap.size) :
 Trip w4 W' B vS0 vR0 vB0 vS vR (.slice (some ⟨g, 0, none⟩) n cap) uS uR (uB ++ [u]) := by
 have hk : Keep (fun b => vB.ownBlock = some b) W W' := (Keep.refl _ W).grown h2 (fun g hg => .inl hg)
 have hs := T.keep.size
 refine ⟨T.oS.keep hk (fun g hg e => T.dSB g hg e), T.oR.keep hk (fun g hg e => T.dRB g hg e), h1, T.aS, T.aR, fun g' hg' => ?_, T.dRS, fun g' hg' e => ?_, fun g' hg' e => ?_, T.lS, T.lR, T.lB, T.keep.grown h2 (fun g hg => ?_), T.bl.grown h2 (Nat.le_trans T.lo hs) (fun g hg => (T.oB.lt hg).2), T.lo⟩
 ·injection hg' with hg'; subst hg'
  rcases h3 with h3 | h3
  ·exact T.aB _ h3
  ·exact .inr (by show _ ≤ g; omega)
 ·injection e with e; have e : g = g' := e; subst e
  rcases h3 with h3 | h3
  ·exact T.dRB _ hg' h3
  ·have := (T.oR.lt hg').1; omega
 ·injection e with e; have e : g = g' := e; subst e
  rcases h3 with h3 | h3
  ·exact T.dSB _ hg' h3
  ·have := (T.oS.lt hg').1; omega
 ·rcases T.aB g hg with h | h
  ·exact .inl (.inr (.inr h))
  ·exact .inr h
/-- A block that is new since w4 is not touched by a list's first growth. -/
theorem loc_grown {v0 : Value} (hl : ∀ g, v0.ownBlock = some g → g < w4.heap.size) (h2 : W.grownBy W' v0.ownBlock) (L : Loc W gb t cs) (hgb : w4.heap.size ≤ gb) : Loc W' gb t cs := by
 refine Loc.keep L ((Keep.refl (fun b => v0.ownBlock = some b) W).grown h2 (fun g hg => .inl hg)) (fun e => ?_)
 have := hl _ e
 omega
/-- A block that is no list's. -/
theorem Trip.box (T : Trip w4 W B vS0 vR0 vB0 vS vR vB uS uR uB) (L : Loc w4 gp t cs) (hS : vS0.ownBlock ≠ some gp) (hR : vR0.ownBlock ≠ some gp) (hB : vB0.ownBlock ≠ some gp) : Loc W gp t cs :=
 Loc.keep L T.keep (fun e : vS0.ownBlock = some gp ∨ vR0.ownBlock = some gp ∨ vB0.ownBlock = some gp => e.elim hS (fun e => e.elim hR hB))
end

theorem step_push1n {ops : Array Oper} {o : Oper} {a : Act} {K : Act → World → Prop} {Q : Exit → Act → World → Prop} {E : Prop} {t e : TypeId} {z : Value} {bytes : Nat} (w : World) (hgd : o.guard = none) (s x : Operand) (ho : o.op = .call { callee := .builtin .append, args := #[s, x], argTypes := #[t, t] })
 (ht : Tryz.prog.underlying t = some (.slice e)) (hE : (Tryz.prog.info? e).map (fun i => (i.zero, i.size, i.bytes)) = some (some z, 1, bytes)) (hzs : z.cells.size = 1) (hb : bytes ≤ 64)
 (base : Nat) (v : Value) (us : List Value) (n : Nat) (hlen : us.length = n) (hs : a.eval s = v) (hown : Own1 w base e v us) (H : Nat) (u : Value) (hx : a.eval x = .slice (some ⟨H, 0, none⟩) 1 1) (hH : Loc w H e #[u]) (hu : u.oneCell' = true)
 (hn : n ≤ 1000) (hbase : base ≤ w.heap.size)
 (h : ∀ g cap w', Own1 w' base e (.slice (some ⟨g, 0, none⟩) (n + 1) cap) (us ++ [u]) → w.grownBy w' v.ownBlock → (v.ownBlock = some g ∨ g = w.heap.size) → g < w'.heap.size → K (a.put o.dst (.slice (some ⟨g, 0, none⟩) (n + 1) cap)) w') :
 if Region.wanted o (yielded ops a.tmps) = true then Oper.wp Tryz.prog o a w K Q else E := by
 subst hlen
 exact step_push1 w hgd s x ho ht hE hzs hb base v us hs hown H u hx hH hu hn hbase h

section
variable {B m n c gp gc : Nat} {w w4 W : World} {F : Nat → Nat → Rat} {Bv : Nat → Rat} {vS vR vB : Value} {G K : Nat → Nat}
theorem Beg.trip (h : Beg B w m n c F Bv gp gc vS vR vB G K) (h4 : Keep (fun b => b = gc) w w4) (hB : B ≤ w4.heap.size) : Trip w4 w4 B vS vR vB vS vR vB (sgl Bv c) (rwl G (n + m + 1) c) (bsl n c) := by
 have hs := h4.size
 have hc := h.kc
 have kk : ∀ {a b : Nat}, K a ≠ K b → a ≠ b := fun h e => h (by rw [e])
 have hSc : ∀ g, vS.ownBlock = some g → g ≠ gc := fun g hg => kk (by rw [h.kS g hg, hc]; decide)
 have hRc : ∀ g, vR.ownBlock = some g → g ≠ gc := fun g hg => kk (by rw [h.kR g hg, hc]; decide)
 have hBc : ∀ g, vB.ownBlock = some g → g ≠ gc := fun g hg => kk (by rw [h.kB g hg, hc]; decide)
 refine ⟨h.oS.keep h4 hSc, h.oR.keep h4 hRc, h.oB.keep h4 hBc, fun g hg => .inl hg, fun g hg => .inl hg, fun g hg => .inl hg, fun g h1 h2 => ?_, fun g h1 h2 => ?_, fun g h1 h2 => ?_, fun g hg => ?_, fun g hg => ?_, fun g hg => ?_, Keep.refl _ _, Below.refl _ _, hB⟩
 ·have := h.kR g h1; have := h.kS g h2; omega
 ·have := h.kR g h1; have := h.kB g h2; omega
 ·have := h.kS g h1; have := h.kB g h2; omega
 ·have := (h.oS.lt hg).1; omega
 ·have := (h.oR.lt hg).1; omega
 ·have := (h.oB.lt hg).1; omega
/-- The tableau's own block is none of the lists'. -/
theorem Beg.apart (h : Beg B w m n c F Bv gp gc vS vR vB G K) : vS.ownBlock ≠ some gp ∧ vR.ownBlock ≠ some gp ∧ vB.ownBlock ≠ some gp :=
 ⟨fun e => by have := h.kS gp e; have := h.kp; omega, fun e => by have := h.kR gp e; have := h.kp; omega, fun e => by have := h.kB gp e; have := h.kp; omega⟩
/-- One row more. -/
theorem Beg.fin (h : Beg B w m n c F Bv gp gc vS vR vB G K) {gRow gS gR gB capS capR capB : Nat}
 (h4 : Keep (fun b => b = gc) w w4) (hB : B ≤ w.heap.size) (hg : w.heap.size ≤ gRow) (hg4 : gRow < w4.heap.size)
 (row : Rw w4 (fun b => b = gRow ∨ K b ≠ 0) gRow (n + m + 1) (t0 m n F Bv c)) (cost : Rc w4 (fun b => b = gRow ∨ K b ≠ 0) gc (n + m + 1) (c0 m n F Bv (c + 1)))
 (T : Trip w4 W B vS vR vB (.slice (some ⟨gS, 0, none⟩) (c + 1) capS) (.slice (some ⟨gR, 0, none⟩) (c + 1) capR) (.slice (some ⟨gB, 0, none⟩) (c + 1) capB)
  (sgl Bv c ++ [.int .i64 (sgn Bv c)]) (rwl G (n + m + 1) c ++ [.slice (some ⟨gRow, 0, none⟩) (n + m + 1) (n + m + 1)]) (bsl n c ++ [.int .i64 ((n + c : Nat) : Int)])) :
 Hid (∃ G' K', Beg B (((W.setCell ⟨gp, 2, none⟩ (.slice (some ⟨gR, 0, none⟩) (c + 1) capR)).setCell ⟨gp, 1, none⟩ (.slice (some ⟨gS, 0, none⟩) (c + 1) capS)).setCell ⟨gp, 4, none⟩ (.slice (some ⟨gB, 0, none⟩) (c + 1) capB)) m n (c + 1) F Bv gp gc (.slice (some ⟨gS, 0, none⟩) (c + 1) capS) (.slice (some ⟨gR, 0, none⟩) (c + 1) capR) (.slice (some ⟨gB, 0, none⟩) (c + 1) capB) G' K') ∧
 Below B w4 (((W.setCell ⟨gp, 2, none⟩ (.slice (some ⟨gR, 0, none⟩) (c + 1) capR)).setCell ⟨gp, 1, none⟩ (.slice (some ⟨gS, 0, none⟩) (c + 1) capS)).setCell ⟨gp, 4, none⟩ (.slice (some ⟨gB, 0, none⟩) (c + 1) capB)) := by
 have hgp := h.lt gp (by rw [h.kp]; decide)
 have hgc := h.lt gc (by rw [h.kc]; decide)
 have hpc : gp ≠ gc := fun e => by have h1 := h.kp; have h2 := h.kc; rw [e] at h1; omega
 obtain ⟨aS, aR, aB⟩ := h.apart
 have s4 := h4.size
 have sW := T.keep.size
 have hne : ∀ g, (vS.ownBlock = some g ∨ vR.ownBlock = some g ∨ vB.ownBlock = some g) ∨ w4.heap.size ≤ g → g ≠ gp := fun g hg e => by
  subst e
  rcases hg with (hg | hg | hg) | hg
  ·exact aS hg
  ·exact aR hg
  ·exact aB hg
  ·omega
 have nS : gS ≠ gp := hne _ ((T.aS gS rfl).imp (fun e => .inl e) id)
 have nR : gR ≠ gp := hne _ ((T.aR gR rfl).imp (fun e => .inr (.inl e)) id)
 have nB : gB ≠ gp := hne _ ((T.aB gB rfl).imp (fun e => .inr (.inr e)) id)
 have LB : Loc W gp _ _ := T.box (L := (h.box.keep h4 hpc)) aS aR aB
 obtain ⟨W5, hW5⟩ : ∃ W5, W5 = (((W.setCell ⟨gp, 2, none⟩ (.slice (some ⟨gR, 0, none⟩) (c + 1) capR)).setCell ⟨gp, 1, none⟩ (.slice (some ⟨gS, 0, none⟩) (c + 1) capS)).setCell ⟨gp, 4, none⟩ (.slice (some ⟨gB, 0, none⟩) (c + 1) capB)) := ⟨_, rfl⟩
 have kW : Keep (fun b => b = gp) W W5 := by
  rw [hW5]
  exact (((Keep.refl (fun b => b = gp) W).set (p := ⟨gp, 2, none⟩) (.inl rfl) _).set (p := ⟨gp, 1, none⟩) (.inl rfl) _).set (p := ⟨gp, 4, none⟩) (.inl rfl) _
 have LB5 : Loc W5 gp 127 #[.int .i64 n, .slice (some ⟨gS, 0, none⟩) (c + 1) capS, .slice (some ⟨gR, 0, none⟩) (c + 1) capR, .slice (some ⟨gc, 0, none⟩) (n + m + 1) (n + m + 1), .slice (some ⟨gB, 0, none⟩) (c + 1) capB] := by
  rw [hW5]
  have := ((LB.set 2 (.slice (some ⟨gR, 0, none⟩) (c + 1) capR)).set 1 (.slice (some ⟨gS, 0, none⟩) (c + 1) capS)).set 4 (.slice (some ⟨gB, 0, none⟩) (c + 1) capB)
  simpa using this
 have k45 : Keep (fun b => b = gp ∨ vS.ownBlock = some b ∨ vR.ownBlock = some b ∨ vB.ownBlock = some b) w4 W5 := (T.keep.weak (fun b _ hb => .inr hb)).trans (kW.weak (fun b _ hb => .inl hb))
 rw [← hW5]
 have s5 := kW.size
 have hown : ∀ {v : Value} {us : List Value} {e : TypeId} {g : Nat}, Own1 W B e v us → v.ownBlock = some g → g < W.heap.size ∧ B ≤ g := fun h hg => h.lt hg
 refine ⟨h.next h4 hB hg row cost k45 (T.aR gR rfl) (T.aS gS rfl) (T.aB gB rfl) (fun e => T.dRS gR rfl (by rw [e]; rfl)) (fun e => T.dRB gR rfl (by rw [e]; rfl)) (fun e => T.dSB gS rfl (by rw [e]; rfl))
  (by have := (hown T.oR (g := gR) rfl).1; omega) (by have := (hown T.oS (g := gS) rfl).1; omega) (by have := (hown T.oB (g := gB) rfl).1; omega) LB5
  (T.oS.keep kW (fun g hg e => nS (by injection hg with hg; exact hg.trans e))) (T.oR.keep kW (fun g hg e => nR (by injection hg with hg; exact hg.trans e))) (T.oB.keep kW (fun g hg e => nB (by injection hg with hg; exact hg.trans e))), ?_⟩
 rw [hW5]
 exact ((T.bl.setCell (p := ⟨gp, 2, none⟩) (by show B ≤ gp; omega) _).setCell (p := ⟨gp, 1, none⟩) (by show B ≤ gp; omega) _).setCell (p := ⟨gp, 4, none⟩) (by show B ≤ gp; omega) _
end
end Go.Proofs.YtdambnieminnfaaGreat

