/- Contracts of the functions that the statements reach, part 24. -/
import Derived.Test.YtpeglenapmkdfaaGreatRows
import Derived.Test.YtpeglenapmkdfaaGreatM18
import Derived.Test.YtpeglenapmkdfaaGreatM20
import Derived.Test.YtpeglenapmkdfaaGreatM23
set_option linter.unusedSimpArgs false
set_option linter.unusedVariables false

/- reduce at the cost: a line less a multiple of a row. -/
namespace Go.Proofs.YtpeglenapmkdfaaGreat
open Go.RowKit
attribute [local go_sem ↓] Go.wp_at_zero Go.wp_at_succ

set_option maxHeartbeats 8000000 in
theorem reduce_rl (w : World) (X : Nat → Prop) (g h n j : Nat) (rs qs : List R4) (f q : Nat → Rat) (L1 : Line w g rs) (L2 : Line w h qs) (hn : rs.length = n) (hq : qs.length = n) (hg : g ≠ h) (hX : X g) (hXs : ∀ b, X b → b < w.heap.size)
    (V1 : ValL 100000 w X rs f) (V2 : ValV w X qs q) (hj : j < n) (hn2 : n ≤ 200) (S1 : ∀ i, i < n → Rsz 10000 (f i)) (S2 : ∀ i, i < n → Rsz 10000 (q i)) :
    Calls Tryz.prog 88 #[.slice (some ⟨g, 0, none⟩) n n, .slice (some ⟨h, 0, none⟩) n n, .int .i64 j] w fun e w' => e = .returned (.tuple #[]) ∧
      ∃ rs', Line w' g rs' ∧ rs'.length = n ∧ ValL 100000 w' X rs' (fun c => f c - f j * q c) ∧ Keep (fun b => b = g) w w' := by
  obtain ⟨r, hr⟩ : ∃ r, rs[j]? = some r := ⟨_, List.getElem?_eq_getElem (by omega)⟩
  obtain ⟨c0, c1, c2, c3⟩ := L1.cells hr
  have i1 := V1 j r hr
  obtain ⟨b1, A1, m1, k1, b1', A1', m1', k1'⟩ := r
  dsimp only at c0 c1 c2 c3
  unfold R4.v at i1
  dsimp only at i1
  have M := made1 w #[.bool b1, .slice A1 m1 k1, .bool b1', .slice A1' m1' k1'] 44
  have hgl := L1.lt
  have hhl := L2.lt
  have HS1 := Lib.hid S1
  have HS2 := Lib.hid S2
  clear S1 S2
  go_enter Tryz.func88, Tryz.ntmps88
  go_wp2_with fail
  refine (sign_rat _ (fun _ => False) 100000 _ (f j) (RatL.to i1)).mono ?_
  rintro e w1 ⟨rfl, hb1⟩
  have z1 := sz1 hb1
  have hzi := sign_zero_iff (f j)
  generalize (f j).num.sign = sg at *
  by_cases hz : sg = 0
  · subst hz
    have hfj := hzi.1 rfl
    clear hzi
    go_wp2_with fail
    refine bodyPost_ret (results_none rfl _ _ _) rfl ⟨rfl, rs, Loc.to L1, hn, ?_, kp⟩
    exact (V1.keep (w' := w1) kp).congr (fun i hi => by rw [hfj]; grind)
  · clear hzi
    have hsb : (sg == 0) = false := beq_eq_false_iff_ne.2 hz
    go_wp2_with fail
    go_loopw [17] (fun i wr => ∃ (c : Nat) (ps : List R4), c ≤ n ∧ i = .int .i64 c ∧ Line wr g ps ∧ ps.length = n ∧ ValL 100000 wr X ps (fun i => if i < c then f i - f j * q i else f i) ∧
        Loc wr w.heap.size 44 #[.bool b1, .slice A1 m1 k1, .bool b1', .slice A1' m1' k1'] ∧ Keep (fun b => b = g) w wr) (fun i _ => n - (intOf i).toNat)
    case atStart => exact ⟨0, rs, by omega, rfl, Loc.to L1, hn, (V1.keep (w' := w1) kp).congr (fun i _ => if_neg (Nat.not_lt_zero i)), M.to, kp⟩
    case round =>
      obtain ⟨c, ps, hc, rfl, K1, hpn, hv, NM, hK⟩ := hrel
      obtain ⟨wo, rfl⟩ : ∃ wo : World, wo = wr := ⟨_, rfl⟩
      by_cases hlt : c < n
      · obtain ⟨r, hr⟩ : ∃ r, ps[c]? = some r := ⟨_, List.getElem?_eq_getElem (by omega)⟩
        obtain ⟨t, ht⟩ : ∃ r, qs[c]? = some r := ⟨_, List.getElem?_eq_getElem (by omega)⟩
        have K2 : Line wo h qs := (Loc.keep L2 hK (fun e => hg e.symm))
        obtain ⟨a0, a1, a2, a3⟩ := K1.cells hr
        obtain ⟨d0, d1, d2, d3⟩ := K2.cells ht
        obtain ⟨b2, A2, m2, k2, b2', A2', m2', k2'⟩ := r
        obtain ⟨b3, A3, m3, k3, b3', A3', m3', k3'⟩ := t
        dsimp only at a0 a1 a2 a3 d0 d1 d2 d3
        obtain ⟨e0, f0, l0⟩ := NM.all (w' := wo.drew)
        replace a0 : wo.drew.cell? _ = _ := a0
        replace a1 : wo.drew.cell? _ = _ := a1
        replace a2 : wo.drew.cell? _ = _ := a2
        replace a3 : wo.drew.cell? _ = _ := a3
        replace d0 : wo.drew.cell? _ = _ := d0
        replace d1 : wo.drew.cell? _ = _ := d1
        replace d2 : wo.drew.cell? _ = _ := d2
        replace d3 : wo.drew.cell? _ = _ := d3
        have hKX : Keep X w wo := hK.weak (fun b _ h => by rw [h]; exact hX)
        have j1 := i1.keep hKX
        have j2 : RatV wo X _ (q c) := (V2 c _ ht).keep hKX
        have j3 : RatL 100000 wo X _ _ := hv c _ hr
        unfold R4.v at j2 j3
        dsimp only at j2 j3
        rw [if_neg (Nat.lt_irrefl c)] at j3
        have HM : Hid (Rsz 20000 (f j * q c)) := (HS1.out j hj).mul (HS2.out c hlt)
        have HSB : Hid (Rsz 30001 (f c - f j * q c)) := by
          show Rsz _ _
          have h := (HS1.out c hlt).add HM.out.neg
          have e : f c + -(f j * q c) = f c - f j * q c := by grind
          rw [e] at h
          exact h.mono (by omega)
        have hgl := K1.lt
        have hl0 := NM.lt
        go_upto_block 1 with fail
        go_cut [] from 18 to 33 (fun W => ∃ ps', Line W g ps' ∧ ps'.length = n ∧ ValL 100000 W X ps' (fun i => if i < c + 1 then f i - f j * q i else f i) ∧ Keep (fun b => b = g) wo W)
        case first =>
          go_wp2_with fail
          go_region_with (first
            | (go_at_call 61; refine (mul_rat _ (fun _ => False) _ _ (f j) (q c) (RatL.to (j1.mono (by omega))) (RatL.to ((j2.len (HS2.out c hlt)).mono (by omega)))).mono ?_; rintro e u1 ⟨v5, rfl, i5, hb5⟩; obtain ⟨b5, A5, m5, c5, b5', A5', m5', c5', rfl, i5, -, -⟩ := i5.op; have y5 := hb5.size; (try simp only [World.size_alloc, size_set, size_drew, size_drewN] at y5); have K5 : Line u1 g ps := Loc.to K1; obtain ⟨g0, g1, g2, g3⟩ := K5.cells hr; dsimp only at g0 g1 g2 g3)
            | (go_at_call 74; refine (sub_rat _ (fun _ => False) _ _ (f c) (f j * q c) (RatL.to (j3.mono (by omega))) (RatL.to ((i5.len HM.out).mono (by omega)))).mono ?_; rintro e u2 ⟨v6, rfl, i6, hb6⟩; obtain ⟨b6, A6, m6, c6, b6', A6', m6', c6', rfl, i6, -, -⟩ := i6.op; have y6 := hb6.size; (try simp only [World.size_alloc, size_set, size_drew, size_drewN] at y6); have K6 : Line u2 g ps := Loc.to K1; obtain ⟨g0, g1, g2, g3⟩ := K6.cells hr; dsimp only at g0 g1 g2 g3; have f6 := K6.frz))
          all_goals
            go_wp2_with fail
            go_meet
            refine ⟨ps.set c ⟨b6, A6, m6, c6, b6', A6', m6', c6'⟩, K6.put (by omega) ⟨b6, A6, m6, c6, b6', A6', m6', c6'⟩, by simpa using hpn, ?_, kp⟩
            refine ValL.set (f := fun i => if i < c then f i - f j * q i else f i) (hv.keep kp) ?_ (fun i hi _ => ?_)
            · rw [if_pos (by omega)]
              exact (RatV.len ((i6.keep (X := Old u1) kp).weak (fun b hb hx => by have := hXs b hx; show b < u1.heap.size; omega)) HSB.out).mono (by omega)
            · by_cases h1 : i < c
              · rw [if_pos h1, if_pos (by omega)]
              · rw [if_neg h1, if_neg (by omega)]
        case rest =>
          obtain ⟨ps', K6, hpn', hv', hK'⟩ := hcut
          have hK2 := hK.trans hK'
          have NM' := NM.to (hK'.far (by intro e; have e : w.heap.size = g := e; omega))
          obtain ⟨w6, rfl⟩ : ∃ w6 : World, w6 = wc := ⟨_, rfl⟩
          go_wp2_with fail
          go_roundw
          case rel => exact ⟨c + 1, ps', by omega, by go_num, K6, hpn', hv', NM', hK2⟩
          case measure => simp only [intOf]; omega
      · obtain rfl : c = n := by omega
        go_wp2_with fail
        go_end0
        exact ⟨rfl, ps, K1, hpn, hv.congr (fun i hi => by rw [if_pos (by omega)]), hK⟩
end Go.Proofs.YtpeglenapmkdfaaGreat

