/- Contracts of the functions that the statements reach, part 34. -/
import Derived.Test.YtpeglenapmkdfaaGreatRows
import Derived.Test.YtpeglenapmkdfaaGreatM21
import Derived.Test.YtpeglenapmkdfaaGreatM22
import Derived.Test.YtpeglenapmkdfaaGreatM26
import Derived.Test.YtpeglenapmkdfaaGreatM33
set_option linter.unusedSimpArgs false
set_option linter.unusedVariables false

/- Solve. -/
namespace Go.Proofs.YtpeglenapmkdfaaGreat
open Go.RowKit
attribute [local go_sem ↓] Go.wp_at_zero Go.wp_at_succ

theorem Loc.fill3 {w : World} {g : Nat} {t : TypeId} {a b c u v x : Value} (L : Loc w g t #[a, b, c]) : Loc (((w.setCell ⟨g, 0, none⟩ u).setCell ⟨g, 1, none⟩ v).setCell ⟨g, 2, none⟩ x) g t #[u, v, x] := by
  have := ((L.set 0 u).set 1 v).set 2 x
  simpa using this

/-- What Solve says. -/
def SolveSays (code : Int) (b : Bool) (m mb : Nat) (N : Nat → Nat) (F : Nat → Nat → Rat) (Bv : Nat → Rat) (nx : Nat) (f : Nat → Rat) (ny : Nat) (y : Nat → Rat) : Prop :=
  (VS m mb N → code = 0 ∧ RS b m mb N F Bv nx f ny y) ∧ (¬ VS m mb N → code = 1 ∧ b = false ∧ nx = 0 ∧ ny = 0)

set_option maxRecDepth 100000 in
set_option maxHeartbeats 8000000 in
theorem solve_any (w : World) (vs : Value) (m mb k K1 K2 : Nat) (N : Nat → Nat) (F : Nat → Nat → Rat) (Bv : Nat → Rat) (hS : Sys k w vs m mb N F Bv) (hk1 : 1 ≤ k) (hk : k ≤ 1000) (hK1 : 2 ≤ K1) (hK1' : K1 ≤ 3000) (hK2 : 2 ≤ K2) (hK2' : K2 ≤ 9000)
    (hs : VS m mb N → Szk K1 K2 m (N 0) (t0 m (N 0) F Bv) (d1 m (N 0))) :
    Calls Tryz.prog 20 #[vs] w fun e w' => ∃ (b : Bool) (vX vY : Value) (nx ny : Nat) (f y : Nat → Rat) (code : Int), e = .returned (.tuple #[.agg #[.bool b, vX, vY], .int .i64 code]) ∧
      Hid (Nums K1 w' (fun _ => False) vX nx f ∧ Nums (K2 + K2 + 10) w' (fun _ => False) vY ny y) ∧ Hid (SolveSays code b m mb N F Bv nx f ny y) ∧ Below w.heap.size w w' := by
  obtain ⟨A, cA, B, d, rfl, hA, hB⟩ := hS
  have HA := Lib.hid hA
  have HB := Lib.hid hB
  have HS := Lib.hid hs
  have L1 := made1 w #[.slice A m cA, .slice B mb d] 25
  have L2 := made2 w (.cells #[.slice A m cA, .slice B mb d] 25) #[.bool false, .slice none 0 0, .slice none 0 0] 32
  clear hA hB hs
  go_enter Tryz.func20, Tryz.ntmps20
  go_wp2_with fail
  refine (valid_any _ _ _ m mb k N F Bv (HA.out.keep kp) (HB.out.keep kp)).mono ?_
  rintro e w1 ⟨⟨b, rfl, hb⟩, hb1⟩
  obtain ⟨z1, z2⟩ := sz2 hb1
  have LF := Loc.fill3 (u := .bool false) (v := .slice none 0 0) (x := .slice none 0 0) (L2.to (w' := w1))
  obtain ⟨e1, f1, -⟩ := L1.all (w' := w1)
  obtain ⟨e2, f2, -⟩ := L2.all (w' := w1)
  cases b
  · have HV : Hid (¬ VS m mb N) := fun h => by have := hb.out.2 h; cases this
    obtain ⟨e8, g8, -⟩ := LF.all
    clear hb
    go_wp2_with fail
    refine bodyPost_ret (by simp [results, Tryz.results20, go_sem, e8, g8] <;> rfl) rfl ⟨false, _, _, 0, 0, fun _ => 0, fun _ => 0, 1, rfl, ⟨Nums.nil _ _ _ _, Nums.nil _ _ _ _⟩, ⟨fun h => absurd h HV.out, fun _ => ⟨rfl, rfl, rfl, rfl⟩⟩, bel⟩
  have HV : Hid (VS m mb N) := hb.out.1 rfl
  clear hb LF
  obtain ⟨v1, v2, rfl, v4, v5, v6⟩ := HV.out
  obtain ⟨n, hnn⟩ : ∃ n, N 0 = n := ⟨_, rfl⟩
  have HN : Hid (∀ i, i < mb → N i = n) := fun i hi => by rw [← hnn]; exact v6 i hi
  have HN0 := Lib.hid hnn
  have HSZ := HS.out HV.out
  rw [hnn] at HSZ v4 v5
  have HSK := Lib.hid HSZ
  clear v6 hnn HSZ HS
  go_wp2_with fail
  refine (feasible_any _ mb n k N F Bv _ _ (HA.out.keep kp) (HB.out.keep kp) HN.out v1 v4 v2 v5 hk hk1 (HSK.out.szs hK1' hK2')).mono ?_
  rintro e w3 ⟨l, S, ok, rfl, HP, hb3⟩
  have z3 := hb3.size
  obtain ⟨e3, f3, l3⟩ := L2.all (w' := w3)
  clear e1 f1 e2 f2
  cases ok
  · have HNE : Hid (rho mb (d1 mb n) S.T S.b (n + mb) ≠ 0) := fun h => by have := HP.out.ok.2 h; cases this
    clear e3 f3
    go_wp2_with fail
    refine (farkas_any _ l mb n K2 S _ (sgn Bv) (HP.out.tab.on kp) v2 v5 hK2 (by omega) (HSK.out.rho HP.out.good) (fun i _ => sgn_or Bv i)).mono ?_
    rintro e w4 ⟨v', rfl, hn4, hf4, hb4⟩
    have z4 := hb4.size
    obtain ⟨A4, c4, rfl, hn4, -, -⟩ := hn4.op
    have HN4 := Lib.hid hn4
    have HF4 := Lib.hid hf4
    have HFK : Hid (FK mb mb N F Bv mb (fun i => ((-(sgn Bv i) : Int) : Rat) * (1 - rho mb (d1 mb n) S.T S.b (n + i)))) := fk_of HV.out HN0.out HP.out.good HP.out.feas HP.out.opt HNE.out
    have LF := Loc.fill3 (u := .bool false) (v := .slice none 0 0) (x := .slice A4 mb c4) (L2.to (w' := w4))
    obtain ⟨e3, f3, l3⟩ := L2.all (w' := w4)
    obtain ⟨e8, g8, -⟩ := LF.all
    have hcs : ∀ u ∈ (#[.bool false, .slice none 0 0, .slice none 0 0] : Array Value), noW u := fun u hu => by
      simp at hu
      rcases hu with rfl | rfl
      · exact noW_bool _
      · exact noW_slice _ _ _
    have HCS := Lib.hid hcs
    clear hn4 hf4 hcs
    go_wp2_with fail
    refine bodyPost_ret (by simp [results, Tryz.results20, go_sem, e8, g8] <;> rfl) rfl ⟨false, _, _, 0, mb, fun _ => 0, _, 0, rfl, ⟨Nums.nil _ _ _ _, HN4.out.past (L2.to (w' := w4)) HCS.out HF4.out (by omega) kp⟩, ⟨fun _ => ⟨rfl, .inr ⟨rfl, rfl, HFK.out⟩⟩, fun h => absurd HV.out h⟩, bel⟩
  · have HZ : Hid (Zer mb n S) := p1_zero HP.out.good HP.out.feas (HP.out.ok.1 rfl)
    clear e3 f3
    go_wp2_with fail
    refine (point_any _ l mb n K1 (t0 mb n F Bv) S _ (sgn Bv) (HP.out.tab.on kp) HP.out.good v2 v5 hK1 (fun r hr => (HSK.out S HP.out.good).1 r hr (n + mb) (Nat.le_refl _))).mono ?_
    rintro e w4 ⟨v', rfl, hn4, hf4, hb4⟩
    have z4 := hb4.size
    obtain ⟨A4, c4, rfl, hn4, -, -⟩ := hn4.op
    have HN4 := Lib.hid hn4
    have HF4 := Lib.hid hf4
    have HPT : Hid (PT mb mb N F Bv n (pt mb n S)) := pt_of HV.out HN0.out HP.out.good HP.out.feas HZ.out
    have LF := Loc.fill3 (u := .bool true) (v := .slice A4 n c4) (x := .slice none 0 0) (L2.to (w' := w4))
    obtain ⟨e3, f3, l3⟩ := L2.all (w' := w4)
    obtain ⟨e8, g8, -⟩ := LF.all
    have hcs : ∀ u ∈ (#[.bool false, .slice none 0 0, .slice none 0 0] : Array Value), noW u := fun u hu => by
      simp at hu
      rcases hu with rfl | rfl
      · exact noW_bool _
      · exact noW_slice _ _ _
    have HCS := Lib.hid hcs
    clear hn4 hf4 hcs
    go_wp2_with fail
    refine bodyPost_ret (by simp [results, Tryz.results20, go_sem, e8, g8] <;> rfl) rfl ⟨true, _, _, n, 0, _, fun _ => 0, 0, rfl, ⟨HN4.out.past (L2.to (w' := w4)) HCS.out HF4.out (by omega) kp, Nums.nil _ _ _ _⟩, ⟨fun _ => ⟨rfl, .inl ⟨rfl, rfl, HPT.out⟩⟩, fun h => absurd HV.out h⟩, bel⟩
end Go.Proofs.YtpeglenapmkdfaaGreat

/- ray. -/
namespace Go.Proofs.YtpeglenapmkdfaaGreat
open Go.RowKit
attribute [local go_sem ↓] Go.wp_at_zero Go.wp_at_succ

set_option maxRecDepth 100000 in
set_option maxHeartbeats 16000000 in
theorem ray_any (w : World) (l : Lay) (m n kk j : Nat) (T0 : Nat → Nat → Rat) (S : St) (k : Nat → Rat) (sg : Nat → Int) (hT : Tab w l m n S k sg) (hG : Good m n T0 S.T S.b) (hm : m ≤ 80) (hn : n ≤ 80) (hkk : 2 ≤ kk) (hkk2 : kk ≤ 100000) (hs : ∀ r, r < m → Rsz kk (S.T r j)) (hj : j < n) (hnb : ∀ i, i < m → S.b i ≠ j) :
    Calls Tryz.prog 58 #[.pointer (some ⟨l.p, 0, none⟩), .int .i64 j] w fun e w' => ∃ v', e = .returned v' ∧ Nums kk w' (fun _ => False) v' n (ry m S j) ∧ Fr w.heap.size v' ∧ Below w.heap.size w w' := by
  have HT := Lib.hid hT
  have HG := Lib.hid hG
  have HS := Lib.hid hs
  obtain ⟨⟨⟨cs, cr, cb, hbox, hcs, hcr, hcb⟩, -, ⟨rr, hrow, hrr⟩⟩, -, -, ⟨bb, hbas, hbb⟩, -⟩ := hT
  have HRR := Lib.hid hrr
  have HBB := Lib.hid hbb
  have hl := hbox.lt
  have g2 := hrow.lt
  have g3 := hbas.lt
  obtain ⟨N, hN⟩ : ∃ N, n + m + 1 = N := ⟨_, rfl⟩
  have HN := Lib.hid hN
  have HNB := Lib.hid hnb
  have j0 : (0 : Int) ≤ (j : Int) := by omega
  have j1 : (j : Int) < (n : Int) := by omega
  have j2 : (j : Int) < (N : Int) := by omega
  have hmr : (m : Int) ≤ (cr : Int) := by omega
  have hmb : (m : Int) ≤ (cb : Int) := by omega
  obtain ⟨e1, f1, -⟩ := hbox.all (w' := w)
  clear hG hs hrr hbb hnb
  go_enter Tryz.func58, Tryz.ntmps58
  go_wp2_with (at_make; refine wpList_makeR _ rfl _ _ rfl w.heap.size n rfl rfl rfl rfl (by omega) (by omega) ?_)
  intro w7 K7 hg7
  have hb7 : Below w.heap.size w w7 := (Below.refl _ _).grown hg7 (Nat.le_refl _) (fun k hk => by cases hk)
  have y7 := hb7.size
  have y8 := K7.lt
  clear e1 f1
  go_wp2_with fail
  go_loopw [16] (fun i wr => ∃ (ci : Nat) (rs : List R4), ci ≤ n ∧ i = .int .i64 ci ∧ Line wr w.heap.size rs ∧ rs.length = n ∧ ValL kk wr (fun b => b = w.heap.size) rs (fun _ => 0) ∧ Below w.heap.size w wr) (fun i _ => n - (intOf i).toNat)
  case atStart => exact ⟨0, _, by omega, rfl, K7, by simp, zvals _ _ _ _, hb7⟩
  case round =>
    clear K7 y8 y7 hb7
    obtain ⟨ci, rs, hci, rfl, K8, hrl, hvz, hB8⟩ := hrel
    obtain ⟨wo, rfl⟩ : ∃ wo : World, wo = wr := ⟨_, rfl⟩
    have y9 := hB8.size
    have q3 := K8.lt
    by_cases hlt : ci < n
    · go_wp2_with fail
      refine (zero_lin _).mono ?_
      rintro e u1 ⟨v9, rfl, i9, hb9⟩
      obtain ⟨b9, A9, m9, c9, b9', A9', m9', c9', rfl, i9, -, -⟩ := i9.op
      have y10 := hb9.size; (try simp only [World.size_alloc, size_set, size_drew, size_drewN] at y10)
      obtain ⟨qr, hqr⟩ : ∃ q, rs[ci]? = some q := ⟨_, List.getElem?_eq_getElem (by omega)⟩
      have K9 : Line u1 w.heap.size rs := Loc.to K8
      obtain ⟨g0, g1, g2', g3'⟩ := K9.cells hqr
      have f9 := K9.frz
      go_wp2_with fail
      go_roundw
      case rel =>
        refine ⟨ci + 1, rs.set ci ⟨b9, A9, m9, c9, b9', A9', m9', c9'⟩, by omega, by go_num, K9.put (by omega) ⟨b9, A9, m9, c9, b9', A9', m9', c9'⟩, by simpa using hrl, ?_, bel⟩
        refine ValL.set0 (hvz.keep kp) ?_
        have h1 := i9.weak (Y := fun b => b = w.heap.size) (fun b _ hx => by have : b = w.heap.size := hx; show b < wo.heap.size; omega)
        exact (RatV.len h1 (rsz_zero kk hkk)).keep kp
      case measure => simp only [intOf]; omega
    · obtain rfl : n = ci := by omega
      go_wp2_with fail
      refine (whole_lin _ 1 (by decide) (by decide)).mono ?_
      rintro e u1 ⟨v9, rfl, i9, hb9⟩
      rw [show ((1 : Int) : Rat) = 1 from rfl] at i9
      obtain ⟨b9, A9, m9, c9, b9', A9', m9', c9', rfl, i9, -, -⟩ := i9.op
      have y10 := hb9.size; (try simp only [World.size_alloc, size_set, size_drew, size_drewN] at y10)
      obtain ⟨qr, hqr⟩ : ∃ q, rs[j]? = some q := ⟨_, List.getElem?_eq_getElem (by omega)⟩
      have K9 : Line u1 w.heap.size rs := Loc.to K8
      obtain ⟨g0, g1, g2', g3'⟩ := K9.cells hqr
      have f9 := K9.frz
      have hB9 : Below w.heap.size w u1 := bel
      have hbo : Loc u1 _ _ _ := Loc.keep (X := fun _ => False) hbox (.of_below hB9) id
      obtain ⟨e1, f1, -⟩ := hbo.all (w' := u1)
      go_wp2_with fail
      go_loopw [33] (fun i wr => ∃ (ci : Nat) (rs : List R4), ci ≤ m ∧ i = .int .i64 ci ∧ Line wr w.heap.size rs ∧ rs.length = n ∧ ValL kk wr (fun b => b = w.heap.size) rs (fun x => (if x = j then 1 else 0) - sm ci (fun i => if S.b i = x then S.T i j else 0)) ∧ Below w.heap.size w wr) (fun i _ => m - (intOf i).toNat)
      case atStart =>
        clear hB9
        refine ⟨0, rs.set j ⟨b9, A9, m9, c9, b9', A9', m9', c9'⟩, by omega, rfl, K9.put (by omega) ⟨b9, A9, m9, c9, b9', A9', m9', c9'⟩, by simpa using hrl, ?_, bel⟩
        refine ValL.set (f := fun _ => 0) (hvz.keep kp) ?_ (fun x hx _ => ?_)
        · have h1 := i9.weak (Y := fun b => b = w.heap.size) (fun b _ hx => by have : b = w.heap.size := hx; show b < wo.heap.size; omega)
          have h2 : (if j = j then (1 : Rat) else 0) - sm 0 (fun i => if S.b i = j then S.T i j else 0) = 1 := by rw [if_pos rfl]; simp only [sm]; grind
          rw [h2]
          exact (RatV.len h1 ((rsz_int (z := 1) (by decide) (by decide)).mono hkk)).keep kp
        · rw [if_neg hx]; simp only [sm]; grind
      case round =>
        clear K8 K9 hrl hvz hB8 hB9 q3 y9 hbo e1 f1 hqr g0 g1 g2' g3' f9 hb9 y10 i9
        obtain ⟨ci, rs, hci, rfl, K8, hrl, hvz, hB8⟩ := hrel
        obtain ⟨wo, rfl⟩ : ∃ wo : World, wo = wr := ⟨_, rfl⟩
        have y9 := hB8.size
        have q3 := K8.lt
        have hKF : Keep (fun _ => False) w wo := .of_below hB8
        have hbo : Loc wo _ _ _ := Loc.keep hbox hKF id
        have hro : Loc wo _ _ _ := Loc.keep hrow hKF id
        have hba : Loc wo _ _ _ := Loc.keep hbas hKF id
        obtain ⟨e1, f1, l1⟩ := hbo.all (w' := wo)
        by_cases hlt : ci < m
        · have hbc : wo.cell? ⟨l.gb, ci, none⟩ = some (.int .i64 (S.b ci)) := by rw [Loc.cell hba, HBB.out ci hlt]
          have HRI : Hid (rr[ci]? = some (.slice (some ⟨l.G ci, 0, none⟩) N N)) := by show _ = _; rw [HRR.out ci hlt, HN.out]
          have hRw := HT.out.rows ci hlt
          rw [HN.out] at hRw
          obtain ⟨b4, A4, m4, c4, b4', A4', m4', c4', x0, x1, x2, x3, r5, -⟩ := hRw.at (show j < N by omega)
          have hgl := hRw.lt
          obtain ⟨bj, hbj⟩ : ∃ bj, S.b ci = bj := ⟨_, rfl⟩
          rw [hbj] at hbc
          have HBJ := Lib.hid hbj
          clear hbj
          have k0 : (0 : Int) ≤ (ci : Int) := by omega
          have k1 : (ci : Int) < (m : Int) := by omega
          by_cases hbn : bj < n
          · have HL : Hid (∀ W, Keep (fun b => b = w.heap.size) w W → (W.cell? ⟨l.p, 2, none⟩ = some (.slice (some ⟨l.gr, 0, none⟩) m cr) ∧ W.cell? ⟨l.gr, ci, none⟩ = some (.slice (some ⟨l.G ci, 0, none⟩) N N)) ∧ (W.cell? ⟨l.G ci, j * 4, none⟩ = some (.bool b4) ∧ W.cell? ⟨l.G ci, j * 4 + 1, none⟩ = some (.slice A4 m4 c4)) ∧ W.cell? ⟨l.G ci, j * 4 + 2, none⟩ = some (.bool b4') ∧ W.cell? ⟨l.G ci, j * 4 + 3, none⟩ = some (.slice A4' m4' c4')) := fun W hW => by
              have hx := HT.out.xlt
              have hgx : l.G ci ≠ w.heap.size := by have := hx _ (.inr (.inr (.inr (.inr (.inr ⟨ci, hlt, rfl⟩))))); omega
              refine ⟨⟨cell_keep (Loc.c 2 hbox) hl (fun e => by have e : l.p = w.heap.size := e; omega) hW, cell_keep ((Loc.c ci hrow).trans HRI.out) g2 (fun e => by have e : l.gr = w.heap.size := e; omega) hW⟩, ⟨?_, ?_⟩, ?_, ?_⟩
              · exact cell_keep x0 hgl hgx hW
              · exact cell_keep x1 hgl hgx hW
              · exact cell_keep x2 hgl hgx hW
              · exact cell_keep x3 hgl hgx hW
            clear x0 x1 x2 x3
            obtain ⟨qr, hqr⟩ : ∃ q, rs[bj]? = some q := ⟨_, List.getElem?_eq_getElem (by omega)⟩
            have kb0 : (0 : Int) ≤ (bj : Int) := by omega
            have kb1 : (bj : Int) < (n : Int) := by omega
            obtain ⟨⟨z1, z2⟩, ⟨z3, z4⟩, z5, z6⟩ := HL.out wo kp
            have hSZ : Hid (Rsz kk (S.T ci j)) := HS.out ci hlt
            go_wp2_with fail
            refine (neg_rat _ (fun _ => False) _ (S.T ci j) (RatL.to ((r5.len hSZ.out).mono (by omega)))).mono ?_
            rintro e u1 ⟨v7, rfl, i7, hb6⟩
            obtain ⟨b7, A7, m7, c7, b7', A7', m7', c7', rfl, i7, -, -⟩ := i7.op
            have y6 := hb6.size; (try simp only [World.size_alloc, size_set, size_drew, size_drewN] at y6)
            have K9 : Line u1 w.heap.size rs := Loc.to K8
            obtain ⟨g0, g1, g2', g3'⟩ := K9.cells hqr
            have f9 := K9.frz
            have l9 := K9.lt
            go_wp2_with fail
            go_roundw
            case rel =>
              refine ⟨ci + 1, rs.set bj ⟨b7, A7, m7, c7, b7', A7', m7', c7'⟩, by omega, by go_num, K9.put (by omega) ⟨b7, A7, m7, c7, b7', A7', m7', c7'⟩, by simpa using hrl, ?_, bel⟩
              refine ValL.set (f := fun x => (if x = j then 1 else 0) - sm ci (fun i => if S.b i = x then S.T i j else 0)) (hvz.keep kp) ?_ (fun x hx _ => ?_)
              · rw [sm_succ, sm_zero (fun i hi => if_neg (fun e => by have := HG.out.inj (show i < m by omega) hlt (by rw [HBJ.out]; exact e); omega)), if_pos HBJ.out, if_neg (show ¬ bj = j from fun e => HNB.out ci hlt (by rw [HBJ.out]; exact e))]
                have h1 : (0 : Rat) - (0 + S.T ci j) = -S.T ci j := by grind
                rw [h1]
                have h2 := i7.weak (Y := fun b => b = w.heap.size) (fun b _ hb => by have : b = w.heap.size := hb; show b < wo.heap.size; omega)
                exact (RatV.len h2 hSZ.out.neg).keep kp
              · rw [sm_succ, if_neg (show ¬ S.b ci = x from fun e => hx (by rw [← e, HBJ.out]))]; grind
            case measure => simp only [intOf]; omega
          · have hbn2 : ¬ (bj : Int) < (n : Int) := by omega
            go_wp2_with fail
            go_roundw
            case rel =>
              refine ⟨ci + 1, rs, by omega, by go_num, K8, hrl, hvz.congr (fun x hx => ?_), hB8⟩
              rw [sm_succ, if_neg (show ¬ S.b ci = x from fun e => by rw [HBJ.out] at e; omega)]; grind
            case measure => simp only [intOf]; omega
        · obtain rfl : m = ci := by omega
          go_wp2_with fail
          go_ret
          exact ⟨_, rfl, Line.nums K8 hvz hrl (fun _ _ h => h.elim) id (by unfold maxLen; omega), Fr.own (Nat.le_refl _), hB8⟩
end Go.Proofs.YtpeglenapmkdfaaGreat

