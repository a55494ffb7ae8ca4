/- Contracts of the functions that the statements reach, part 31. -/
import Derived.Test.YtpeglenapmkdfaaGreatRows
import Derived.Laws.CopyRow
import Derived.Laws.CopyOwn
import Derived.Test.YtpeglenapmkdfaaGreatM22
import Derived.Test.YtpeglenapmkdfaaGreatM26
import Derived.Test.YtpeglenapmkdfaaGreatM30
set_option linter.unusedSimpArgs false
set_option linter.unusedVariables false

/- copy of fractions into a line. -/
namespace Go.Proofs.YtpeglenapmkdfaaGreat
open Go.RowKit

theorem run_copyR {P : Program} (w : World) (dT sT ty elem : TypeId) (g dLen dCap : Nat) (a : Addr) (sLen sCap : Nat) (cur : Array Value) (t : TypeId) (cs : List Value)
    (hu : P.underlying dT = some (.slice elem)) (hs : (P.info? elem).map (·.size) = some 4)
    (hg : w.heap[g]? = some (.cells cur t (0, 0))) (hn : cs.length = Nat.min sLen dLen * 4)
    (hsrc : ∀ j v, cs[j]? = some v → w.cell? (a.add j) = some v) (hfit : cs.length ≤ cur.size) (h1 : ∀ v ∈ cs, v.oneCell' = true) :
    (Builtin.copy_ #[dT, sT] ty #[.slice (some ⟨g, 0, none⟩) dLen dCap, .slice (some a) sLen sCap]).run P w =
      .ok (goInt (Nat.min sLen dLen)) (w.setRow g (cs ++ cur.toList.drop cs.length).toArray) := by
  have hl := run_loadCells_list (P := P) w a cs hsrc
  have hst := run_storeCells_at P g 0 t cs 0 cur w hg (by simpa using hfit) h1
  cases hq : P.info? elem with
  | none => simp [hq] at hs
  | some i =>
    have hi : i.size = 4 := by simpa [hq] using hs
    simp [Builtin.copy_, run_underlying hu, Builtin.lenOf, Builtin.firstCells, sizeOf, typeInfo, hq, hi, ← hn, hl, hst]

theorem add_add (a : Addr) (i j : Nat) : (a.add i).add j = a.add (i + j) := by
  unfold Addr.add
  by_cases h1 : i = 0
  · subst h1; simp
  · by_cases h2 : j = 0
    · subst h2; simp [h1]
    · simp [h1, h2]; omega

theorem keep_setRow (w : World) (g : Nat) (cs : Array Value) : Keep (fun b => b = g) w (w.setRow g cs) := ⟨by simp [World.setRow], fun k _ hne => setRow_other w g k cs (fun e => hne e), rfl, rfl, rfl⟩

theorem flat_cells_at {w : World} {a : Addr} {qs : List R4} (h : ∀ i r, qs[i]? = some r → w.cell? (a.add (i * 4)) = some (.bool r.b) ∧ w.cell? ((a.add (i * 4)).add 1) = some (.slice r.A r.m r.c) ∧ w.cell? ((a.add (i * 4)).add 2) = some (.bool r.b') ∧ w.cell? ((a.add (i * 4)).add 3) = some (.slice r.A' r.m' r.c')) :
    ∀ j v, (flat qs)[j]? = some v → w.cell? (a.add j) = some v := fun j v hv => by
  have hl := (List.getElem?_eq_some_iff.1 hv).1
  rw [flat_len] at hl
  have hi : j / 4 < qs.length := by omega
  have hr := List.getElem?_eq_getElem hi
  obtain ⟨c0, c1, c2, c3⟩ := h _ _ hr
  obtain ⟨f0, f1, f2, f3⟩ := flat_get qs _ _ hr
  rw [add_add] at c1 c2 c3
  have hj : j = j / 4 * 4 ∨ j = j / 4 * 4 + 1 ∨ j = j / 4 * 4 + 2 ∨ j = j / 4 * 4 + 3 := by omega
  rcases hj with e | e | e | e
  · rw [e] at hv ⊢; rw [f0] at hv; rw [c0]; exact hv
  · rw [e] at hv ⊢; rw [f1] at hv; rw [c1]; exact hv
  · rw [e] at hv ⊢; rw [f2] at hv; rw [c2]; exact hv
  · rw [e] at hv ⊢; rw [f3] at hv; rw [c3]; exact hv

theorem flat_one_cell : ∀ (qs : List R4), ∀ u ∈ flat qs, u.oneCell' = true
  | [], u, h => by simp [flat] at h
  | q :: l, u, h => by
    simp only [flat, List.mem_cons] at h
    rcases h with rfl | rfl | rfl | rfl | h
    · rfl
    · rfl
    · rfl
    · rfl
    · exact flat_one_cell l u h
theorem flat_drop : ∀ (rs : List R4) (n : Nat), (flat rs).drop (n * 4) = flat (rs.drop n)
  | rs, 0 => by simp
  | [], n + 1 => by simp [flat]
  | r :: rs, n + 1 => by
    rw [show (n + 1) * 4 = n * 4 + 4 by omega]
    simp only [flat, List.drop_succ_cons]
    exact flat_drop rs n

/-- copy(line, list), as it runs. -/
theorem copyR_run (w : World) (ty : TypeId) (g N : Nat) (rs : List R4) (hL : Line w g rs) (hN : rs.length = N) (n k : Nat) (X : Nat → Prop) (f : Nat → Rat) (vs : Value) (hnum : Nums k w X vs n f) (hn0 : n ≠ 0) (hle : n ≤ N) :
    ∃ (qs : List R4) (w' : World), (Builtin.copy_ #[23, 23] ty #[.slice (some ⟨g, 0, none⟩) N N, vs]).run Tryz.prog w = .ok (goInt n) w' ∧ qs.length = n ∧ ValL k w X qs f ∧ Line w' g (qs ++ rs.drop n) ∧ Keep (fun b => b = g) w w' := by
  obtain ⟨qs, A, cap, hq, rfl, h1, h2, h3, h4⟩ := hnum
  obtain ⟨ad, rfl, hb, hX, hc⟩ := h3 hn0
  have hm : Nat.min n N = n := Nat.min_eq_left hle
  obtain ⟨i, hi, hz0, hz1, hz2⟩ := info_parts info_rat
  have hrun := run_copyR (P := Tryz.prog) w 23 23 ty 44 g N N ad n cap (flat rs).toArray 44 (flat qs) Tryz.underlying23 (by rw [hi]; simp [hz1]) hL (by rw [flat_len, hq, hm]) (flat_cells_at hc) (by simp [flat_len]; omega) (flat_one_cell qs)
  rw [hm] at hrun
  refine ⟨qs, _, hrun, hq, h4, ?_, keep_setRow w g _⟩
  have e : flat qs ++ (flat rs).toArray.toList.drop (flat qs).length = flat (qs ++ rs.drop n) := by
    rw [flat_app, flat_len, hq, ← flat_drop]
  have e2 := setRow_heap w g (flat rs).toArray (flat (qs ++ rs.drop n)).toArray 44 _ hL
  rw [e]
  exact e2
end Go.Proofs.YtpeglenapmkdfaaGreat

/- second: between the phases. -/
namespace Go.Proofs.YtpeglenapmkdfaaGreat
open Go.RowKit
attribute [local go_sem ↓] Go.wp_at_zero Go.wp_at_succ

/-- What holds between the phases, c rows done. -/
structure Mid (m n : Nat) (T0 : Nat → Nat → Rat) (S : St) (c : Nat) : Prop where
  good : Good m n T0 S.T S.b
  feas : Feas m n S
  zer : Zer m n S
  non : Non m n c S
/-- The cost after the first c rows have been taken off. -/
def prc (d : Nat → Rat) (S : St) (c : Nat) : Nat → Rat := fun x => d x - sm c (fun i => d (S.b i) * S.T i x)
/-- The sizes of every tableau of T0. -/
def Szs (m n : Nat) (T0 : Nat → Nat → Rat) (d : Nat → Rat) : Prop := ∀ S : St, Good m n T0 S.T S.b → (∀ r, r < m → ∀ c, c ≤ n + m → Rsz 3000 (S.T r c)) ∧ ∀ r, r ≤ m → ∀ c, c ≤ n + m → Rsz 9000 (prc d S r c)

theorem prc_succ {m n r : Nat} {T0 : Nat → Nat → Rat} {S : St} {d : Nat → Rat} (G : Good m n T0 S.T S.b) (hr : r < m) : (fun c => prc d S r c - prc d S r (S.b r) * S.T r c) = prc d S (r + 1) := by
  funext c
  unfold prc
  rw [sm_zero (m := r) (f := fun i => d (S.b i) * S.T i (S.b r)) (fun i hi => by rw [G.id r hr i (by omega), if_neg (show ¬ i = r by omega)]; grind), sm_succ]
  grind

set_option maxRecDepth 100000 in
set_option maxHeartbeats 32000000 in
theorem second_any (w : World) (l : Lay) (m n k : Nat) (T0 : Nat → Nat → Rat) (S : St) (sg : Nat → Int) (kc : Nat → Rat) (vc : Value) (hT : Tab w l m n S (rho m (d1 m n) S.T S.b) sg) (hM : Mid m n T0 S 0) (hc : Nums k w (l.X m) vc n kc) (hk : k ≤ 2000) (hm1 : 1 ≤ m) (hn1 : 1 ≤ n) (hm : m ≤ 80) (hn : n ≤ 80)
    (hs1 : Szs m n T0 (d1 m n)) (hs2 : Szs m n T0 (d2 n kc)) :
    Calls Tryz.prog 56 #[.pointer (some ⟨l.p, 0, none⟩), vc] w fun e w' => e = .returned (.tuple #[]) ∧ ∃ (S' : St) (gc : Nat), Mid m n T0 S' m ∧ Tab w' { l with gc := gc } m n S' (rho m (d2 n kc) S'.T S'.b) sg ∧ Keep (l.X m) w w' ∧ w.heap.size ≤ gc := by
  have hxl := Lib.hid hT.xlt
  have HS1 := Lib.hid hs1
  have HS2 := Lib.hid hs2
  have HT0 := Lib.hid hT
  have HM0 := Lib.hid hM
  have HC := Lib.hid hc
  obtain ⟨C0, c0, rfl, hc, lc1, lc2⟩ := hc.op
  obtain ⟨⟨⟨cs, cr, cb, hbox, hcs, hcr, hcb⟩, -, -⟩, -, -, -, hdd⟩ := hT
  have HD := Lib.hid hdd
  obtain ⟨e1, f1, l1⟩ := hbox.all (w' := w)
  clear hs1 hs2 hM hc hdd
  go_enter Tryz.func56, Tryz.ntmps56
  go_wp2_with fail
  go_loopw [14] (fun i wr => ∃ (c : Nat) (S1 : St), c ≤ m ∧ i = .int .i64 c ∧ Hid (Mid m n T0 S1 c) ∧ Hid (Tab wr l m n S1 (rho m (d1 m n) S1.T S1.b) sg) ∧ Keep (l.X m) w wr) (fun i _ => m - (intOf i).toNat)
  case atStart => exact ⟨0, S, by omega, rfl, HM0, HT0, kp⟩
  case round =>
    clear e1 f1
    obtain ⟨c, S1, hcm, rfl, HM, HT, hK⟩ := hrel
    obtain ⟨wo, rfl⟩ : ∃ wo : World, wo = wr := ⟨_, rfl⟩
    obtain ⟨⟨⟨cs2, cr2, cb2, hbo, hcs2, hcr2, hcb2⟩, -, ⟨rr, hro, hrr⟩⟩, -, -, ⟨bb, hba, hbb⟩, -⟩ := HT.out
    have q2 := hbo.lt
    have q3 := hro.lt
    have q4 := hba.lt
    have hmr : (m : Int) ≤ (cr2 : Int) := by omega
    have hmb : (m : Int) ≤ (cb2 : Int) := by omega
    obtain ⟨N, hN⟩ : ∃ N, n + m + 1 = N := ⟨_, rfl⟩
    have HN := Lib.hid hN
    by_cases hlt : c < m
    · have HRC : Hid (rr[c]? = some (.slice (some ⟨l.G c, 0, none⟩) N N)) := by show _ = _; rw [hrr c hlt, hN]
      have HBC : Hid (bb[c]? = some (.int .i64 (S1.b c))) := hbb c hlt
      have hRw := HT.out.rows c hlt
      rw [hN] at hRw
      have k0 : (0 : Int) ≤ (c : Int) := by omega
      have k1 : (c : Int) < (m : Int) := by omega
      obtain ⟨bj, hbj⟩ : ∃ bj, S1.b c = bj := ⟨_, rfl⟩
      rw [hbj] at HBC
      have HBJ := Lib.hid hbj
      clear hbj hrr hbb
      by_cases hbn : bj < n
      · have hbn2 : (bj : Int) < (n : Int) := by omega
        go_wp2_with fail
        go_region_held3 (fun W => (W.cell? ⟨l.p, 4, none⟩ = some (.slice (some ⟨l.gb, 0, none⟩) m cb2) ∧ W.cell? ⟨l.p, 0, none⟩ = some (.int .i64 n)) ∧ W.cell? ⟨l.gb, c, none⟩ = some (.int .i64 bj))
          (exact ⟨⟨Loc.c 4 hbo, Loc.c 0 hbo⟩, (Loc.c c hba).trans HBC.out⟩) (fail)
        all_goals
          go_wp2_with fail
          go_roundw
          case rel => exact ⟨c + 1, S1, by omega, by go_num, ⟨HM.out.good, HM.out.feas, HM.out.zer, HM.out.non.succ (fun h => by rw [HBJ.out] at h; omega)⟩, HT.out.on kp, hK.trans kp⟩
          case measure => simp only [intOf]; omega
      · have hbn2 : ¬ (bj : Int) < (n : Int) := by omega
        go_wp2_with fail
        go_region_held3 (fun W => (W.cell? ⟨l.p, 4, none⟩ = some (.slice (some ⟨l.gb, 0, none⟩) m cb2) ∧ W.cell? ⟨l.p, 0, none⟩ = some (.int .i64 n)) ∧ W.cell? ⟨l.gb, c, none⟩ = some (.int .i64 bj))
          (exact ⟨⟨Loc.c 4 hbo, Loc.c 0 hbo⟩, (Loc.c c hba).trans HBC.out⟩) (fail)
        all_goals
          obtain ⟨e1, f1, -⟩ := hbo.all (w' := wo.drew)
          obtain ⟨e2, f2, -⟩ := hbo.all (w' := wo)
          go_wp2_with fail
          go_loopw [33] (fun i wi => ∃ (d : Nat), d ≤ n ∧ i = .int .i64 d ∧ Hid (∀ j, j < d → S1.T c j = 0) ∧ Below wo.heap.size wo wi) (fun i _ => n - (intOf i).toNat)
          case atStart => exact ⟨0, by omega, rfl, Lib.hid (fun j hj => absurd hj (by omega)), bel⟩
          case round =>
            obtain ⟨d, hdn, rfl, hall, hB⟩ := hrel
            obtain ⟨wi, rfl⟩ : ∃ wi : World, wi = wr := ⟨_, rfl⟩
            clear e1 f1 e2 f2
            have y5 := hB.size; (try simp only [World.size_alloc, size_set, size_drew, size_drewN] at y5)
            have hKi : Keep (fun _ => False) wo wi := .of_below hB
            have hbi : Loc wi _ _ _ := Loc.keep hbo hKi id
            have hri : Loc wi _ _ _ := Loc.keep hro hKi id
            obtain ⟨e1, f1, l1⟩ := hbi.all (w' := wi)
            by_cases hdl : d < n
            · obtain ⟨b3, A3, m3, c3, b3', A3', m3', c3', x0, x1, x2, x3, r3, -⟩ := (hRw.keep (.of_below hB) (Y := fun _ => False) hKi id).at (show d < N by omega)
              have hrc : wi.cell? ⟨l.gr, c, none⟩ = some (.slice (some ⟨l.G c, 0, none⟩) N N) := by rw [Loc.cell hri, HRC.out]
              have d0 : (0 : Int) ≤ (d : Int) := by omega
              have d1' : (d : Int) < (N : Int) := by omega
              obtain ⟨sv, hsv⟩ : ∃ s, (S1.T c d).num.sign = s := ⟨_, rfl⟩
              have HSV := Lib.hid hsv
              have HSZ : Hid (sv = 0 ↔ S1.T c d = 0) := by show _ ↔ _; rw [← hsv]; exact sign_zero_iff _
              clear hsv
              go_wp2_with fail
              refine (sign_rat _ (fun _ => False) 3000 _ (S1.T c d) (RatL.to (r3.len ((HS1.out S1 HM.out.good).1 c hlt d (by omega))))).mono ?_
              rintro e w3 ⟨he, hb3⟩
              rw [HSV.out] at he
              subst he
              have y9 := hb3.size; (try simp only [World.size_alloc, size_set, size_drew, size_drewN] at y9)
              by_cases hs0 : sv = 0
              · subst hs0
                have HZ := Lib.hid (HSZ.out.1 rfl)
                clear HSZ HSV
                go_wp2_with fail
                go_roundw
                case rel =>
                  refine ⟨d + 1, by omega, by go_num, Lib.hid (fun j hj => ?_), bel⟩
                  by_cases hjd : j < d
                  · exact hall.out j hjd
                  · obtain rfl : j = d := by omega
                    exact HZ.out
                case measure => simp only [intOf]; omega
              · have HNZ : Hid (S1.T c d ≠ 0) := fun h => hs0 (HSZ.out.2 h)
                have hsf : (sv == 0) = false := beq_eq_false_iff_ne.2 hs0
                have hsf2 : (sv != 0) = true := bne_iff_ne.2 hs0
                clear HSZ HSV
                go_wp2_with fail
                refine (pivot_any _ l m n c d S1 _ sg (HT.out.on (kp : Keep (fun _ => False) wo w3)) hlt (by omega) HNZ.out hm hn (HS1.out S1 HM.out.good).1 (fun x hx => (HS1.out S1 HM.out.good).2 m (Nat.le_refl m) x hx)).mono ?_
                rintro e w9 ⟨rfl, hT9, hK9⟩
                rw [← rho_at hlt HNZ.out] at hT9
                have HT9 := Lib.hid hT9
                have hZ0 : S1.T c (n + m) = 0 := HM.out.zer c hlt (by rw [HBJ.out]; omega)
                have HM9 : Hid (Mid m n T0 (S1.at c d) (c + 1)) := ⟨HM.out.good.pvt hlt (by omega) HNZ.out, HM.out.feas.deg HM.out.zer hlt hZ0, (HM.out.zer.at hlt hZ0).1, HM.out.non.succ_at hdl⟩
                have hK99 : Keep (l.X m) w w9 := (hK.trans (kp : Keep (l.X m) wo w3)).trans hK9
                clear hT9 hZ0
                go_wp2_with fail
                go_roundw
                case rel => exact ⟨c + 1, S1.at c d, by omega, by go_num, HM9, HT9, hK99⟩
                case measure => simp only [intOf]; omega
            · obtain rfl : n = d := by omega
              go_wp2_with fail
              go_roundw
              case rel => exact ⟨c + 1, S1, by omega, by go_num, ⟨HM.out.good, HM.out.feas, HM.out.zer, HM.out.non.succ (fun _ => hall.out)⟩, HT.out.on kp, hK.trans kp⟩
              case measure => simp only [intOf]; omega
    · obtain rfl : m = c := by omega
      obtain ⟨R, hR⟩ : ∃ R, n + m = R := ⟨_, rfl⟩
      have HR := Lib.hid hR
      have HRR := Lib.hid hrr
      have HBB := Lib.hid hbb
      obtain ⟨XB, hXB⟩ : ∃ XB : Nat → Prop, XB = fun b => l.X m b ∨ w.heap.size ≤ b := ⟨_, rfl⟩
      have HXB := Lib.hid hXB
      have hKB : Keep XB w wo := hK.weak (fun b _ h => by rw [hXB]; exact .inl h)
      have HC2 : Hid (Nums k w XB (.slice C0 n c0) n kc) := HC.out.weak (fun b hb h => by
        rw [hXB] at h
        rcases h with h | h
        · exact h
        · omega)
      have hwo := hK.size
      obtain ⟨dp1, dp2, dp3, dp4, dp5⟩ := HD.out
      have hxo : Hid (∀ b, l.X m b → b < wo.heap.size) := fun b hb => Nat.lt_of_lt_of_le (hxl.out b hb) hK.size
      clear hrr hbb dp4 dp5 hXB
      go_wp2_with fail
      refine (tright_any _ l m n sg HT.out.fix hm hn).mono ?_
      rintro e u1 ⟨he, hb1⟩
      rw [HR.out] at he
      subst he
      have y1 := hb1.size; (try simp only [World.size_alloc, size_set, size_drew, size_drewN] at y1)
      have hbo1 : Loc u1 _ _ _ := Loc.to hbo
      have q5 := hbo1.lt
      go_wp2_with (at_make; (refine wpList_makeR _ rfl _ _ rfl w.heap.size N rfl rfl (by omega) (by omega) (by omega) (by omega) ?_))
      intro w7 K7 hg7
      have hb7 : Below u1.heap.size u1 w7 := (Below.refl _ _).grown hg7 (Nat.le_refl _) (fun k hk => by cases hk)
      have y7 := hb7.size; (try simp only [World.size_alloc, size_set, size_drew, size_drewN] at y7)
      have hbo7 : Loc w7 _ _ _ := Loc.to hbo1
      obtain ⟨e7, f7, l7⟩ := hbo7.all (w' := w7)
      have hwo7 : Keep (fun _ => False) wo w7 := kp
      have q8 := K7.lt
      obtain ⟨g7, hg7e⟩ : ∃ g, u1.heap.size = g := ⟨_, rfl⟩
      rw [hg7e] at K7 q8
      have hg7w : wo.heap.size ≤ g7 := by omega
      have hpg : l.p ≠ g7 := by omega
      rw [hg7e]
      go_wp2_with fail
      obtain ⟨w8, hw8⟩ : ∃ w8, w8 = w7.setCell ⟨l.p, 3, none⟩ (.slice (some ⟨g7, 0, none⟩) N N) := ⟨_, rfl⟩
      rw [← hw8]
      have hbo8 : Loc w8 l.p 92 #[.int .i64 n, .slice (some ⟨l.gs, 0, none⟩) m cs2, .slice (some ⟨l.gr, 0, none⟩) m cr2, .slice (some ⟨g7, 0, none⟩) N N, .slice (some ⟨l.gb, 0, none⟩) m cb2] := by
        rw [hw8]
        have := Loc.set hbo7 3 (.slice (some ⟨g7, 0, none⟩) N N)
        simpa using this
      have K8 : Line w8 g7 (List.replicate N zR4) := by rw [hw8]; exact Loc.to K7
      have hK8 : Keep (fun b => b = l.p) w7 w8 := by rw [hw8]; exact Keep.set (Keep.refl (fun b => b = l.p) w7) (p := ⟨l.p, 3, none⟩) (.inl rfl) _
      have hs8 : w8.heap.size = w7.heap.size := by rw [hw8, size_set]
      have hKo8 : Keep (fun b => b = l.p) wo w8 := (hwo7.weak (fun _ _ h => h.elim)).trans hK8
      clear hw8 e7 f7 hbo1 hbo7
      have e8 := Loc.cell hbo8
      go_loopw [66] (fun i wr => ∃ (ci : Nat) (rs : List R4), ci ≤ N ∧ i = .int .i64 ci ∧ Line wr g7 rs ∧ rs.length = N ∧ ValL 2 wr (fun b => b = g7 ∨ l.X m b) rs (fun _ => 0) ∧ Keep (fun b => b = g7) w8 wr) (fun i _ => N - (intOf i).toNat)
      case atStart => exact ⟨0, _, by omega, rfl, K8, by simp, zvals _ _ _ _, Keep.refl _ _⟩
      case round =>
        clear K7 q8 hb7 hb1
        obtain ⟨ci, rs, hci, rfl, K9, hrl, hvz, hK9⟩ := hrel
        obtain ⟨wi, rfl⟩ : ∃ wi : World, wi = wr := ⟨_, rfl⟩
        have hbi : Loc wi _ _ _ := Loc.keep hbo8 hK9 (fun e => hpg e)
        have q9 := K9.lt
        have hs9 := hK9.size
        clear e8
        obtain ⟨e8, f8, l8⟩ := hbi.all (w' := wi)
        by_cases hlt : ci < N
        · have d0 : (0 : Int) ≤ (ci : Int) := by omega
          have d1' : (ci : Int) < (N : Int) := by omega
          obtain ⟨qr, hqr⟩ : ∃ q, rs[ci]? = some q := ⟨_, List.getElem?_eq_getElem (by omega)⟩
          clear e8 f8
          go_wp2_with fail
          go_region_held3 (fun W => W.cell? ⟨l.p, 3, none⟩ = some (.slice (some ⟨g7, 0, none⟩) N N))
            (exact Loc.c 3 hbi)
            (first
              | (go_at_call 55; refine (zero_lin _).mono ?_; rintro e v1 ⟨v9, rfl, i9, hb9⟩; obtain ⟨b9, A9, m9, c9, b9', A9', m9', c9', rfl, i9, -, -⟩ := i9.op; have y10 := hb9.size; (try simp only [World.size_alloc, size_set, size_drew, size_drewN] at y10); have K10 : Line v1 g7 rs := Loc.to K9; obtain ⟨g0, g1, g2', g3'⟩ := K10.cells hqr; have f9 := K10.frz; have l10 := K10.lt))
          all_goals
            go_wp2_with fail
            go_roundw
            case rel =>
              refine ⟨ci + 1, rs.set ci ⟨b9, A9, m9, c9, b9', A9', m9', c9'⟩, by omega, by go_num, K10.put (by omega) ⟨b9, A9, m9, c9, b9', A9', m9', c9'⟩, by simpa using hrl, ?_, hK9.trans kp⟩
              refine ValL.set0 (hvz.keep ((kp : Keep (fun b => b = g7) wi _).weak (fun b _ h => .inl h))) ?_
              have h1 := i9.weak (Y := fun b => b = g7 ∨ l.X m b) (fun b _ hx => by
                show b < wi.heap.size
                rcases hx with hx | hx
                · omega
                · have := hxo.out b hx; omega)
              exact (RatV.len h1 (rsz_zero 2 (by omega))).keep ((kp : Keep (fun b => b = g7) v1 _).weak (fun b _ h => .inl h))
            case measure => simp only [intOf]; omega
        · obtain rfl : N = ci := by omega
          have hwi : Keep XB wo wi := ((hKo8.weak (fun b _ h => by rw [HXB.out, show b = l.p from h]; exact .inl (.inl rfl))).trans (hK9.weak (fun b _ h => by rw [HXB.out, show b = g7 from h]; exact .inr (by omega))))
          have HCN : Hid (Nums k wi XB (.slice C0 n c0) n kc) := HC2.out.keep (hKB.trans hwi)
          obtain ⟨qs, w10, hrun, hql, hqv, K10, hK10⟩ := copyR_run wi 3 g7 N rs K9 hrl n k XB kc _ HCN.out (by omega) (by omega)
          have HCOST : Hid (Rc w10 (({ l with gc := g7 } : Lay).X m) g7 N (prc (d2 n kc) S1 0)) := by
            refine ⟨qs ++ rs.drop n, K10, by simp [hql, hrl]; omega, fun i r hr => ?_⟩
            have hval : ∀ X : Nat → Prop, (∀ b, b < wi.heap.size → X b → b = g7 ∨ l.X m b) → ∀ b, b < wi.heap.size → X b → XB b := fun X hX b hb hx => by
              rw [HXB.out]
              rcases hX b hb hx with h | h
              · exact .inr (by omega)
              · exact .inl h
            have hXX : ∀ b, b < wi.heap.size → ({ l with gc := g7 } : Lay).X m b → b = g7 ∨ l.X m b := fun b _ h => by
              rcases h with h | h | h | h | h | h
              · exact .inr (.inl h)
              · exact .inr (.inr (.inl h))
              · exact .inr (.inr (.inr (.inl h)))
              · exact .inl h
              · exact .inr (.inr (.inr (.inr (.inr (.inl h)))))
              · exact .inr (.inr (.inr (.inr (.inr (.inr h)))))
            have hkk : Keep (({ l with gc := g7 } : Lay).X m) wi w10 := hK10.weak (fun b _ h => .inr (.inr (.inr (.inl h))))
            have hpr : prc (d2 n kc) S1 0 i = if i < n then kc i else 0 := by unfold prc d2; simp only [sm]; split <;> grind
            by_cases hin : i < n
            · rw [List.getElem?_append_left (by omega)] at hr
              rw [hpr, if_pos hin]
              exact (((hqv i r hr).weak (hval _ hXX)).keep hkk).mono (by omega)
            · rw [List.getElem?_append_right (by omega), List.getElem?_drop] at hr
              rw [hpr, if_neg hin]
              exact (((hvz _ r hr).weak hXX).keep hkk).mono (by omega)
          have hbi10 : Loc w10 _ _ _ := Loc.keep hbi hK10 (fun e => hpg e)
          have hs10 := hK10.size
          have hK710 : Keep (fun b => b = g7) w8 w10 := hK9.trans hK10
          clear hqv hvz K9 hrl
          obtain ⟨e10, f10, l10⟩ := hbi10.all (w' := w10)
          go_wp2_with fail
          obtain ⟨X2, hX2⟩ : ∃ X2, X2 = ({ l with gc := g7 } : Lay).X m := ⟨_, rfl⟩
          have HX2 : Hid (∀ b, X2 b → b = g7 ∨ l.X m b) := fun b h => by
            rw [hX2] at h
            rcases h with h | h | h | h | h | h
            · exact .inr (.inl h)
            · exact .inr (.inr (.inl h))
            · exact .inr (.inr (.inr (.inl h)))
            · exact .inl h
            · exact .inr (.inr (.inr (.inr (.inr (.inl h)))))
            · exact .inr (.inr (.inr (.inr (.inr (.inr h)))))
          have HXE := Lib.hid hX2
          rw [← hX2] at HCOST
          have RW2 : Hid (∀ i, i < m → Rw wo X2 (l.G i) N (S1.T i)) := fun i hi => by
            obtain ⟨rs2, a2, b2, c2⟩ := HT.out.rows i hi
            refine ⟨rs2, a2, by rw [b2, HN.out], c2.weak (fun b hb h => ?_)⟩
            rcases HX2.out b h with h | h
            · omega
            · exact h
          have hX2g : Hid (X2 g7) := by show X2 g7; rw [hX2]; exact .inr (.inr (.inr (.inl rfl)))
          have hX2p : Hid (X2 l.p) := by show X2 l.p; rw [hX2]; exact .inl rfl
          have hKp10 : Keep (fun b => b = l.p ∨ b = g7) wo w10 := (hKo8.weak (fun b _ h => .inl h)).trans (hK710.weak (fun b _ h => .inr h))
          have hg10 : g7 < w10.heap.size := HCOST.out.lt
          clear hX2 hrun K10
          go_loopw [88] (fun i wr => ∃ (r : Nat), r ≤ m ∧ i = .int .i64 r ∧ Hid (Rc wr X2 g7 N (prc (d2 n kc) S1 r)) ∧ Keep (fun b => b = g7) w10 wr) (fun i _ => m - (intOf i).toNat)
          case atStart => exact ⟨0, by omega, rfl, HCOST, Keep.refl _ _⟩
          case round =>
            obtain ⟨r, hrm, rfl, HRC, hKr⟩ := hrel
            obtain ⟨wq, rfl⟩ : ∃ wq : World, wq = wr := ⟨_, rfl⟩
            clear e8 f8 e10 f10 HCOST
            have hKw : Keep (fun b => b = l.p ∨ b = g7) wo wq := hKp10.trans (hKr.weak (fun b _ h => .inr h))
            have hKw2 : Keep X2 wo wq := hKw.weak (fun b _ h => by
              rcases h with h | h
              · rw [h]; exact hX2p.out
              · rw [h]; exact hX2g.out)
            have hbq : Loc wq _ _ _ := Loc.keep hbi10 hKr (fun e => hpg e)
            have hgr : l.gr ≠ g7 := fun e => by have := hxo.out l.gr (.inr (.inr (.inl rfl))); omega
            have hgb : l.gb ≠ g7 := fun e => by have := hxo.out l.gb (.inr (.inr (.inr (.inr (.inl rfl))))); omega
            have hgs : l.gs ≠ g7 := fun e => by have := hxo.out l.gs (.inr (.inl rfl)); omega
            have hrq : Loc wq l.gr _ _ := Loc.keep hro hKw (fun e => by
              rcases e with e | e
              · exact dp1.2.1 e.symm
              · exact hgr e)
            have hbaq : Loc wq l.gb _ _ := Loc.keep hba hKw (fun e => by
              rcases e with e | e
              · exact dp1.2.2.2 e.symm
              · exact hgb e)
            have q11 := hbq.lt
            have q12 := hrq.lt
            have q13 := hbaq.lt
            by_cases hlt : r < m
            · have hGg : l.G r ≠ g7 := fun e => by have := hxo.out (l.G r) (.inr (.inr (.inr (.inr (.inr ⟨r, hlt, rfl⟩))))); omega
              have hRr := (RW2.out r hlt).keep hKw2 hKw (fun e => by
                rcases e with e | e
                · exact (HD.out.d4 r hlt).1 e
                · exact hGg e)
              have hbc : wq.cell? ⟨l.gb, r, none⟩ = some (.int .i64 (S1.b r)) := by rw [Loc.cell hbaq, HBB.out r hlt]
              have HRI : Hid (rr[r]? = some (.slice (some ⟨l.G r, 0, none⟩) N N)) := by show _ = _; rw [HRR.out r hlt, HN.out]
              obtain ⟨bj, hbj⟩ : ∃ bj, S1.b r = bj := ⟨_, rfl⟩
              have hbl := HM.out.good.lt r hlt
              rw [hbj] at hbc hbl
              have HBJ := Lib.hid hbj
              clear hbj
              have k0 : (0 : Int) ≤ (r : Int) := by omega
              have k1 : (r : Int) < (m : Int) := by omega
              have hxq : Hid (∀ b, X2 b → b < wq.heap.size) := fun b hb => by
                have := hKr.size
                rcases HX2.out b hb with h | h
                · omega
                · have h2 := hxo.out b h
                  have h3 := hKw.size
                  omega
              have q14 := hRr.lt
              have q15 := HRC.out.lt
              go_wp2_with fail
              go_region_held3 (fun W => (W.cell? ⟨l.p, 3, none⟩ = some (.slice (some ⟨g7, 0, none⟩) N N) ∧ W.cell? ⟨l.p, 2, none⟩ = some (.slice (some ⟨l.gr, 0, none⟩) m cr2)) ∧ W.cell? ⟨l.gr, r, none⟩ = some (.slice (some ⟨l.G r, 0, none⟩) N N))
                (first
                  | exact ⟨⟨Loc.c 3 hbq, Loc.c 2 hbq⟩, (Loc.c r hrq).trans HRI.out⟩
                  | exact ⟨⟨Loc.c 3 hbq5, Loc.c 2 hbq5⟩, (Loc.c r hrq5).trans HRI.out⟩)
                (first
                  | (go_at_call 88; refine (reduce_rc wq.drew X2 g7 (l.G r) N bj (prc (d2 n kc) S1 r) (S1.T r) (HRC.out.keep (w' := wq.drew) kp (Y := fun _ => False) kp id) (hRr.keep (w' := wq.drew) kp (Y := fun _ => False) kp id) (fun e => hGg e.symm) hX2g.out hxq.out (by omega) (by omega) (fun x hx => ((HS2.out S1 HM.out.good).2 r (by omega) x (by omega)).mono (by omega)) (fun x hx => ((HS2.out S1 HM.out.good).1 r hlt x (by omega)).mono (by omega))).mono ?_; rintro e u5 ⟨rfl, hR5, hK5⟩; have hbq5 : Loc u5 _ _ _ := Loc.keep (show Loc wq.drew _ _ _ from hbq) hK5 (fun e => hpg e); have hrq5 : Loc u5 _ _ _ := Loc.keep (show Loc wq.drew _ _ _ from hrq) hK5 (fun e => hgr e)))
              all_goals
                rw [← HBJ.out, prc_succ HM.out.good hlt] at hR5
                have HR5 := Lib.hid hR5
                clear hR5
                go_wp2_with fail
                go_roundw
                case rel => exact ⟨r + 1, by omega, by go_num, HR5, hKr.trans ⟨hK5.size, hK5.block, hK5.env⟩⟩
                case measure => simp only [intOf]; omega
            · obtain rfl : m = r := by omega
              go_wp2_with fail
              go_end0
              have hGn : ∀ i, i < m → l.G i ≠ g7 := fun i hi e => by have := hxo.out (l.G i) (.inr (.inr (.inr (.inr (.inr ⟨i, hi, rfl⟩))))); omega
              obtain ⟨-, ⟨ss, hss, hsv⟩, -⟩ := HT.out.fix
              have hne : ∀ g : Nat, g ≠ l.p → g ≠ g7 → ¬ (g = l.p ∨ g = g7) := fun g h1 h2 h => h.elim h1 h2
              refine ⟨rfl, S1, g7, HM.out, ⟨⟨⟨cs2, cr2, cb2, ?_, hcs2, hcr2, hcb2⟩, ⟨ss, Loc.keep hss hKw (hne _ (fun e => dp1.1 e.symm) hgs), hsv⟩, ⟨rr, hrq, HRR.out⟩⟩, fun i hi => ?_, ?_, ⟨bb, hbaq, HBB.out⟩, ?_⟩, ?_, by omega⟩
              · rw [HN.out]; exact hbq
              · rw [HN.out]
                have h := (RW2.out i hi).keep hKw2 hKw (hne _ (HD.out.d4 i hi).1 (hGn i hi))
                rw [HXE.out] at h
                exact h
              · rw [HN.out]
                have h := HRC.out
                rw [HXE.out] at h
                exact h
              · exact ⟨⟨dp1.1, dp1.2.1, hpg, dp1.2.2.2⟩, ⟨dp2.1, hgs, dp2.2.2⟩, ⟨hgr, dp3.2.1, fun e => hgb e.symm⟩, fun i hi => ⟨(HD.out.d4 i hi).1, (HD.out.d4 i hi).2.1, (HD.out.d4 i hi).2.2.1, hGn i hi, (HD.out.d4 i hi).2.2.2.2⟩, HD.out.d5⟩
              · refine hK.trans ⟨hKw.size, fun b hb hx => hKw.block b hb (fun h => ?_), hKw.env⟩
                rcases h with h | h
                · exact hx (by rw [h]; exact .inl rfl)
                · omega
end Go.Proofs.YtpeglenapmkdfaaGreat

