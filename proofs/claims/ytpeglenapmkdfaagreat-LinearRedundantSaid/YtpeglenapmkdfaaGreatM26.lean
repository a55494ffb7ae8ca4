/- Contracts of the functions that the statements reach, part 26. -/
import Derived.Test.YtpeglenapmkdfaaGreatRows
import Derived.Test.YtpeglenapmkdfaaGreatM16
import Derived.Test.YtpeglenapmkdfaaGreatM21
import Derived.Test.YtpeglenapmkdfaaGreatM22
import Derived.Test.YtpeglenapmkdfaaGreatM25
set_option linter.unusedSimpArgs false
set_option linter.unusedVariables false

/- right, and the unknown that enters. -/
namespace Go.Proofs.YtpeglenapmkdfaaGreat
open Go.RowKit
attribute [local go_sem ↓] Go.wp_at_zero Go.wp_at_succ

/-- A world that only grew keeps the tableau. -/
theorem Tab.on {w w' : World} {l : Lay} {m n : Nat} {S : St} {k : Nat → Rat} {sg : Nat → Int} (h : Tab w l m n S k sg) (hb : Keep (fun _ => False) w w') : Tab w' l m n S k sg :=
  ⟨h.fix.keep hb id id id, fun i hi => (h.rows i hi).keep (hb.weak (fun _ _ h => h.elim)) hb id, h.cost.keep (hb.weak (fun _ _ h => h.elim)) hb id, h.bas.keep hb id, h.dis⟩

set_option maxHeartbeats 4000000 in
theorem tright_any (w : World) (l : Lay) (m n : Nat) (sg : Nat → Int) (h : Fix w l m n sg) (hm : m ≤ 80) (hn : n ≤ 80) :
    Calls Tryz.prog 60 #[.pointer (some ⟨l.p, 0, none⟩)] w fun e w' => e = .returned (.int .i64 ((n + m : Nat) : Int)) ∧ Below w.heap.size w w' := by
  obtain ⟨⟨cs, cr, cb, hbox, hcs, hcr, hcb⟩, -, -⟩ := h
  have hl := hbox.lt
  have hw : IntKind.i64.wrap ((n : Int) + m) = n + m := by rw [IntKind.wrap_i64]; omega
  go_enter Tryz.func60, Tryz.ntmps60
  go_wp2_with fail
  go_region_held3 (fun W => W.cell? ⟨l.p, 0, none⟩ = some (.int .i64 n) ∧ W.cell? ⟨l.p, 2, none⟩ = some (.slice (some ⟨l.gr, 0, none⟩) m cr))
    (exact ⟨Loc.c 0 hbox, Loc.c 2 hbox⟩) (fail)
  all_goals
    go_wp2_with fail
    go_ret
    exact ⟨by simp [hw], bel⟩

set_option maxHeartbeats 4000000 in
theorem enter_any (w : World) (l : Lay) (m n g : Nat) (S : St) (k : Nat → Rat) (sg : Nat → Int) (hT : Tab w l m n S k sg) (hg : w.cell? ⟨g, 0, none⟩ = some (.pointer (some ⟨l.p, 0, none⟩))) (hgl : g < w.heap.size) (hm : m ≤ 80) (hn : n ≤ 80) (hk : ∀ c, c ≤ n + m → Rsz 9000 (k c)) :
    Calls Tryz.prog 89 #[.pointer (some ⟨g, 0, none⟩)] w fun e w' => ∃ r : Int, e = .returned (.int .i64 r) ∧ Hid ((r = -1 ∧ ∀ j, j < n → ¬ k j < 0) ∨ ∃ j : Nat, r = j ∧ j < n ∧ k j < 0 ∧ ∀ c, c < j → ¬ k c < 0) ∧ Below w.heap.size w w' := by
  have HT := Lib.hid hT
  obtain ⟨⟨⟨cs, cr, cb, hbox, hcs, hcr, hcb⟩, -, -⟩, -, hcost, -, -⟩ := hT
  have hl := hbox.lt
  have e1 := Loc.cell hbox
  obtain ⟨N, hN⟩ : ∃ N, n + m + 1 = N := ⟨_, rfl⟩
  rw [hN] at hbox hcost e1
  have HK := Lib.hid hk
  clear hk
  go_enter Tryz.func89, Tryz.ntmps89
  go_wp2_with fail
  go_loopw [7] (fun q wr => ∃ (c : Nat), c ≤ n ∧ q = .int .i64 c ∧ Hid (∀ j, j < c → ¬ k j < 0) ∧ Below w.heap.size w wr) (fun q _ => n - (intOf q).toNat)
  case atStart => exact ⟨0, by omega, rfl, Lib.hid (fun i hi => absurd hi (by omega)), bel⟩
  case round =>
    obtain ⟨c, hc, rfl, hall, hB⟩ := hrel
    obtain ⟨wo, rfl⟩ : ∃ wo : World, wo = wr := ⟨_, rfl⟩
    have y5 := hB.size; (try simp only [World.size_alloc, size_set, size_drew, size_drewN] at y5)
    clear e1
    by_cases hlt : c < n
    · have hbo : Loc wo _ _ _ := Loc.keep hbox (.of_below hB) (X := fun _ => False) id
      have e1 := Loc.cell hbo
      have hg2 : wo.cell? ⟨g, 0, none⟩ = _ := cell_keep (X := fun _ => False) hg hgl id (.of_below hB)
      obtain ⟨b2, A2, m2, c2, b2', A2', m2', c2', y0, y1, y2, y3, r2, -⟩ := (hcost.keep (.of_below hB) (Y := fun _ => False) (.of_below hB) id).at (show c < N by omega)
      have k1 : (c : Int) < (N : Int) := by omega
      go_wp2_with fail
      refine (negative_any _ 100000 _ (k c) (RatL.to r2)).mono ?_
      rintro e w2 ⟨he, hb2⟩
      have y6 := hb2.size; (try simp only [World.size_alloc, size_set, size_drew, size_drewN] at y6)
      by_cases hneg : k c < 0
      · rw [decide_eq_true hneg] at he
        subst he
        have HV := Lib.hid hneg
        clear hneg
        go_wp2_with fail
        go_ret
        exact ⟨_, rfl, .inr ⟨c, rfl, hlt, HV.out, hall.out⟩, bel⟩
      · rw [decide_eq_false hneg] at he
        subst he
        have HV := Lib.hid hneg
        clear hneg
        go_wp2_with fail
        go_roundw
        case rel =>
          refine ⟨c + 1, by omega, by go_num, Lib.hid (fun i hi => ?_), bel⟩
          by_cases hic : i < c
          · exact hall.out i hic
          · obtain rfl : i = c := by omega
            exact HV.out
        case measure => simp only [intOf]; omega
    · obtain rfl : c = n := by omega
      go_wp2_with fail
      go_ret
      exact ⟨-1, rfl, .inl ⟨rfl, hall.out⟩, hB⟩
end Go.Proofs.YtpeglenapmkdfaaGreat

/- A block that holds no words, and that is no list's own, is no part of a list of fractions. -/
namespace Go.Proofs.YtpeglenapmkdfaaGreat
open Go.RowKit

/-- No word of 32 bits. -/
def noW (u : Value) : Prop := ∀ z : Int, u ≠ .int .u32 z
/-- The list's own block, if it has one, is at or above B. -/
def Fr (B : Nat) (v : Value) : Prop := ∀ (a : Addr) (n c : Nat), v = .slice (some a) n c → B ≤ a.block

section
variable {w : World} {X : Nat → Prop} {g k n B : Nat} {t : TypeId} {cs : Array Value} {v : Value} {q : Rat} {f : Nat → Rat} {xs : List Nat} {neg : Bool}
theorem Loc.mem (L : Loc w g t cs) {a : Addr} {u : Value} (h : w.cell? a = some u) (ha : a.block = g) : u ∈ cs := by
  unfold World.cell? at h
  rw [ha, L] at h
  dsimp only at h
  split at h
  · cases h
  · exact Array.mem_of_getElem? h
theorem Words.off (h : Words w X v xs) (L : Loc w g t cs) (hc : ∀ u ∈ cs, noW u) : Words w (fun b => X b ∨ b = g) v xs := by
  obtain ⟨⟨A, c, hv, h1, h2, h3, h4⟩, h5⟩ := h
  refine ⟨⟨A, c, hv, h1, h2, h3, fun hn => ?_⟩, h5⟩
  obtain ⟨a, hA, hlt, hx, hcell⟩ := h4 hn
  refine ⟨a, hA, hlt, fun hy => ?_, hcell⟩
  rcases hy with hy | hy
  · exact hx hy
  · have h0 := hcell 0 _ (nums_get (k := .u32) (xs := xs) (i := 0) hn)
    have := L.mem h0 (by rw [addr_block]; exact hy)
    exact hc _ this _ rfl
theorem IntR.off (h : IntR w X v neg xs) (L : Loc w g t cs) (hc : ∀ u ∈ cs, noW u) : IntR w (fun b => X b ∨ b = g) v neg xs := by
  obtain ⟨a, b, h⟩ := h
  exact ⟨a, b, h.off L hc⟩
theorem RatL.off (h : RatL k w X v q) (L : Loc w g t cs) (hc : ∀ u ∈ cs, noW u) : RatL k w (fun b => X b ∨ b = g) v q := by
  obtain ⟨n1, xs, n2, ys, ⟨A, c, B, d, e, h1, h2⟩, h3⟩ := h
  exact ⟨n1, xs, n2, ys, ⟨A, c, B, d, e, h1.off L hc, h2.off L hc⟩, h3⟩
theorem Nums.off (h : Nums k w X v n f) (L : Loc w g t cs) (hc : ∀ u ∈ cs, noW u) (hf : Fr B v) (hg : g < B) : Nums k w (fun b => X b ∨ b = g) v n f := by
  obtain ⟨rs, A, cap, h1, h2, h3, h4, h5, h6⟩ := h
  refine ⟨rs, A, cap, h1, h2, h3, h4, fun hn => ?_, fun i r hr => (h6 i r hr).off L hc⟩
  obtain ⟨a, ea, hb, hX, hcell⟩ := h5 hn
  refine ⟨a, ea, hb, fun hy => ?_, hcell⟩
  rcases hy with hy | hy
  · exact hX hy
  · have := hf a n cap (by rw [h2, ea])
    omega
theorem Nums.off2 (h : Nums k w X v n f) (L : Loc w g t cs) (hc : ∀ u ∈ cs, noW u) (hap : n ≠ 0 → ∀ (a : Addr) (c : Nat), v = .slice (some a) n c → a.block ≠ g) : Nums k w (fun b => X b ∨ b = g) v n f := by
  obtain ⟨rs, A, cap, h1, h2, h3, h4, h5, h6⟩ := h
  refine ⟨rs, A, cap, h1, h2, h3, h4, fun hn => ?_, fun i r hr => (h6 i r hr).off L hc⟩
  obtain ⟨a, ea, hb, hX, hcell⟩ := h5 hn
  refine ⟨a, ea, hb, fun hy => ?_, hcell⟩
  rcases hy with hy | hy
  · exact hX hy
  · exact hap hn a cap (by rw [h2, ea]) hy
theorem Nums.newer (h : Nums k w X v n f) (hg : w.heap.size ≤ g) : n ≠ 0 → ∀ (a : Addr) (c : Nat), v = .slice (some a) n c → a.block ≠ g := fun hn a c e => by
  obtain ⟨rs, A, cap, h1, h2, h3, h4, h5, h6⟩ := h
  obtain ⟨a', ea, hb, hX, hcell⟩ := h5 hn
  rw [h2, ea] at e
  injection e with e; injection e with e
  rw [← e]; omega
theorem Fr.older (h : Fr B v) (hg : g < B) : n ≠ 0 → ∀ (a : Addr) (c : Nat), v = .slice (some a) n c → a.block ≠ g := fun _ a c e => by have := h a n c e; omega
theorem Fr.nil (B : Nat) : Fr B (.slice none 0 0) := fun a n c h => by cases h
theorem Fr.own {g c : Nat} {A : Option Nat} (h : B ≤ g) : Fr B (.slice (some ⟨g, 0, A⟩) n c) := fun a n' c' e => by injection e with e; injection e with e; rw [← e]; exact h
theorem Fr.mono {B' : Nat} (h : Fr B v) (hB : B' ≤ B) : Fr B' v := fun a n c e => Nat.le_trans hB (h a n c e)
/-- Behind a store into a block that is none of its own. -/
theorem Nums.past {w' : World} (h : Nums k w (fun _ => False) v n f) (L : Loc w g t cs) (hc : ∀ u ∈ cs, noW u) (hf : Fr B v) (hg : g < B) (hk : Keep (fun b => b = g) w w') : Nums k w' (fun _ => False) v n f :=
  ((h.off L hc hf hg).keep (hk.weak (fun b _ hb => .inr hb))).weak (fun _ _ h => h.elim)
theorem RatL.past {w' : World} (h : RatL k w (fun _ => False) v q) (L : Loc w g t cs) (hc : ∀ u ∈ cs, noW u) (hk : Keep (fun b => b = g) w w') : RatL k w' (fun _ => False) v q :=
  ((h.off L hc).keep (hk.weak (fun b _ hb => .inr hb))).weak (fun _ _ h => h.elim)
end
theorem noW_bool (b : Bool) : noW (.bool b) := fun z h => by cases h
theorem noW_slice (A : Option Addr) (n c : Nat) : noW (.slice A n c) := fun z h => by cases h
theorem noW_i64 (x : Int) : noW (.int .i64 x) := fun z h => by injection h with h; cases h
end Go.Proofs.YtpeglenapmkdfaaGreat

/- point. -/
namespace Go.Proofs.YtpeglenapmkdfaaGreat
open Go.RowKit
attribute [local go_sem ↓] Go.wp_at_zero Go.wp_at_succ

theorem zvals (k : Nat) (w : World) (X : Nat → Prop) (n : Nat) : ValL k w X (List.replicate n zR4) (fun _ => 0) := fun i q hq => by
  obtain ⟨h1, h2⟩ := List.getElem?_eq_some_iff.1 hq
  rw [List.getElem_replicate] at h2
  subst h2
  exact zR4L _ _ _
theorem rsz_zero (k : Nat) (hk : 2 ≤ k) : Rsz k (0 : Rat) := (rsz_int (z := 0) (by decide) (by decide)).mono hk

set_option maxRecDepth 100000 in
set_option maxHeartbeats 16000000 in
theorem point_any (w : World) (l : Lay) (m n kk : Nat) (T0 : Nat → Nat → Rat) (S : St) (k : Nat → Rat) (sg : Nat → Int) (hT : Tab w l m n S k sg) (hG : Good m n T0 S.T S.b) (hm : m ≤ 80) (hn : n ≤ 80) (hkk : 2 ≤ kk) (hs : ∀ r, r < m → Rsz kk (S.T r (n + m))) :
    Calls Tryz.prog 49 #[.pointer (some ⟨l.p, 0, none⟩)] w fun e w' => ∃ v', e = .returned v' ∧ Nums kk w' (fun _ => False) v' n (pt m n S) ∧ Fr w.heap.size v' ∧ Below w.heap.size w w' := by
  have HT := Lib.hid hT
  have HG := Lib.hid hG
  have HS := Lib.hid hs
  obtain ⟨⟨⟨cs, cr, cb, hbox, hcs, hcr, hcb⟩, -, ⟨rr, hrow, hrr⟩⟩, -, -, ⟨bb, hbas, hbb⟩, -⟩ := hT
  have HRR := Lib.hid hrr
  have HBB := Lib.hid hbb
  have hl := hbox.lt
  have g2 := hrow.lt
  have g3 := hbas.lt
  obtain ⟨N, hN⟩ : ∃ N, n + m + 1 = N := ⟨_, rfl⟩
  have HN := Lib.hid hN
  obtain ⟨R, hR⟩ : ∃ R, n + m = R := ⟨_, rfl⟩
  have HR := Lib.hid hR
  have hmr : (m : Int) ≤ (cr : Int) := by omega
  have hmb : (m : Int) ≤ (cb : Int) := by omega
  obtain ⟨e1, f1, -⟩ := hbox.all (w' := w)
  clear hG hs hrr hbb
  go_enter Tryz.func49, Tryz.ntmps49
  go_wp2_with (at_make; refine wpList_makeR _ rfl _ _ rfl w.heap.size n rfl rfl rfl rfl (by omega) (by omega) ?_)
  intro w7 K7 hg7
  have hb7 : Below w.heap.size w w7 := (Below.refl _ _).grown hg7 (Nat.le_refl _) (fun k hk => by cases hk)
  have y7 := hb7.size
  have y8 := K7.lt
  clear e1 f1
  go_wp2_with fail
  go_loopw [14] (fun i wr => ∃ (ci : Nat) (rs : List R4), ci ≤ n ∧ i = .int .i64 ci ∧ Line wr w.heap.size rs ∧ rs.length = n ∧ ValL kk wr (fun b => b = w.heap.size) rs (fun _ => 0) ∧ Below w.heap.size w wr) (fun i _ => n - (intOf i).toNat)
  case atStart => exact ⟨0, _, by omega, rfl, K7, by simp, zvals _ _ _ _, hb7⟩
  case round =>
    clear K7 y8 y7 hb7
    obtain ⟨ci, rs, hci, rfl, K8, hrl, hvz, hB8⟩ := hrel
    obtain ⟨wo, rfl⟩ : ∃ wo : World, wo = wr := ⟨_, rfl⟩
    have y9 := hB8.size
    have q3 := K8.lt
    by_cases hlt : ci < n
    · go_wp2_with fail
      refine (zero_lin _).mono ?_
      rintro e u1 ⟨v9, rfl, i9, hb9⟩
      obtain ⟨b9, A9, m9, c9, b9', A9', m9', c9', rfl, i9, -, -⟩ := i9.op
      have y10 := hb9.size; (try simp only [World.size_alloc, size_set, size_drew, size_drewN] at y10)
      obtain ⟨qr, hqr⟩ : ∃ q, rs[ci]? = some q := ⟨_, List.getElem?_eq_getElem (by omega)⟩
      have K9 : Line u1 w.heap.size rs := Loc.to K8
      obtain ⟨g0, g1, g2', g3'⟩ := K9.cells hqr
      have f9 := K9.frz
      go_wp2_with fail
      go_roundw
      case rel =>
        refine ⟨ci + 1, rs.set ci ⟨b9, A9, m9, c9, b9', A9', m9', c9'⟩, by omega, by go_num, K9.put (by omega) ⟨b9, A9, m9, c9, b9', A9', m9', c9'⟩, by simpa using hrl, ?_, bel⟩
        refine ValL.set0 (hvz.keep kp) ?_
        have h1 := i9.weak (Y := fun b => b = w.heap.size) (fun b _ hx => by have : b = w.heap.size := hx; show b < wo.heap.size; omega)
        exact (RatV.len h1 (rsz_zero kk hkk)).keep kp
      case measure => simp only [intOf]; omega
    · obtain rfl : n = ci := by omega
      have hbo : Loc wo _ _ _ := Loc.keep (X := fun _ => False) hbox (.of_below hB8) id
      obtain ⟨e1, f1, -⟩ := hbo.all (w' := wo)
      go_wp2_with fail
      go_loopw [27] (fun i wr => ∃ (ci : Nat) (rs : List R4), ci ≤ m ∧ i = .int .i64 ci ∧ Line wr w.heap.size rs ∧ rs.length = n ∧ ValL kk wr (fun b => b = w.heap.size) rs (fun x => sm ci (fun i => if S.b i = x then S.T i (n + m) else 0)) ∧ Below w.heap.size w wr) (fun i _ => m - (intOf i).toNat)
      case atStart => exact ⟨0, rs, by omega, rfl, K8, hrl, hvz, hB8⟩
      case round =>
        clear K8 hrl hvz hB8 q3 y9 hbo e1 f1
        obtain ⟨ci, rs, hci, rfl, K8, hrl, hvz, hB8⟩ := hrel
        obtain ⟨wo, rfl⟩ : ∃ wo : World, wo = wr := ⟨_, rfl⟩
        have y9 := hB8.size
        have q3 := K8.lt
        have hKF : Keep (fun _ => False) w wo := .of_below hB8
        have hbo : Loc wo _ _ _ := Loc.keep hbox hKF id
        have hro : Loc wo _ _ _ := Loc.keep hrow hKF id
        have hba : Loc wo _ _ _ := Loc.keep hbas hKF id
        obtain ⟨e1, f1, l1⟩ := hbo.all (w' := wo)
        by_cases hlt : ci < m
        · have hbc : wo.cell? ⟨l.gb, ci, none⟩ = some (.int .i64 (S.b ci)) := by rw [Loc.cell hba, HBB.out ci hlt]
          have HRI : Hid (rr[ci]? = some (.slice (some ⟨l.G ci, 0, none⟩) N N)) := by show _ = _; rw [HRR.out ci hlt, HN.out]
          have hRw := HT.out.rows ci hlt
          rw [HN.out] at hRw
          obtain ⟨b4, A4, m4, c4, b4', A4', m4', c4', x0, x1, x2, x3, r5, -⟩ := hRw.at (show n + m < N by omega)
          rw [HR.out] at x0 x1 x2 x3
          have hgl := hRw.lt
          obtain ⟨bj, hbj⟩ : ∃ bj, S.b ci = bj := ⟨_, rfl⟩
          rw [hbj] at hbc
          have HBJ := Lib.hid hbj
          clear hbj
          have k0 : (0 : Int) ≤ (ci : Int) := by omega
          have k1 : (ci : Int) < (m : Int) := by omega
          have k2 : (0 : Int) ≤ (R : Int) := by omega
          have k3 : (R : Int) < (N : Int) := by omega
          by_cases hbn : bj < n
          · have HL : Hid (∀ W, Keep (fun b => b = w.heap.size) w W → (W.cell? ⟨l.p, 2, none⟩ = some (.slice (some ⟨l.gr, 0, none⟩) m cr) ∧ W.cell? ⟨l.gr, ci, none⟩ = some (.slice (some ⟨l.G ci, 0, none⟩) N N)) ∧ (W.cell? ⟨l.G ci, R * 4, none⟩ = some (.bool b4) ∧ W.cell? ⟨l.G ci, R * 4 + 1, none⟩ = some (.slice A4 m4 c4)) ∧ W.cell? ⟨l.G ci, R * 4 + 2, none⟩ = some (.bool b4') ∧ W.cell? ⟨l.G ci, R * 4 + 3, none⟩ = some (.slice A4' m4' c4')) := fun W hW => by
              have hx := HT.out.xlt
              have hgx : l.G ci ≠ w.heap.size := by have := hx _ (.inr (.inr (.inr (.inr (.inr ⟨ci, hlt, rfl⟩))))); omega
              refine ⟨⟨cell_keep (Loc.c 2 hbox) hl (fun e => by have e : l.p = w.heap.size := e; omega) hW, cell_keep ((Loc.c ci hrow).trans HRI.out) g2 (fun e => by have e : l.gr = w.heap.size := e; omega) hW⟩, ⟨?_, ?_⟩, ?_, ?_⟩
              · exact cell_keep x0 hgl hgx hW
              · exact cell_keep x1 hgl hgx hW
              · exact cell_keep x2 hgl hgx hW
              · exact cell_keep x3 hgl hgx hW
            clear x0 x1 x2 x3
            have hTw : Hid (Fix wo l m n sg) := (HT.out.on hKF).fix
            obtain ⟨qr, hqr⟩ : ∃ q, rs[bj]? = some q := ⟨_, List.getElem?_eq_getElem (by omega)⟩
            have kb0 : (0 : Int) ≤ (bj : Int) := by omega
            have kb1 : (bj : Int) < (n : Int) := by omega
            go_wp2_with fail
            go_region_held3 (fun W => (W.cell? ⟨l.p, 2, none⟩ = some (.slice (some ⟨l.gr, 0, none⟩) m cr) ∧ W.cell? ⟨l.gr, ci, none⟩ = some (.slice (some ⟨l.G ci, 0, none⟩) N N)) ∧ (W.cell? ⟨l.G ci, R * 4, none⟩ = some (.bool b4) ∧ W.cell? ⟨l.G ci, R * 4 + 1, none⟩ = some (.slice A4 m4 c4)) ∧ W.cell? ⟨l.G ci, R * 4 + 2, none⟩ = some (.bool b4') ∧ W.cell? ⟨l.G ci, R * 4 + 3, none⟩ = some (.slice A4' m4' c4'))
              (exact HL.out _ kp)
              (first
                | (go_at_call 60; refine (tright_any _ l m n sg (hTw.out.keep (X := fun _ => False) kp id id id) hm hn).mono ?_; rintro e u1 ⟨he, hb6⟩; rw [HR.out] at he; subst he; have y6 := hb6.size; (try simp only [World.size_alloc, size_set, size_drew, size_drewN] at y6); have K9 : Line u1 w.heap.size rs := Loc.to K8; obtain ⟨g0, g1, g2', g3'⟩ := K9.cells hqr; have f9 := K9.frz; have l9 := K9.lt))
            all_goals
              go_wp2_with fail
              go_roundw
              case rel =>
                refine ⟨ci + 1, rs.set bj ⟨b4, A4, m4, c4, b4', A4', m4', c4'⟩, by omega, by go_num, K9.put (by omega) ⟨b4, A4, m4, c4, b4', A4', m4', c4'⟩, by simpa using hrl, ?_, bel⟩
                refine ValL.set (f := fun x => sm ci (fun i => if S.b i = x then S.T i (n + m) else 0)) (hvz.keep kp) ?_ (fun x hx _ => ?_)
                · rw [sm_succ, sm_zero (fun i hi => if_neg (fun e => by have := HG.out.inj (show i < m by omega) hlt (by rw [HBJ.out]; exact e); omega)), if_pos HBJ.out]
                  have h1 : (0 : Rat) + S.T ci (n + m) = S.T ci (n + m) := by grind
                  rw [h1]
                  have h2 := (r5.len (HS.out ci hlt)).weak (Y := fun b => b = w.heap.size) (fun b hbl hb => by have : b = w.heap.size := hb; omega)
                  exact h2.keep kp
                · rw [sm_succ, if_neg (fun e => hx (by rw [← e, HBJ.out]))]; grind
              case measure => simp only [intOf]; omega
          · have hbn2 : ¬ (bj : Int) < (n : Int) := by omega
            go_wp2_with fail
            go_roundw
            case rel =>
              refine ⟨ci + 1, rs, by omega, by go_num, K8, hrl, hvz.congr (fun x hx => ?_), hB8⟩
              rw [sm_succ, if_neg (fun e => by rw [HBJ.out] at e; omega)]; grind
            case measure => simp only [intOf]; omega
        · obtain rfl : m = ci := by omega
          go_wp2_with fail
          go_ret
          exact ⟨_, rfl, Line.nums K8 hvz hrl (fun _ _ h => h.elim) id (by unfold maxLen; omega), Fr.own (Nat.le_refl _), hB8⟩
end Go.Proofs.YtpeglenapmkdfaaGreat

