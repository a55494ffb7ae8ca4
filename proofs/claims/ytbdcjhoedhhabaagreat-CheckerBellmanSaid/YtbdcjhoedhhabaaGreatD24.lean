/- Contracts of the functions that the statements reach, part 24. -/
import Derived.Test.YtbdcjhoedhhabaaGreatRows
import Derived.Maps.OwnSet
import Derived.Lib.SliceRun
import Derived.Test.YtbdcjhoedhhabaaGreatD2
import Derived.Test.YtbdcjhoedhhabaaGreatD23
set_option linter.unusedSimpArgs false
set_option linter.unusedVariables false

/- Canonical partitions, menus: partition.Valid, strategy.CheckMenu, checker.menu. -/
namespace Go.Proofs.YtbdcjhoedhhabaaGreat
open Go.RowKit
attribute [local go_sem ↓] Go.wp_at_zero Go.wp_at_succ

theorem run_max2 {P : Program} (ats : Array TypeId) (ty : TypeId) (a b : Int) (w : World) : (Builtin.max_ ats ty #[.int .i64 a, .int .i64 b]).run P w = .ok (.int .i64 (max a b)) w := by
 have h : (Builtin.max2 (.int .i64 a) (.int .i64 b)).run P w = .ok (.int .i64 (max a b)) w := by
  show (pure (Value.int .i64 (if b > a then b else a)) : Sem Value).run P w = _
  rw [Sem.run_pure, Int.max_def]
  by_cases h : a ≤ b
  ·rw [if_pos h]
   by_cases h' : b > a
   ·rw [if_pos h']
   ·rw [if_neg h']
    obtain rfl : a = b := by omega
    rfl
  ·rw [if_neg h, if_neg (by omega)]
 simp only [Builtin.max_, List.foldlM, Sem.run_bind, h, Result.andThen_ok]
 rfl
attribute [local go_sem] run_max2

/-- Class numbers in the order of first occurrence, behind n classes. -/
def canGo : Int → List Int → Prop
 | _, [] => True
 | n, c :: l => (0 ≤ c ∧ c ≤ n) ∧ canGo (max n (c + 1)) l

theorem canGo_drop {n : Int} {zs : List Int} {c : Nat} {z : Int} (h : zs[c]? = some z) : canGo n (zs.drop c) ↔ (0 ≤ z ∧ z ≤ n) ∧ canGo (max n (z + 1)) (zs.drop (c + 1)) := by
 have hc := (List.getElem?_eq_some_iff.1 h).1
 rw [List.drop_eq_getElem_cons hc, (List.getElem?_eq_some_iff.1 h).2]
 exact Iff.rfl

set_option maxRecDepth 100000 in
set_option maxHeartbeats 4000000 in
theorem pvalid_any (w : World) (v : Value) (zs : List Int) (h : IntsV w v zs) :
 Calls Tryz.prog 257 #[v] w fun e w' => Tells (canGo 0 zs) e ∧ Below w.heap.size w w' := by
 have H := Lib.hid h
 obtain ⟨A, cap, rfl, h, l1, l2⟩ := h.op
 clear h
 obtain ⟨m, hm⟩ : ∃ m, zs.length = m := ⟨_, rfl⟩
 have HM := Lib.hid hm
 have H2 : Hid (IntsV w (.slice A m cap) zs) := by have h9 := H.out; rw [hm] at h9; exact h9
 rw [hm] at l1 ⊢
 have hmb : m ≤ 9223372036854775807 := by unfold maxLen at l2; omega
 clear hm H
 obtain ⟨P, hP⟩ : ∃ P, canGo 0 zs = P := ⟨_, rfl⟩
 rw [hP]
 have HP : Hid (P ↔ canGo 0 (zs.drop 0)) := by rw [← hP]; exact Iff.rfl
 clear hP
 go_enter Tryz.func257, Tryz.ntmps257
 go_wp2_with fail
 go_loopw [3, 8] (fun nv i wr => ∃ (c : Nat) (n : Int), c ≤ m ∧ i = .int .i64 c ∧ nv = .int .i64 n ∧ 0 ≤ n ∧ n ≤ c ∧ Hid (P ↔ canGo n (zs.drop c)) ∧ Below w.heap.size w wr) (fun _ i _ => m - (intOf i).toNat)
 case atStart => exact ⟨0, 0, by omega, rfl, rfl, by omega, by omega, HP, bel⟩
 case round =>
  clear HP
  obtain ⟨c, n, hc, rfl, rfl, hn0, hn1, hP, hB⟩ := hrel
  obtain ⟨wo, rfl⟩ : ∃ wo : World, wo = wr := ⟨_, rfl⟩
  have y5 := hB.size; (try simp only [zs] at y5)
  by_cases hlt : c < m
  ·obtain ⟨z, hz⟩ : ∃ z, zs[c]? = some z := ⟨_, List.getElem?_eq_getElem (by rw [HM.out]; exact hlt)⟩
   obtain ⟨a, rfl, hab, hcell, zb1, zb2⟩ := (H2.out.keep (.of_below hB)).at hz
   have k0 : (0 : Int) ≤ (c : Int) := by omega
   have k1 : (c : Int) < (m : Int) := by omega
   have HQ : Hid (P ↔ (0 ≤ z ∧ z ≤ n) ∧ canGo (max n (z + 1)) (zs.drop (c + 1))) := hP.out.trans (canGo_drop hz)
   clear hz hP
   by_cases z0 : z < 0
   ·have HV : Hid (¬ P) := fun h => by have := (HQ.out.1 h).1; omega
    have d1 : decide (z < 0) = true := decide_eq_true z0
    clear z0
    go_wp2_with fail
    go_ret
    exact ⟨Tells.no HV.out, bel⟩
   have d1 : decide (z < 0) = false := decide_eq_false z0
   by_cases z1 : n < z
   ·have HV : Hid (¬ P) := fun h => by have := (HQ.out.1 h).1; omega
    have d2 : decide (n < z) = true := decide_eq_true z1
    clear z0 z1
    go_wp2_with fail
    go_ret
    exact ⟨Tells.no HV.out, bel⟩
   have d2 : decide (n < z) = false := decide_eq_false z1
   have k2 : IntKind.i64.wrap (z + 1) = z + 1 := by rw [IntKind.wrap_i64]; omega
   obtain ⟨n', hn'⟩ : ∃ n', max n (z + 1) = n' := ⟨_, rfl⟩
   have HNX : Hid (P ↔ canGo n' (zs.drop (c + 1))) := by
    show P ↔ _
    rw [HQ.out, hn']
    exact ⟨fun h => h.2, fun h => ⟨by omega, h⟩⟩
   have hnb : 0 ≤ n' ∧ n' ≤ (c : Int) + 1 := by rw [← hn', Int.max_def]; split <;> omega
   clear z0 z1
   go_wp2_with fail
   go_roundw
   case rel => exact ⟨c + 1, n', by omega, by go_num, by first | rfl | rw [hn'], hnb.1, by omega, HNX, bel⟩
   case measure => simp only [intOf]; omega
  ·obtain rfl : c = m := by omega
   have HV : Hid P := by
    refine hP.out.2 ?_
    rw [List.drop_eq_nil_of_le (by rw [HM.out]; exact Nat.le_refl _)]
    trivial
   go_wp2_with fail
   go_ret
   exact ⟨Tells.yes HV.out, hB⟩

/-- A menu. -/
def MenuOk (ns : Int) (L : List (List Int)) : Prop := (1 ≤ ns ∧ ns ≤ 62) ∧ L.length ≤ 8 ∧ ∀ v ∈ L, (v.length : Int) = ns ∧ canGo 0 v

/-- The code of a menu. -/
def MenuC (ns : Int) (L : List (List Int)) (r : Int) : Prop := (MenuOk ns L → r = 0) ∧ (¬ MenuOk ns L → r = 1)

set_option maxRecDepth 100000 in
set_option maxHeartbeats 4000000 in
theorem checkmenu_any (w : World) (ns : Int) (v : Value) (L : List (List Int)) (h : IMat w v L) :
 Calls Tryz.prog 121 #[.agg #[.int .i64 ns, v]] w fun e w' => (∃ r : Int, e = .returned (.int .i64 r) ∧ Hid (MenuC ns L r)) ∧ Below w.heap.size w w' := by
 have H := Lib.hid h
 obtain ⟨A, cap, rfl, h, l1, l2⟩ := h.op
 clear h
 obtain ⟨m, hm⟩ : ∃ m, L.length = m := ⟨_, rfl⟩
 have HM := Lib.hid hm
 have H2 : Hid (IMat w (.slice A m cap) L) := by have h9 := H.out; rw [hm] at h9; exact h9
 rw [hm] at l1 ⊢
 clear hm H
 have NO : Hid (¬ MenuOk ns L → MenuC ns L 1) := fun h => ⟨fun h' => absurd h' h, fun _ => rfl⟩
 have L1 := made1 w #[.int .i64 ns, .slice A m cap] 84
 by_cases h0 : ns < 1
 ·have HV := Lib.hid (NO.out (fun h => by have := h.1; omega))
  have d1 : decide (ns < 1) = true := decide_eq_true h0
  clear h0
  go_enter Tryz.func121, Tryz.ntmps121
  go_wp2_with fail
  go_ret
  exact ⟨⟨_, rfl, HV⟩, bel⟩
 have d1 : decide (ns < 1) = false := decide_eq_false h0
 by_cases h1 : 62 < ns
 ·have HV := Lib.hid (NO.out (fun h => by have := h.1; omega))
  have d2 : decide (62 < ns) = true := decide_eq_true h1
  clear h0 h1
  go_enter Tryz.func121, Tryz.ntmps121
  go_wp2_with fail
  go_ret
  exact ⟨⟨_, rfl, HV⟩, bel⟩
 have d2 : decide (62 < ns) = false := decide_eq_false h1
 by_cases h2 : 8 < m
 ·have HV := Lib.hid (NO.out (fun h => by have := h.2.1; rw [HM.out] at this; omega))
  have d3 : decide ((8 : Int) < (m : Int)) = true := decide_eq_true (by omega)
  have d3' : decide (8 < m) = true := decide_eq_true h2
  clear h0 h1 h2
  go_enter Tryz.func121, Tryz.ntmps121
  go_wp2_with fail
  go_ret
  exact ⟨⟨_, rfl, HV⟩, bel⟩
 have d3 : decide ((8 : Int) < (m : Int)) = false := decide_eq_false (by omega)
 have d3' : decide (8 < m) = false := decide_eq_false h2
 have HNS : Hid (1 ≤ ns ∧ ns ≤ 62) := by show _ ∧ _; omega
 have hm8 : m ≤ 8 := by omega
 clear h0 h1 h2
 go_enter Tryz.func121, Tryz.ntmps121
 go_wp2_with fail
 go_loopw [22] (fun i wr => ∃ (c : Nat), c ≤ m ∧ i = .int .i64 c ∧ Hid (∀ (i : Nat) (v : List Int), i < c → L[i]? = some v → (v.length : Int) = ns ∧ canGo 0 v) ∧ Hid (Loc wr w.heap.size 84 #[.int .i64 ns, .slice A m cap]) ∧ Below w.heap.size w wr) (fun i _ => m - (intOf i).toNat)
 case atStart => exact ⟨0, by omega, rfl, Lib.hid (fun i l hi => absurd hi (by omega)), Lib.hid L1.to, bel⟩
 case round =>
  clear L1
  obtain ⟨c, hc, rfl, hall, hL, hB⟩ := hrel
  obtain ⟨wo, rfl⟩ : ∃ wo : World, wo = wr := ⟨_, rfl⟩
  have y5 := hB.size; (try simp only [zs] at y5)
  by_cases hlt : c < m
  ·obtain ⟨r, he⟩ : ∃ l, L[c]? = some l := ⟨_, List.getElem?_eq_getElem (by rw [HM.out]; exact hlt)⟩
   obtain ⟨a, D, d, rfl, hab, hcell, hnum, l5, l6⟩ := (H2.out.keep (.of_below hB)).at he
   have HE := Lib.hid he
   obtain ⟨rn, hrn⟩ : ∃ q, r.length = q := ⟨_, rfl⟩
   have HRN := Lib.hid hrn
   rw [hrn] at hcell l5 hnum
   have HNUM := Lib.hid hnum
   have k0 : (0 : Int) ≤ (c : Int) := by omega
   have k1 : (c : Int) < (m : Int) := by omega
   obtain ⟨e1, f1, -⟩ := Loc.all hL.out (w' := wo)
   have HBAD : Hid (¬ ((rn : Int) = ns ∧ canGo 0 r) → MenuC ns L 1) := fun hq => NO.out (fun h => hq (by have h9 := h.2.2 r (List.mem_of_getElem? HE.out); rw [HRN.out] at h9; exact h9))
   clear he hrn hnum
   by_cases z1 : (rn : Int) = ns
   case neg =>
    have HV := Lib.hid (HBAD.out (fun h => z1 h.1))
    have d5 : ((rn : Int) == ns) = false := beq_eq_false_iff_ne.2 z1
    have d6 : ((rn : Int) != ns) = true := bne_iff_ne.2 z1
    clear z1
    go_wp2_with fail
    go_ret
    exact ⟨⟨_, rfl, HV⟩, bel⟩
   have d5 : ((rn : Int) == ns) = true := beq_iff_eq.2 z1
   have d6 : ((rn : Int) != ns) = false := by simp only [bne, d5]; rfl
   have HZ1 := Lib.hid z1
   clear z1
   go_wp2_with fail
   refine (pvalid_any _ _ r (HNUM.out.keep kp)).mono ?_
   rintro e w2 ⟨⟨b, rfl, hb⟩, hb2⟩
   have y2 := hb2.size; (try simp only [zs] at y2)
   cases b
   ·have HV := Lib.hid (HBAD.out (fun h => by have := hb.out.2 h.2; cases this))
    clear hb
    go_wp2_with fail
    go_ret
    exact ⟨⟨_, rfl, HV⟩, bel⟩
   ·have HNX : Hid (∀ (i : Nat) (v : List Int), i < c + 1 → L[i]? = some v → (v.length : Int) = ns ∧ canGo 0 v) := fun i r' hi hr' => by
     by_cases hh : i < c
     ·exact hall.out i r' hh hr'
     ·obtain rfl : i = c := by omega
      rw [HE.out] at hr'
      injection hr' with hr'
      subst hr'
      exact ⟨by rw [HRN.out]; exact HZ1.out, hb.out.1 rfl⟩
    have HL2 : Hid (Loc w2 w.heap.size 84 #[.int .i64 ns, .slice (some a) m cap]) := Loc.below hL.out hb2
    clear hb e1 f1
    go_wp2_with fail
    go_roundw
    case rel => exact ⟨c + 1, by omega, by go_num, HNX, HL2, bel⟩
    case measure => simp only [intOf]; omega
  ·obtain rfl : c = m := by omega
   have HV : Hid (MenuC ns L 0) := ⟨fun _ => rfl, fun h => absurd ⟨HNS.out, by rw [HM.out]; exact hm8, fun v hv => by
    obtain ⟨i, hi, rfl⟩ := List.getElem_of_mem hv
    exact hall.out i _ (by rw [← HM.out]; exact hi) (List.getElem?_eq_getElem hi)⟩ h⟩
   go_wp2_with fail
   go_ret
   exact ⟨⟨_, rfl, HV⟩, hB⟩
end Go.Proofs.YtbdcjhoedhhabaaGreat

/- Maps with integer values that a call makes. -/
namespace Go.Proofs.YtbdcjhoedhhabaaGreat
open Go.RowKit Go.Maps Go.ChangeMaps
attribute [local go_sem ↓] Go.wp_at_zero Go.wp_at_succ

theorem zero_int (w : World) : (zeroValue 3).run Tryz.prog w = .ok (.int .i64 0) w := by
 obtain ⟨i, hi, hz0, -, -⟩ := info_parts info_int1
 unfold zeroValue
 rw [Sem.run_bind, run_typeInfo w hi]
 simp only [Result.andThen_ok, hz0]
 rfl

/-- f with another value at a key. -/
noncomputable def putL (f : Lit → Option Int) (kl : Lit) (z : Int) : Lit → Option Int := fun kl' => @ite _ (kl' = kl) (Classical.propDecidable _) (some z) (f kl')
theorem putL_same (f : Lit → Option Int) (kl : Lit) (z : Int) : putL f kl z kl = some z := if_pos rfl
theorem putL_other (f : Lit → Option Int) {kl kl' : Lit} (h : kl' ≠ kl) (z : Int) : putL f kl z kl' = f kl' := if_neg h
/-- Block b of w is a map of c entries (never more than n), whose values f tells. -/
def MapF (w : World) (k : TypeId) (b n c : Nat) (f : Lit → Option Int) : Prop :=
 ∃ D : DataW Unit, w.ownsMap Tryz.prog k (plainElem Tryz.prog 3) b n D ∧ Maps.size D = c ∧ ∀ kl, WideAt.IsKeyLit kl → ∀ zd, D.atKey kl zd = (match f kl with | none => zd | some z => .lit (.int .i64 z))
section
variable {w w' : World} {k : TypeId} {b n c : Nat} {f : Lit → Option Int}
theorem MapF.lt (h : MapF w k b n c f) : b < w.heap.size := by
 obtain ⟨D, hD, -⟩ := h
 exact hD.lt
theorem MapF.made (w : World) (k : TypeId) : MapF (w.alloc (.map #[] 0)) k w.heap.size 0 0 (fun _ => none) :=
 ⟨.map [], World.ownsMap_made w _ _ _, rfl, fun _ _ _ => rfl⟩
theorem MapF.below {B : Nat} (h : MapF w k b n c f) (hb : Below B w w') (hl : b < B) : MapF w' k b n c f := by
 obtain ⟨D, ⟨es, clock, h1, h2, h3, h4⟩, h5, h6⟩ := h
 exact ⟨D, ⟨es, clock, (hb.block b hl).trans h1, h2, h3, h4⟩, h5, h6⟩
theorem MapF.far (h : MapF w k b n c f) {p : Addr} (hp : b ≠ p.block) (u : Value) : MapF (w.setCell p u) k b n c f := by
 obtain ⟨D, h1, h2⟩ := h
 exact ⟨D, h1.setCell hp u, h2⟩
theorem MapF.mono (h : MapF w k b n c f) {n' : Nat} (hn : n ≤ n') : MapF w k b n' c f := by
 obtain ⟨D, h1, h2⟩ := h
 exact ⟨D, h1.mono hn, h2⟩
set_option maxRecDepth 100000 in
theorem MapF.look {t : TypeId} (h : MapF w k b n c f) (K : Keyed Tryz.prog k) (ht : Tryz.prog.underlying t = some (.map k 3)) {key : Value} {kl : Lit} (hkey : keyOf Tryz.prog k key = some kl) :
 (Instr.lookup t (.map (some b)) key true).run Tryz.prog w = .ok (.tuple #[.int .i64 ((f kl).getD 0), .bool (f kl).isSome]) w := by
 obtain ⟨D, hD, -, hf⟩ := h
 obtain ⟨v, ps, hrun, hv⟩ := hD.look_ok K ht (zero_int w) (plainElem_int Tryz.underlying3 (by decide)) hkey
 obtain ⟨a, rfl, ha, -⟩ := plainElem_int_inv Tryz.underlying3 hv
 have ha := congrArg Prod.fst ha
 simp only at ha
 have hk := hf kl (K.key hkey)
 rw [hrun]
 cases hq : f kl with
 | none =>
   rw [hq] at hk
   have h1 : has D kl = false := has_false_of_atKey (fun z => hk z)
   have h2 := (hk (.lit (.int .i64 0))).symm.trans ha
   injection h2 with h2
   injection h2 with _ h2
   subst h2
   rw [h1]
   exact rfl
 | some z =>
   rw [hq] at hk
   have h1 : has D kl = true := has_true_of_atKey (y := .lit (.int .i64 z)) (fun z => hk z)
   have h2 := (hk (.lit (.int .i64 0))).symm.trans ha
   injection h2 with h2
   injection h2 with _ h2
   subst h2
   rw [h1]
   exact rfl
theorem MapF.put {D : DataW Unit} {kl : Lit} {z : Int} (hT : Tidy D) (hc : Maps.size D = c) (hk : WideAt.IsKeyLit kl) (hf : ∀ kl, WideAt.IsKeyLit kl → ∀ zd, D.atKey kl zd = (match f kl with | none => zd | some z => .lit (.int .i64 z))) :
 Maps.size (D.put kl (.lit (.int .i64 z))) = (if (f kl).isSome then c else c + 1) ∧ ∀ kl', WideAt.IsKeyLit kl' → ∀ zd, (D.put kl (.lit (.int .i64 z))).atKey kl' zd = (match putL f kl z kl' with | none => zd | some z => .lit (.int .i64 z)) := by
 constructor
 ·rw [size_put hT, hc]
  have h0 := hf kl hk
  cases hq : f kl with
  | none =>
    rw [hq] at h0
    rw [has_false_of_atKey (fun z => h0 z)]
    rfl
  | some y =>
    rw [hq] at h0
    rw [has_true_of_atKey (y := .lit (.int .i64 y)) (fun z => h0 z)]
    rfl
 ·intro kl' hk' zd
  by_cases e : kl' = kl
  ·subst e
   rw [putL_same, atKey_put_same hT.isMap hk]
  ·rw [putL_other _ e, atKey_put_other e]
   exact hf kl' hk' zd
end
/-- m[k] = v. -/
theorem wpList_putF {ops : Array Oper} {rest : List Oper} {o : Oper} {a : Act} {Q : Exit → Act → World → Prop} {k t : TypeId} {b n c : Nat} {f : Lit → Option Int} (w : World) (hg : o.guard = none) (m x v : Operand) (hop : o.op = Op.mapUpdate t m x v)
 (K : Keyed Tryz.prog k) (ht : Tryz.prog.underlying t = some (.map k 3)) (hm : a.eval m = .map (some b)) (hown : MapF w k b n c f) (hn : n ≤ 1000000) (key : Value) (kl : Lit) (z : Int) (hx : a.eval x = key) (hv : a.eval v = .int .i64 z) (hkey : keyOf Tryz.prog k key = some kl) (hz : -9223372036854775808 ≤ z ∧ z ≤ 9223372036854775807) (c' : Nat) (hc' : (if (f kl).isSome then c else c + 1) = c')
 (hK : ∀ w', MapF w' k b (n + 1) c' (putL f kl z) → w.grownBy w' (some b) → wpList Tryz.prog ops Q rest (a.put o.dst undef) w') : wpList Tryz.prog ops Q (o :: rest) a w := by
 obtain ⟨D, hD, hc, hf⟩ := hown
 refine wpList_mapUpdate_own w hg m x v t hop k 3 K ht _ b n D hm hD (by unfold maxLen; omega) key (.int .i64 z) kl hx hv hkey (.lit (.int .i64 z)) [] (plainElem_int Tryz.underlying3 (WalkArith.wf_i64 hz)) fun w' h1 h2 => hK w' ?_ h2
 obtain ⟨h3, h4⟩ := MapF.put (z := z) (World.ownsMap.tidy hD K) hc (K.key hkey) hf
 exact ⟨_, h1, h3.trans hc', h4⟩
/-- len of a map. -/
theorem MapF.len {w : World} {k t : TypeId} {b n c : Nat} {f : Lit → Option Int} (h : MapF w k b n c f) (ht : Tryz.prog.underlying t = some (.map k 3)) (ty : TypeId) : (Builtin.len_ #[t] ty #[.map (some b)]).run Tryz.prog w = .ok (.int .i64 (c : Int)) w := by
 obtain ⟨D, hD, hc, -⟩ := h
 rw [World.ownsMap.len hD ht ty, hc]
end Go.Proofs.YtbdcjhoedhhabaaGreat

/- slices.IndexFunc, exactly; slices.DeleteFunc of zeros; checker.split. -/
namespace Go.Proofs.YtbdcjhoedhhabaaGreat
open Go.RowKit
attribute [local go_sem ↓] Go.wp_at_zero Go.wp_at_succ

set_option maxHeartbeats 4000000 in
theorem split1_any (w : World) (z : Int) :
 Calls Tryz.prog 269 (#[.int .i64 z] ++ #[]) w fun e w' => Tells (z = 0) e ∧ Below w.heap.size w w' := by
 by_cases h : z = 0
 ·have H := Lib.hid h
  have d1 : (z == 0) = true := beq_iff_eq.2 h
  clear h
  go_enter Tryz.func269, Tryz.ntmps269
  go_wp2_with fail
  go_ret
  exact ⟨by first | exact Tells.yes H.out | (rw [d1]; exact Tells.yes H.out), bel⟩
 ·have H : Hid (¬ z = 0) := h
  have d1 : (z == 0) = false := beq_eq_false_iff_ne.2 h
  clear h
  go_enter Tryz.func269, Tryz.ntmps269
  go_wp2_with fail
  go_ret
  exact ⟨by first | exact Tells.no H.out | (rw [d1]; exact Tells.no H.out), bel⟩

set_option maxRecDepth 100000 in
set_option maxHeartbeats 4000000 in
theorem indexF_any (w : World) (F : Nat) (caps : Array Value) (P : Int → Prop) (v : Value) (L : List Int) (h : IntsV w v L) (hen : Enters F) (hF : TellsZ w F caps P L) :
 Calls Tryz.prog 216 #[v, .func (Fn.func F) #[] caps] w fun e w' => (∃ r : Int, e = .returned (.int .i64 r) ∧ Hid ((∃ (i : Nat) (z : Int), r = (i : Int) ∧ L[i]? = some z ∧ P z ∧ ∀ (j : Nat) (y : Int), j < i → L[j]? = some y → ¬ P y) ∨ (r = -1 ∧ ∀ y ∈ L, ¬ P y))) ∧ Below w.heap.size w w' := by
 have H := Lib.hid h
 have HF := Lib.hid hF
 have hen2 : ∀ (args : Array Value) (W : World), (callFunc F args).run Tryz.prog W = .ok (.enter F args) W := hen
 obtain ⟨A, cap, rfl, h, l1, l2⟩ := h.op
 have lm : L.length ≤ 9223372036854775807 := by unfold maxLen at l2; omega
 clear h hF
 obtain ⟨m, hm⟩ : ∃ m, L.length = m := ⟨_, rfl⟩
 rw [hm] at l1 lm
 rw [hm]
 have HM := Lib.hid hm
 clear hm
 go_enter Tryz.func216, Tryz.ntmps216
 go_wp2_with fail
 go_loopw [8] (fun i wr => ∃ (c : Nat), c ≤ m ∧ i = .int .i64 c ∧ Hid (∀ (i : Nat) (l : Int), i < c → L[i]? = some l → ¬ P l) ∧ Below w.heap.size w wr) (fun i _ => m - (intOf i).toNat)
 case atStart => exact ⟨0, by omega, rfl, Lib.hid (fun i l hi => absurd hi (by omega)), bel⟩
 case round =>
  obtain ⟨c, hc, rfl, hall, hB⟩ := hrel
  obtain ⟨wo, rfl⟩ : ∃ wo : World, wo = wr := ⟨_, rfl⟩
  have y5 := hB.size; (try simp only [zs] at y5)
  by_cases hlt : c < m
  ·obtain ⟨l, he⟩ : ∃ l, L[c]? = some l := ⟨_, List.getElem?_eq_getElem (by rw [HM.out]; exact hlt)⟩
   have hR := H.out.keep (.of_below hB)
   rw [HM.out] at hR
   obtain ⟨a, rfl, hab, hcell, zb1, zb2⟩ := hR.at he
   have HE := Lib.hid he
   have k0 : (0 : Int) ≤ (c : Int) := by omega
   have k1 : (c : Int) < (m : Int) := by omega
   clear he hR
   go_wp2_with fail
   refine (HF.out _ l hB (List.mem_of_getElem? HE.out)).mono ?_
   rintro e w2 ⟨⟨b, rfl, hb⟩, hb2⟩
   have y2 := hb2.size; (try simp only [zs] at y2)
   cases b
   ·have HGD : Hid (¬ P l) := fun h => by have := hb.out.2 h; cases this
    clear hb
    go_wp2_with fail
    go_roundw
    case rel =>
     refine ⟨c + 1, by omega, by go_num, Lib.hid (fun i l' hi hl' => ?_), bel⟩
     by_cases hic : i < c
     ·exact hall.out i l' hic hl'
     ·obtain rfl : i = c := by omega
      rw [HE.out] at hl'
      injection hl' with hl'
      subst hl'
      exact HGD.out
    case measure => simp only [intOf]; omega
   ·have HGD : Hid (P l) := hb.out.1 rfl
    clear hb
    go_wp2_with fail
    go_ret
    exact ⟨⟨_, rfl, Lib.hid (.inl ⟨c, l, rfl, HE.out, HGD.out, hall.out⟩)⟩, bel⟩
  ·obtain rfl : c = m := by omega
   have HALL : Hid (∀ l ∈ L, ¬ P l) := fun l hl => by
    obtain ⟨i, hi, rfl⟩ := List.mem_iff_getElem.1 hl
    exact hall.out i _ (by rw [← HM.out]; exact hi) (List.getElem?_eq_getElem hi)
   go_wp2_with fail
   go_ret
   exact ⟨⟨_, rfl, Lib.hid (.inr ⟨rfl, HALL.out⟩)⟩, hB⟩

theorem below_cells {B : Nat} {a : World} (b : Nat) (hb : B ≤ b) : ∀ (vs : List Value) (o : Nat) {w : World}, Below B a w → Below B a (w.setCells b o vs)
 | [], _, _, h => h
 | v :: r, o, _, h => below_cells b hb r (o + 1) (h.setCell (p := ⟨b, o, none⟩) hb v)
/-- The numbers other than 0. -/
def nzs (zs : List Int) : List Int := zs.filter (fun z => z != 0)
theorem nzs_all {zs : List Int} (h : ∀ z ∈ zs, ¬ z = 0) : nzs zs = zs := by
 unfold nzs
 rw [List.filter_eq_self]
 intro z hz
 simp [h z hz]
theorem nzs_take {zs : List Int} {j : Nat} {z : Int} (h : zs[j]? = some z) : nzs (zs.take (j + 1)) = if z = 0 then nzs (zs.take j) else nzs (zs.take j) ++ [z] := by
 unfold nzs
 rw [List.take_add_one, h, List.filter_append]
 by_cases e : z = 0
 ·simp [e]
 ·simp [e]
set_option maxRecDepth 100000 in
set_option maxHeartbeats 8000000 in
theorem deleteZ_any (w : World) (g n F : Nat) (zs : List Int) (hR : RowI w g zs) (hn : zs.length = n) (hnb : n ≤ 1000) (hz : ∀ z ∈ zs, -9223372036854775808 ≤ z ∧ z ≤ 9223372036854775807) (hen : Enters F) (hF : ∀ (W : World) (z : Int), Calls Tryz.prog F (#[.int .i64 z] ++ #[]) W fun e w' => Tells (z = 0) e ∧ Below W.heap.size W w') :
 Calls Tryz.prog 226 #[.slice (some ⟨g, 0, none⟩) n n, .func (Fn.func F) #[] #[]] w fun e w' => (∃ v, e = .returned v ∧ Hid (IntsV w' v (nzs zs))) ∧ Below g w w' := by
 have HR := Lib.hid hR
 have HN := Lib.hid hn
 have HZ := Lib.hid hz
 have HF := Lib.hid hF
 have hen2 : ∀ (args : Array Value) (W : World), (callFunc F args).run Tryz.prog W = .ok (.enter F args) W := hen
 have hgw : g < w.heap.size := RowI.lt hR
 have hV : Hid (∀ W, RowI W g zs → IntsV W (.slice (some ⟨g, 0, none⟩) n n) zs) := fun W hW => by
  have h9 := IntsO.vals (w := W) (u := .slice (some ⟨g, 0, none⟩) n n) (zs := zs) ⟨g, by rw [hn], hW, hz⟩ (by rw [hn]; unfold maxLen; omega)
  exact h9
 clear hR hn hz hF
 go_enter Tryz.func226, Tryz.ntmps226
 go_wp2_with fail
 refine (indexF_any _ F #[] (fun z => z = 0) _ zs (hV.out _ HR.out) hen (fun W z hW _ => HF.out W z)).mono ?_
 rintro e w1 ⟨⟨r, rfl, hr⟩, hb1⟩
 have y1 := hb1.size; (try simp only [zs] at y1)
 have HR1 : Hid (RowI w1 g zs) := RowI.below HR.out hb1
 have HB1 : Hid (Below g w w1) := hb1.mono (by omega)
 rcases Classical.em (r = -1) with he | he
 ·have HE : Hid (IntsV w1 (.slice (some ⟨g, 0, none⟩) n n) (nzs zs)) := by
   rcases hr.out with ⟨i, z, h1, -⟩ | ⟨-, h2⟩
   ·omega
   ·show IntsV _ _ _
    rw [nzs_all h2]
    exact hV.out _ HR1.out
  have d1 : (r == -1) = true := beq_iff_eq.2 he
  clear hr
  subst he
  go_wp2_with fail
  go_ret
  exact ⟨⟨_, rfl, HE⟩, HB1.out⟩
 obtain ⟨i0, hi0, hri⟩ : ∃ i : Nat, r = (i : Int) ∧ Hid (∃ z, zs[i]? = some z ∧ z = 0 ∧ ∀ (j : Nat) (y : Int), j < i → zs[j]? = some y → ¬ y = 0) := by
  rcases hr.out with ⟨i, z, h1, h2, h3, h4⟩ | ⟨h1, -⟩
  ·exact ⟨i, h1, z, h2, h3, h4⟩
  ·exact absurd h1 he
 subst hi0
 have d1 : ((i0 : Int) == -1) = false := beq_eq_false_iff_ne.2 (by omega)
 have hi0n : i0 < n := by
  obtain ⟨z, h1, -⟩ := hri.out
  have := (List.getElem?_eq_some_iff.1 h1).1
  have := HN.out
  omega
 have HST : Hid (zs.take i0 = nzs (zs.take (i0 + 1))) := by
  obtain ⟨z, h1, h2, h3⟩ := hri.out
  show _ = _
  rw [nzs_take h1, if_pos h2, nzs_all]
  intro y hy
  obtain ⟨j, hj, rfl⟩ := List.getElem_of_mem hy
  rw [List.length_take] at hj
  have hjz : j < zs.length := by omega
  rw [List.getElem_take]
  exact h3 j _ (by omega) (List.getElem?_eq_getElem hjz)
 clear hr he hri
 go_wp2_with fail
 go_loopw [5, 6] (fun iv jv wr => ∃ (i j : Nat) (ys : List Int), i < j ∧ j ≤ n ∧ iv = .int .i64 i ∧ jv = .int .i64 j ∧ Hid (ys.length = n) ∧ Hid (ys.take i = nzs (zs.take j)) ∧ Hid (ys.drop j = zs.drop j) ∧ Hid (RowI wr g ys) ∧ Below g w wr) (fun _ jv _ => n - (intOf jv).toNat)
 case atStart => exact ⟨i0, i0 + 1, zs, by omega, by omega, rfl, by go_num, HN, HST, Lib.hid rfl, HR1, HB1.out⟩
 case round =>
  clear HR1 HB1 HST
  obtain ⟨i, j, ys, hij, hjn, rfl, rfl, hyl, hyt, hyd, hRy, hB⟩ := hrel
  obtain ⟨wo, rfl⟩ : ∃ wo : World, wo = wr := ⟨_, rfl⟩
  have y5 := hB.size; (try simp only [zs] at y5)
  have hgo : g < wo.heap.size := RowI.lt hRy.out
  by_cases hlt : j < n
  ·obtain ⟨z, hz⟩ : ∃ z, zs[j]? = some z := ⟨_, List.getElem?_eq_getElem (by rw [HN.out]; exact hlt)⟩
   have hzy : ys[j]? = some z := by
    have h1 := congrArg (fun l => l[0]?) hyd.out
    simp only [List.getElem?_drop, Nat.add_zero] at h1
    rw [h1, hz]
   have hcell := RowI.cell hRy.out hzy
   have k0 : (0 : Int) ≤ (j : Int) := by omega
   have k1 : (j : Int) < (n : Int) := by omega
   have k2 : (0 : Int) ≤ (i : Int) := by omega
   have k3 : (i : Int) < (n : Int) := by omega
   have HNT : Hid (nzs (zs.take (j + 1)) = if z = 0 then nzs (zs.take j) else nzs (zs.take j) ++ [z]) := nzs_take hz
   clear hz
   go_wp2_with fail
   clear hcell
   refine (HF.out _ z).mono ?_
   rintro e w2 ⟨⟨b, rfl, hb⟩, hb2⟩
   have y2 := hb2.size; (try simp only [zs] at y2)
   have HR2 : Hid (RowI w2 g ys) := RowI.below hRy.out hb2
   have HB2 : Hid (Below g w w2) := hB.trans (hb2.mono (by omega))
   cases b
   ·have HZN : Hid (¬ z = 0) := fun h => by have := hb.out.2 h; cases this
    have g0 := RowI.cell HR2.out (List.getElem?_eq_getElem (show i < ys.length by rw [hyl.out]; omega))
    have gf : ∀ q, w2.frozen? ⟨g, q, none⟩ = false := Loc.frz HR2.out
    have gl : g < w2.heap.size := RowI.lt HR2.out
    obtain ⟨i1, hi1⟩ : ∃ i1, i + 1 = i1 := ⟨_, rfl⟩
    have HI1 := Lib.hid hi1
    have k4 : IntKind.i64.wrap ((i : Int) + 1) = (i1 : Int) := by rw [IntKind.wrap_i64]; omega
    have HNEW : Hid (∀ W, w2.setCell ⟨g, i, none⟩ (.int .i64 z) = W → (ys.set i z).length = n ∧ (ys.set i z).take i1 = nzs (zs.take (j + 1)) ∧ (ys.set i z).drop (j + 1) = zs.drop (j + 1) ∧ RowI W g (ys.set i z) ∧ Below g w W) := fun W hW => by
     subst hW
     refine ⟨by rw [List.length_set]; exact hyl.out, ?_, ?_, RowI.set HR2.out i z, HB2.out.setCell (Nat.le_refl _) _⟩
     ·rw [HNT.out, if_neg HZN.out, ← hyt.out, ← HI1.out]
      rw [List.take_add_one, List.getElem?_set_self (by rw [hyl.out]; omega), List.take_set_of_le (Nat.le_refl _)]
      rfl
     ·rw [List.drop_set_of_lt (by omega)]
      have h1 := congrArg (fun l => l.drop 1) hyd.out
      simpa [List.drop_drop] using h1
    have hi1j : i1 < j + 1 := by omega
    clear hb hi1
    go_wp2_with fail
    clear g0 gf gl
    have HN9 := Lib.hid (HNEW.out _ rfl)
    clear HNEW
    go_wp2_with fail
    go_roundw
    case rel => exact ⟨i1, j + 1, _, hi1j, by omega, by go_num, by go_num, Lib.hid HN9.out.1, Lib.hid HN9.out.2.1, Lib.hid HN9.out.2.2.1, Lib.hid HN9.out.2.2.2.1, HN9.out.2.2.2.2⟩
    case measure => simp only [intOf]; omega
   ·have HZN : Hid (z = 0) := hb.out.1 rfl
    have HT2 : Hid (ys.take i = nzs (zs.take (j + 1))) := by show _ = _; rw [HNT.out, if_pos HZN.out]; exact hyt.out
    have HD2 : Hid (ys.drop (j + 1) = zs.drop (j + 1)) := by
     have h1 := congrArg (fun l => l.drop 1) hyd.out
     show _ = _
     simpa [List.drop_drop] using h1
    clear hb
    go_wp2_with fail
    go_roundw
    case rel => exact ⟨i, j + 1, ys, by omega, by omega, rfl, by go_num, hyl, HT2, HD2, HR2, HB2.out⟩
    case measure => simp only [intOf]; omega
  ·obtain rfl : j = n := by omega
   have k1 : (0 : Int) ≤ (i : Int) := by omega
   have k2 : (i : Int) ≤ (j : Int) := by omega
   have hcl : ∀ ty, (Builtin.clear_ #[27] ty #[.slice (some ⟨g, i, none⟩) (j - i) (j - i)]).run Tryz.prog wo = .ok (.tuple #[]) (wo.setCells g i (List.replicate (j - i) (.int .i64 0))) := fun ty =>
    Lib.run_clear_slice wo _ _ ty _ Tryz.underlying27 zero_int rfl rfl g i _ _ (by omega) (fun q hq => by
     rw [RowI.cell hRy.out (List.getElem?_eq_getElem (show i + q < ys.length by rw [hyl.out]; omega))]; rfl) (fun q hq => Loc.frz hRy.out _)
   obtain ⟨W, hW⟩ : ∃ W, wo.setCells g i (List.replicate (j - i) (.int .i64 0)) = W := ⟨_, rfl⟩
   rw [hW] at hcl
   have HE : Hid (IntsV W (.slice (some ⟨g, 0, none⟩) i j) (nzs zs)) := by
    have e1 : nzs zs = ys.take i := by
     rw [hyt.out, List.take_of_length_le (by rw [HN.out]; exact Nat.le_refl _)]
    have e2 : (nzs zs).length = i := by rw [e1, List.length_take, hyl.out]; omega
    refine ⟨_, j, by rw [e2], by rw [e2]; omega, by unfold maxLen; omega, fun _ => ⟨_, rfl, ?_, fun q z hq => ?_⟩, fun z hz => HZ.out z (List.mem_filter.1 (show z ∈ zs.filter (fun z => z != 0) from hz)).1⟩
    ·rw [← hW]
     exact Nat.lt_of_lt_of_le hgo (below_cells g (Nat.le_refl _) _ i (Below.refl g wo)).size
    ·have hqi : q < i := by have := (List.getElem?_eq_some_iff.1 hq).1; omega
     rw [e1, List.getElem?_take, if_pos hqi] at hq
     rw [add0, ← hW, World.cell?_setCells_out g _ i wo ⟨g, q, none⟩ (fun _ _ => .inl hqi)]
     exact RowI.cell hRy.out hq
   have HBW : Hid (Below g w W) := by
    show Below _ _ _
    rw [← hW]
    exact below_cells g (Nat.le_refl _) _ i hB
   clear hW
   go_wp2_with fail
   go_ret
   exact ⟨⟨_, rfl, HE⟩, HBW.out⟩

/- The closures of the checks of tables and of losses. -/

/- checker.table. -/

/-- The number of groups and the form of a table are right. -/
def TbForm (L : List (List Int)) (k n : Int) : Prop := (L.length : Int) = k + 1 ∧ ∀ l ∈ L, (l.length : Int) = n + 1
/-- The numbers of a table are in their range. -/
def TbRange (L : List (List Int)) : Prop := ∀ l ∈ L, ∀ x ∈ l, 0 ≤ x ∧ x ≤ 1152921504606846976
/-- The code of a table's form. -/
structure TbCode (L : List (List Int)) (k n r : Int) : Prop where
 a : (k < 1 ∨ 32 < k) → r = 3
 b : ¬ (k < 1 ∨ 32 < k) → ¬ TbForm L k n → r = 2
 c : ¬ (k < 1 ∨ 32 < k) → TbForm L k n → ¬ TbRange L → r = 3
 d : ¬ (k < 1 ∨ 32 < k) → TbForm L k n → TbRange L → r = 0

theorem TbCode.one {L : List (List Int)} {k n r : Int} (h : k < 1 ∨ 32 < k) (hr : r = 3) : TbCode L k n r := ⟨fun _ => hr, fun h' => absurd h h', fun h' => absurd h h', fun h' => absurd h h'⟩

theorem TbCode.two {L : List (List Int)} {k n r : Int} (h : ¬ (k < 1 ∨ 32 < k)) (h2 : ¬ TbForm L k n) (hr : r = 2) : TbCode L k n r := ⟨fun h' => absurd h' h, fun _ _ => hr, fun _ h' => absurd h' h2, fun _ h' => absurd h' h2⟩

theorem TbCode.three {L : List (List Int)} {k n r : Int} (h : ¬ (k < 1 ∨ 32 < k)) (h2 : TbForm L k n) (h3 : ¬ TbRange L) (hr : r = 3) : TbCode L k n r := ⟨fun h' => absurd h' h, fun _ h' => absurd h2 h', fun _ _ _ => hr, fun _ _ h' => absurd h' h3⟩

theorem TbCode.four {L : List (List Int)} {k n r : Int} (h : ¬ (k < 1 ∨ 32 < k)) (h2 : TbForm L k n) (h3 : TbRange L) (hr : r = 0) : TbCode L k n r := ⟨fun h' => absurd h' h, fun _ h' => absurd h2 h', fun _ _ h' => absurd h3 h', fun _ _ _ => hr⟩

theorem TbCode.eq {L : List (List Int)} {k n r s : Int} (h : TbCode L k n r) (h' : TbCode L k n s) : r = s := by
 by_cases h1 : k < 1 ∨ 32 < k
 ·rw [h.a h1, h'.a h1]
 by_cases h2 : TbForm L k n
 ·by_cases h3 : TbRange L
  ·rw [h.d h1 h2 h3, h'.d h1 h2 h3]
  ·rw [h.c h1 h2 h3, h'.c h1 h2 h3]
 ·rw [h.b h1 h2, h'.b h1 h2]

theorem TbCode.zero {L : List (List Int)} {k n : Int} (h : TbCode L k n 0) : 1 ≤ k ∧ k ≤ 32 ∧ TbForm L k n ∧ TbRange L := by
 by_cases h1 : k < 1 ∨ 32 < k
 ·cases h.a h1
 by_cases h2 : TbForm L k n
 ·by_cases h3 : TbRange L
  ·exact ⟨by omega, by omega, h2, h3⟩
  ·cases h.c h1 h2 h3
 ·cases h.b h1 h2

theorem add_zero' (a : Addr) : a.add 0 = a := by simp [Addr.add]

end Go.Proofs.YtbdcjhoedhhabaaGreat

