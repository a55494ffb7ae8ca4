/- Contracts of the functions that the statements reach, part 28. -/
import Derived.Test.YtbdcjhoedhhabaaGreatRows
import Derived.Test.YtbdcjhoedhhabaaGreatE27
set_option linter.unusedSimpArgs false
set_option linter.unusedVariables false

/- slices.SortFunc at no edge; slices.Compact at edges: the same edges. -/
namespace Go.Proofs.YtbdcjhoedhhabaaGreat
open Go.RowKit Go.Sort Go.Shelf
attribute [local go_sem ↓] Go.wp_at_zero Go.wp_at_succ

theorem sort0_any (A : Option Addr) (cap : Nat) (w : World) :
 Calls Tryz.prog 442 #[.slice A 0 cap, .func (Fn.func 443) #[] #[]] w fun e w' => e = .returned (.tuple #[]) ∧ w' = w := by
 have hcon := AnyF.slices_SortFunc_none layE A cap (.func (Fn.func 443) #[] #[]) w
 change Calls Tryz.prog 442 _ _ _ at hcon
 exact hcon

set_option maxRecDepth 100000 in
set_option maxHeartbeats 4000000 in
theorem compact0_any (A : Option Addr) (m cap : Nat) (w : World) (hm : m < 2) :
 Calls Tryz.prog 444 #[.slice A m cap] w fun e w' => e = .returned (.slice A m cap) ∧ Below w.heap.size w w' := by
 have d1 : decide ((m : Int) < 2) = true := decide_eq_true (by omega)
 have d1' : decide (m < 2) = true := decide_eq_true hm
 go_enter Tryz.func444, Tryz.ntmps444
 go_wp2_with fail
 go_ret
 exact ⟨rfl, bel⟩

/-- Two edges are the same. -/
def eqE (x y : Int × Int) : Bool := decide (x = y)
theorem eqE_yes {x y : Int × Int} (h : x = y) : eqE x y = true := decide_eq_true h
theorem eqE_no {x y : Int × Int} (h : ¬ x = y) : eqE x y = false := decide_eq_false h
theorem eqInE (w : World) (a b c d : Int) : (Op.equalIn 10000 200 (.agg #[.int .i64 a, .int .i64 b]) (.agg #[.int .i64 c, .int .i64 d])).run Tryz.prog w = .ok (eqE (a, b) (c, d)) w := equal_edge w a b c d
attribute [local go_sem] eqInE

theorem zeros_edge (n : Nat) : (Builtin.zeroCells #[Value.int .i64 0, .int .i64 0] n).toList = List.replicate (n * 2) (.int .i64 0) := by
 apply List.ext_getElem
 ·simp [Builtin.zeroCells]
 ·intro i h1 h2
  simp only [Builtin.zeroCells, Array.toList_map, Array.toList_range, List.getElem_map, List.getElem_range, List.getElem_replicate]
  rcases Nat.mod_two_eq_zero_or_one i with e | e
  ·show (#[Value.int .i64 0, .int .i64 0] : Array Value)[i % 2]! = _
   rw [e]; rfl
  ·show (#[Value.int .i64 0, .int .i64 0] : Array Value)[i % 2]! = _
   rw [e]; rfl
theorem zero_edge (w : World) : (zeroValue 200).run Tryz.prog w = .ok (.agg #[.int .i64 0, .int .i64 0]) w := by
 obtain ⟨i, hi, hz0, -, -⟩ := info_parts info_edge
 unfold zeroValue
 rw [Sem.run_bind, run_typeInfo w hi]
 simp only [Result.andThen_ok, hz0]
 rfl
theorem clear_edge (w : World) (ty : TypeId) (b o n c : Nat) (hn : 0 < n) (hc : ∀ j, j < n * 2 → (w.cell? ⟨b, o + j, none⟩).isSome = true) (hf : ∀ j, j < n * 2 → w.frozen? ⟨b, o + j, none⟩ = false) :
 (Builtin.clear_ #[107] ty #[.slice (some ⟨b, o, none⟩) n c]).run Tryz.prog w = .ok (.tuple #[]) (w.setCells b o (List.replicate (n * 2) (.int .i64 0))) := by
 have hzc := zeros_edge n
 have hst := run_storeCells_cells (P := Tryz.prog) b o (List.replicate (n * 2) (.int .i64 0)) 0 w (by simpa using hc) (by simpa using hf) (by intro v hv'; rw [List.eq_of_mem_replicate hv']; rfl)
 simp only [Nat.add_zero] at hst
 obtain ⟨m, rfl⟩ : ∃ m, n = m + 1 := ⟨n - 1, by omega⟩
 have hcl : (Value.agg #[.int .i64 0, .int .i64 0]).cells = #[.int .i64 0, .int .i64 0] := rfl
 simp [Builtin.clear_, run_underlying Tryz.underlying107, zero_edge, hcl, hzc, hst]

theorem CellsE.set {cur : Array Value} {es : List (Int × Int)} (h : CellsE cur es) {k : Nat} {x : Int × Int} (hk : k < es.length) : CellsE ((cur.setIfInBounds (k * 2) (.int .i64 x.1)).setIfInBounds (k * 2 + 1) (.int .i64 x.2)) (es.set k x) := fun i e he => by
 have hg := h k _ (List.getElem?_eq_getElem hk)
 have b1 := (Array.getElem?_eq_some_iff.1 hg.1).1
 have b2 := (Array.getElem?_eq_some_iff.1 hg.2).1
 by_cases hik : i = k
 ·subst hik
  rw [List.getElem?_set_self hk] at he
  injection he with he
  subst he
  refine ⟨?_, ?_⟩
  ·rw [Array.getElem?_setIfInBounds_ne (by omega), Array.getElem?_setIfInBounds_self_of_lt b1]
  ·rw [Array.getElem?_setIfInBounds_self_of_lt (by simpa using b2)]
 ·rw [List.getElem?_set_ne (fun e => hik e.symm)] at he
  obtain ⟨q1, q2⟩ := h i e he
  exact ⟨by rw [Array.getElem?_setIfInBounds_ne (by omega), Array.getElem?_setIfInBounds_ne (by omega)]; exact q1, by rw [Array.getElem?_setIfInBounds_ne (by omega), Array.getElem?_setIfInBounds_ne (by omega)]; exact q2⟩
theorem mem_take_next {α : Type} {l : List α} {c : Nat} {z : α} (hz : l[c]? = some z) (i : α) : (i ∈ l.take c ∨ i = z) ↔ i ∈ l.take (c + 1) := by
 rw [List.take_add_one, hz]
 simp
theorem loc_cells {g : Nat} {t : TypeId} : ∀ {w : World} {cs : Array Value} (_ : Loc w g t cs) (o : Nat) (vs : List Value), ∃ cs', Loc (w.setCells g o vs) g t cs' ∧ cs'.size = cs.size ∧ ∀ i, i < o → cs'[i]? = cs[i]?
 | w, cs, h, o, [] => ⟨cs, h, rfl, fun _ _ => rfl⟩
 | w, cs, h, o, v :: vs => by
   obtain ⟨cs', h1, h2, h3⟩ := loc_cells (h.set o v) (o + 1) vs
   exact ⟨cs', h1, by rw [h2, Array.size_setIfInBounds], fun i hi => by rw [h3 i (by omega), Array.getElem?_setIfInBounds_ne (by omega)]⟩
theorem grown_cells (g : Nat) {w0 : World} : ∀ (vs : List Value) (o : Nat) {w : World}, w0.grownBy w (some g) → w0.grownBy (w.setCells g o vs) (some g)
 | [], _, _, h => h
 | v :: vs, o, _, h => grown_cells g vs (o + 1) (grown_set h o v)
/-- What compacting keeps: behind place k the list is as it was; before it stand the edges of the first p places. -/
structure Cpt (es l : List (Int × Int)) (k p : Nat) : Prop where
 len : l.length = es.length
 back : ∀ i, k ≤ i → l[i]? = es[i]?
 mem : ∀ x, x ∈ l.take k ↔ x ∈ es.take p
theorem Cpt.start {es : List (Int × Int)} {c : Nat} {x : Int × Int} (h0 : 1 ≤ c) (h1 : es[c - 1]? = some x) (h2 : es[c]? = some x) : Cpt es es c (c + 1) := by
 refine ⟨rfl, fun i _ => rfl, fun y => ?_⟩
 rw [← mem_take_next h2]
 refine ⟨.inl, fun h => h.elim id (fun e => ?_)⟩
 rw [e]
 have h3 := (mem_take_next h1 x).1 (.inr rfl)
 rw [show c - 1 + 1 = c by omega] at h3
 exact h3
theorem Cpt.skip {es l : List (Int × Int)} {k p : Nat} {x : Int × Int} (h : Cpt es l k p) (h0 : 1 ≤ p) (h1 : es[p - 1]? = some x) (h2 : es[p]? = some x) : Cpt es l k (p + 1) := by
 refine ⟨h.len, h.back, fun y => ?_⟩
 rw [h.mem, ← mem_take_next h2]
 refine ⟨.inl, fun h => h.elim id (fun e => ?_)⟩
 rw [e]
 have h3 := (mem_take_next h1 x).1 (.inr rfl)
 rw [show p - 1 + 1 = p by omega] at h3
 exact h3
theorem Cpt.put {es l : List (Int × Int)} {k p : Nat} {x : Int × Int} (h : Cpt es l k p) (hk : k < l.length) (h2 : es[p]? = some x) : Cpt es (l.set k x) (k + 1) (p + 1) := by
 refine ⟨by rw [List.length_set, h.len], fun i hi => ?_, fun y => ?_⟩
 ·rw [List.getElem?_set_ne (show k ≠ i by omega)]
  exact h.back i (by omega)
 ·rw [← mem_take_next h2, ← h.mem, ← mem_take_next (l := l.set k x) (c := k) (z := x) (by rw [List.getElem?_set_self hk]), List.take_set_of_le (Nat.le_refl _)]

set_option maxRecDepth 100000 in
set_option maxHeartbeats 16000000 in
theorem compactE_any (w : World) (g m cap : Nat) (cur : Array Value) (es : List (Int × Int)) (hl : Loc w g 200 cur) (hc : CellsE cur es) (he : es.length = m) (hcap : m ≤ cap) (hsz : cur.size = cap * 2) (hm : m ≤ 1000) :
 Calls Tryz.prog 444 #[.slice (some ⟨g, 0, none⟩) m cap] w fun e w' => (∃ (k : Nat) (es' : List (Int × Int)) (cur' : Array Value), e = .returned (.slice (some ⟨g, 0, none⟩) k cap) ∧ k ≤ m ∧ Hid (Loc w' g 200 cur' ∧ cur'.size = cur.size ∧ CellsE cur' es' ∧ es'.length = k ∧ ∀ x, x ∈ es' ↔ x ∈ es)) ∧ w.grownBy w' (some g) := by
 have HL := Lib.hid hl
 have HC := Lib.hid hc
 have HE := Lib.hid he
 have HSZ := Lib.hid hsz
 have hgw : g < w.heap.size := hl.lt
 clear hl hc he hsz
 by_cases hm2 : m < 2
 ·refine (compact0_any _ m cap w hm2).mono ?_
  rintro e w' ⟨rfl, hb⟩
  exact ⟨⟨m, es, cur, rfl, Nat.le_refl _, HL.out.below hb, rfl, HC.out, HE.out, fun x => Iff.rfl⟩, ⟨hb.os, hb.tape, hb.output, hb.size, fun k hk _ => hb.block k hk⟩⟩
 have d1 : decide ((m : Int) < 2) = false := decide_eq_false (by omega)
 have d1' : decide (m < 2) = false := decide_eq_false hm2
 have hm2' : 2 ≤ m := by omega
 clear hm2
 go_enter Tryz.func444, Tryz.ntmps444
 go_wp2_with fail
 clear d1 d1'
 go_loopw [3] (fun kv wr => ∃ (c : Nat), 1 ≤ c ∧ c ≤ m ∧ kv = .int .i64 c ∧ Hid (Loc wr g 200 cur) ∧ Hid (w.grownBy wr (some g))) (fun kv _ => m - (intOf kv).toNat)
 case atStart => exact ⟨1, by omega, by omega, rfl, HL, Lib.hid ⟨rfl, rfl, rfl, Nat.le_refl _, fun _ _ _ => rfl⟩⟩
 case round =>
  obtain ⟨c, hc1, hc, rfl, hL, hG⟩ := hrel
  obtain ⟨wo, rfl⟩ : ∃ wo : World, wo = wr := ⟨_, rfl⟩
  by_cases hlt : c < m
  ·obtain ⟨⟨x1, x2⟩, hx⟩ : ∃ z, es[c]? = some z := ⟨_, List.getElem?_eq_getElem (by rw [HE.out]; exact hlt)⟩
   obtain ⟨p, hp⟩ : ∃ p, c = p + 1 := ⟨c - 1, by omega⟩
   obtain ⟨⟨y1, y2⟩, hy⟩ : ∃ z, es[p]? = some z := ⟨_, List.getElem?_eq_getElem (by rw [HE.out]; omega)⟩
   obtain ⟨q1, q2⟩ := HC.out c _ hx
   obtain ⟨q3, q4⟩ := HC.out p _ hy
   have HX := Lib.hid hx
   have HY := Lib.hid hy
   have HP := Lib.hid hp
   have HSS : Hid ((wo.cell? ⟨g, c * 2, none⟩ = some (.int .i64 x1) ∧ wo.cell? ⟨g, c * 2 + 1, none⟩ = some (.int .i64 x2)) ∧ wo.cell? ⟨g, p * 2, none⟩ = some (.int .i64 y1) ∧ wo.cell? ⟨g, p * 2 + 1, none⟩ = some (.int .i64 y2)) := ⟨⟨by rw [Loc.cell hL.out]; exact q1, by rw [Loc.cell hL.out]; exact q2⟩, by rw [Loc.cell hL.out]; exact q3, by rw [Loc.cell hL.out]; exact q4⟩
   have k0 : (0 : Int) ≤ (c : Int) := by omega
   have k1 : (c : Int) < (m : Int) := by omega
   have k2 : IntKind.i64.wrap ((c : Int) - 1) = (p : Int) := by rw [IntKind.wrap_i64]; omega
   have k3 : (0 : Int) ≤ (p : Int) := by omega
   have k4 : (p : Int) < (m : Int) := by omega
   clear hx hy hp q1 q2 q3 q4
   by_cases hxy : (x1, x2) = (y1, y2)
   case neg =>
    have dx := eqE_no hxy
    clear hxy
    go_wp2_with fail
    refine wp_region_noPanic ?_
    refine wp_region_held_drew (S := (fun W => (W.cell? ⟨g, c * 2, none⟩ = some (.int .i64 x1) ∧ W.cell? ⟨g, c * 2 + 1, none⟩ = some (.int .i64 x2)) ∧ W.cell? ⟨g, p * 2, none⟩ = some (.int .i64 y1) ∧ W.cell? ⟨g, p * 2 + 1, none⟩ = some (.int .i64 y2))) (by kernel_rfl) ?_ (fun hHeld => ?_)
    ·exact HSS.out
    refine takeT 0 hHeld ?_
    (try simp only [Act.put, ly])
    refine takeT 1 hHeld ?_
    (try simp only [Act.put, ly])
    refine takeT 2 hHeld ?_
    (try simp only [Act.put, ly])
    refine takeT 3 hHeld ?_
    (try simp only [Act.put, ly])
    refine takeT 4 hHeld ?_
    (try simp only [Act.put, ly])
    refine takeT 5 hHeld ?_
    (try simp only [Act.put, ly])
    refine takeT 6 hHeld ?_
    (try simp only [Act.put, ly])
    refine takeT 7 hHeld ?_
    (try simp only [Act.put, ly])
    refine takeT 8 hHeld ?_
    (try simp only [Act.put, ly])
    refine takeT 9 hHeld ?_
    (try simp only [Act.put, ly])
    refine wpAnyH_done (by kernel_rfl) ?_ _
    refine NoPanic.normal ?_
    go_wp2_with fail
    go_roundw
    case rel => exact ⟨c + 1, by omega, by omega, by go_num, by exact hL.out.drew, by exact grown_drew hG.out⟩
    case measure => simp only [intOf]; omega
   have HCP : Hid (Cpt es es c (c + 1)) := Cpt.start hc1 (x := (x1, x2)) (by rw [show c - 1 = p by have := HP.out; omega, hxy]; exact HY.out) HX.out
   have dx := eqE_yes hxy
   obtain ⟨d, hd⟩ : ∃ d, m - c = d := ⟨_, rfl⟩
   have HD := Lib.hid hd
   have kcap : ¬ c = cap := by omega
   have kcap' : ¬ cap = c := by omega
   have k5 : (c : Int) ≤ (m : Int) := by omega
   clear hxy
   go_wp2_with fail
   refine wp_region_noPanic ?_
   refine wp_region_held_drew (S := (fun W => (W.cell? ⟨g, c * 2, none⟩ = some (.int .i64 x1) ∧ W.cell? ⟨g, c * 2 + 1, none⟩ = some (.int .i64 x2)) ∧ W.cell? ⟨g, p * 2, none⟩ = some (.int .i64 y1) ∧ W.cell? ⟨g, p * 2 + 1, none⟩ = some (.int .i64 y2))) (by kernel_rfl) ?_ (fun hHeld => ?_)
   ·exact HSS.out
   refine takeT 0 hHeld ?_
   (try simp only [Act.put, ly])
   refine takeT 1 hHeld ?_
   (try simp only [Act.put, ly])
   refine takeT 2 hHeld ?_
   (try simp only [Act.put, ly])
   refine takeT 3 hHeld ?_
   (try simp only [Act.put, ly])
   refine takeT 4 hHeld ?_
   (try simp only [Act.put, ly])
   refine takeT 5 hHeld ?_
   (try simp only [Act.put, ly])
   refine takeT 6 hHeld ?_
   (try simp only [Act.put, ly])
   refine takeT 7 hHeld ?_
   (try simp only [Act.put, ly])
   refine takeT 8 hHeld ?_
   (try simp only [Act.put, ly])
   refine takeT 9 hHeld ?_
   (try simp only [Act.put, ly])
   refine wpAnyH_done (by kernel_rfl) ?_ _
   refine NoPanic.normal ?_
   go_wp2_with fail
   go_loopw [3, 5] (fun kv qv wr => ∃ (k q : Nat) (l : List (Int × Int)) (cu : Array Value), 1 ≤ q ∧ q ≤ d ∧ 1 ≤ k ∧ k < c + q ∧ kv = .int .i64 k ∧ qv = .int .i64 q ∧ Hid (Cpt es l k (c + q)) ∧ Hid (CellsE cu l) ∧ Hid (cu.size = cur.size) ∧ Hid (Loc wr g 200 cu) ∧ Hid (w.grownBy wr (some g))) (fun _ qv _ => d - (intOf qv).toNat)
   case atStart => exact ⟨c, 1, es, cur, by omega, by omega, by omega, by omega, rfl, rfl, HCP, HC, Lib.hid rfl, by exact hL.out.drew, by exact grown_drew hG.out⟩
   case round =>
    clear hL hG HSS
    obtain ⟨k, q, l, cu, hq1, hqd, hk1, hkq, rfl, rfl, hCP, hCE, hSZ, hL, hG⟩ := hrel
    obtain ⟨wz, rfl⟩ : ∃ wz : World, wz = wr := ⟨_, rfl⟩
    have hde := HD.out
    by_cases hlt2 : q < d
    ·obtain ⟨⟨u1, u2⟩, hu⟩ : ∃ z, es[c + q]? = some z := ⟨_, List.getElem?_eq_getElem (by rw [HE.out]; omega)⟩
     obtain ⟨r, hr⟩ : ∃ r, q = r + 1 := ⟨q - 1, by omega⟩
     obtain ⟨⟨v1, v2⟩, hv⟩ : ∃ z, es[c + r]? = some z := ⟨_, List.getElem?_eq_getElem (by rw [HE.out]; omega)⟩
     have hlu : l[c + q]? = some (u1, u2) := (hCP.out.back _ (by omega)).trans hu
     have hlv : l[c + r]? = some (v1, v2) := (hCP.out.back _ (by omega)).trans hv
     obtain ⟨q1, q2⟩ := hCE.out _ _ hlu
     obtain ⟨q3, q4⟩ := hCE.out _ _ hlv
     have hkl : k < l.length := by rw [hCP.out.len, HE.out]; omega
     obtain ⟨q5, q6⟩ := hCE.out k _ (List.getElem?_eq_getElem hkl)
     rw [show (c + q) * 2 = c * 2 + q * 2 by omega] at q1 q2
     rw [show (c + r) * 2 = c * 2 + r * 2 by omega] at q3 q4
     have HU := Lib.hid hu
     have HV := Lib.hid hv
     have HR := Lib.hid hr
     have HSS : Hid ((wz.cell? ⟨g, c * 2 + q * 2, none⟩ = some (.int .i64 u1) ∧ wz.cell? ⟨g, c * 2 + q * 2 + 1, none⟩ = some (.int .i64 u2)) ∧ wz.cell? ⟨g, c * 2 + r * 2, none⟩ = some (.int .i64 v1) ∧ wz.cell? ⟨g, c * 2 + r * 2 + 1, none⟩ = some (.int .i64 v2)) := ⟨⟨by rw [Loc.cell hL.out]; exact q1, by rw [Loc.cell hL.out]; exact q2⟩, by rw [Loc.cell hL.out]; exact q3, by rw [Loc.cell hL.out]; exact q4⟩
     have HKC : Hid (∃ a b, wz.cell? ⟨g, k * 2, none⟩ = some a ∧ wz.cell? ⟨g, k * 2 + 1, none⟩ = some b) := ⟨_, _, by rw [Loc.cell hL.out]; exact q5, by rw [Loc.cell hL.out]; exact q6⟩
     have k5 : (0 : Int) ≤ (q : Int) := by omega
     have k6 : (q : Int) < (d : Int) := by omega
     have k7 : IntKind.i64.wrap ((q : Int) - 1) = (r : Int) := by rw [IntKind.wrap_i64]; omega
     have k8 : (0 : Int) ≤ (r : Int) := by omega
     have k9 : (r : Int) < (d : Int) := by omega
     have k10 : (0 : Int) ≤ (k : Int) := by omega
     have k11 : (k : Int) < (m : Int) := by omega
     have d2 : decide ((q : Int) < (d : Int)) = true := decide_eq_true k6
     have d2' : decide (q < d) = true := decide_eq_true hlt2
     clear hu hr hv hlu hlv q1 q2 q3 q4 q5 q6
     by_cases huv : (u1, u2) = (v1, v2)
     ·have HSK : Hid (Cpt es l k (c + q + 1)) := hCP.out.skip (by omega) (x := (u1, u2)) (by rw [show c + q - 1 = c + r by have := HR.out; omega, huv]; exact HV.out) HU.out
      have du := eqE_yes huv
      clear huv
      go_wp2_with fail
      refine wp_region_noPanic ?_
      refine wp_region_held_drew (S := (fun W => (W.cell? ⟨g, c * 2 + q * 2, none⟩ = some (.int .i64 u1) ∧ W.cell? ⟨g, c * 2 + q * 2 + 1, none⟩ = some (.int .i64 u2)) ∧ W.cell? ⟨g, c * 2 + r * 2, none⟩ = some (.int .i64 v1) ∧ W.cell? ⟨g, c * 2 + r * 2 + 1, none⟩ = some (.int .i64 v2))) (by kernel_rfl) ?_ (fun hHeld => ?_)
      ·exact HSS.out
      refine takeT 0 hHeld ?_
      (try simp only [Act.put, ly])
      refine takeT 1 hHeld ?_
      (try simp only [Act.put, ly])
      refine takeT 2 hHeld ?_
      (try simp only [Act.put, ly])
      refine takeT 3 hHeld ?_
      (try simp only [Act.put, ly])
      refine takeT 4 hHeld ?_
      (try simp only [Act.put, ly])
      refine takeT 5 hHeld ?_
      (try simp only [Act.put, ly])
      refine takeT 6 hHeld ?_
      (try simp only [Act.put, ly])
      refine takeT 7 hHeld ?_
      (try simp only [Act.put, ly])
      refine takeT 8 hHeld ?_
      (try simp only [Act.put, ly])
      refine takeT 9 hHeld ?_
      (try simp only [Act.put, ly])
      refine wpAnyH_done (by kernel_rfl) ?_ _
      refine NoPanic.normal ?_
      go_wp2_with fail
      go_roundw
      case rel => exact ⟨k, q + 1, l, cu, by omega, by omega, by omega, by omega, rfl, by go_num, HSK, hCE, hSZ, by exact hL.out.drew, by exact grown_drew hG.out⟩
      case measure => simp only [intOf]; omega
     ·have HPT : Hid (Cpt es (l.set k (u1, u2)) (k + 1) (c + q + 1)) := hCP.out.put hkl HU.out
      have HCE2 : Hid (CellsE ((cu.setIfInBounds (k * 2) (.int .i64 u1)).setIfInBounds (k * 2 + 1) (.int .i64 u2)) (l.set k (u1, u2))) := hCE.out.set (x := (u1, u2)) hkl
      have du := eqE_no huv
      obtain ⟨z1, z2, hz1, hz2⟩ := HKC.out
      have gf := Loc.frz hL.out
      have gl := Loc.lt hL.out
      obtain ⟨g1, g2⟩ := HSS.out.1
      clear huv
      go_wp2_with fail
      refine wp_region_noPanic ?_
      refine wp_region_held_drew (S := (fun W => (W.cell? ⟨g, c * 2 + q * 2, none⟩ = some (.int .i64 u1) ∧ W.cell? ⟨g, c * 2 + q * 2 + 1, none⟩ = some (.int .i64 u2)) ∧ W.cell? ⟨g, c * 2 + r * 2, none⟩ = some (.int .i64 v1) ∧ W.cell? ⟨g, c * 2 + r * 2 + 1, none⟩ = some (.int .i64 v2))) (by kernel_rfl) ?_ (fun hHeld => ?_)
      ·exact HSS.out
      refine takeT 0 hHeld ?_
      (try simp only [Act.put, ly])
      refine takeT 1 hHeld ?_
      (try simp only [Act.put, ly])
      refine takeT 2 hHeld ?_
      (try simp only [Act.put, ly])
      refine takeT 3 hHeld ?_
      (try simp only [Act.put, ly])
      refine takeT 4 hHeld ?_
      (try simp only [Act.put, ly])
      refine takeT 5 hHeld ?_
      (try simp only [Act.put, ly])
      refine takeT 6 hHeld ?_
      (try simp only [Act.put, ly])
      refine takeT 7 hHeld ?_
      (try simp only [Act.put, ly])
      refine takeT 8 hHeld ?_
      (try simp only [Act.put, ly])
      refine takeT 9 hHeld ?_
      (try simp only [Act.put, ly])
      refine wpAnyH_done (by kernel_rfl) ?_ _
      refine NoPanic.normal ?_
      go_wp2_with fail
      go_roundw
      case rel => exact ⟨k + 1, q + 1, _, _, by omega, by omega, by omega, by omega, by go_num, by go_num, HPT, HCE2, Lib.hid (by rw [Array.size_setIfInBounds, Array.size_setIfInBounds]; exact hSZ.out), by exact ((hL.out.set (k * 2) _).set (k * 2 + 1) _).drew, by exact grown_drew (grown_set (grown_set hG.out _ _) _ _)⟩
      case measure => simp only [intOf]; omega
    ·obtain rfl : q = d := by omega
     have hkm : k < m := by omega
     have hcl : ∀ ty, (Builtin.clear_ #[107] ty #[.slice (some ⟨g, k * 2, none⟩) (m - k) (cap - k)]).run Tryz.prog wz = .ok (.tuple #[]) (wz.setCells g (k * 2) (List.replicate ((m - k) * 2) (.int .i64 0))) := fun ty =>
      clear_edge wz ty g (k * 2) (m - k) (cap - k) (by omega) (fun j hj => by
       rw [Loc.cell hL.out, Array.getElem?_eq_getElem (by rw [hSZ.out, HSZ.out]; omega)]; rfl) (fun j hj => Loc.frz hL.out _)
     obtain ⟨cu', hL', hs', hc'⟩ := loc_cells hL.out (k * 2) (List.replicate ((m - k) * 2) (.int .i64 0))
     have HL' := Lib.hid hL'
     have HG' : Hid (w.grownBy (wz.setCells g (k * 2) (List.replicate ((m - k) * 2) (.int .i64 0))) (some g)) := grown_cells g _ _ hG.out
     have HR : Hid (CellsE cu' (l.take k)) := fun i e he => by
      have hi : i < k := by have := (List.getElem?_eq_some_iff.1 he).1; rw [List.length_take] at this; omega
      rw [List.getElem?_take, if_pos hi] at he
      obtain ⟨q1, q2⟩ := hCE.out i e he
      exact ⟨by rw [hc' _ (by omega)]; exact q1, by rw [hc' _ (by omega)]; exact q2⟩
     have HKL : Hid ((l.take k).length = k) := by show _ = _; rw [List.length_take, hCP.out.len, HE.out]; omega
     have HMM : Hid (∀ x, x ∈ l.take k ↔ x ∈ es) := fun x => by
      rw [hCP.out.mem, List.take_of_length_le (by rw [HE.out]; omega)]
     have HS' : Hid (cu'.size = cur.size) := hs'.trans hSZ.out
     obtain ⟨W, hW⟩ : ∃ W, wz.setCells g (k * 2) (List.replicate ((m - k) * 2) (.int .i64 0)) = W := ⟨_, rfl⟩
     rw [hW] at hcl HL' HG'
     have k5 : (0 : Int) ≤ (k : Int) := by omega
     have k6 : (k : Int) ≤ (m : Int) := by omega
     have k7 : (k : Int) ≤ (cap : Int) := by omega
     have d2 : decide ((q : Int) < (q : Int)) = false := decide_eq_false (by omega)
     have d2' : decide (q < q) = false := decide_eq_false (by omega)
     have kc : ¬ k = cap := by omega
     have kc' : ¬ cap = k := by omega
     clear hL' hs' hc' hW
     go_wp2_with fail
     go_ret
     exact ⟨⟨k, l.take k, cu', rfl, by omega, Lib.hid ⟨HL'.out, HS'.out, HR.out, HKL.out, HMM.out⟩⟩, HG'.out⟩
  ·obtain rfl : c = m := by omega
   go_wp2_with fail
   go_ret
   exact ⟨⟨c, es, cur, rfl, Nat.le_refl _, Lib.hid ⟨hL.out, rfl, HC.out, HE.out, fun x => Iff.rfl⟩⟩, hG.out⟩
end Go.Proofs.YtbdcjhoedhhabaaGreat

