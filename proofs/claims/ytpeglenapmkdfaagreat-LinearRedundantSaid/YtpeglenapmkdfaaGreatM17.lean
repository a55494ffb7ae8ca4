/- Contracts of the functions that the statements reach, part 17. -/
import Derived.Test.YtpeglenapmkdfaaGreatRows
import Derived.Test.YtpeglenapmkdfaaGreatM14
import Derived.Test.YtpeglenapmkdfaaGreatM15
import Derived.Test.YtpeglenapmkdfaaGreatM16
set_option linter.unusedSimpArgs false
set_option linter.unusedVariables false

/- Arguments opened: a list of lists of fractions, a system, a problem, a result, an optimum, two bytes. -/
namespace Go.Proofs.YtpeglenapmkdfaaGreat
open Go.ChangeShapes Go.WideShapes Go.ChangeAt Go.RowKit Go.Joins

theorem okWide_array {P : Program} {w : World} {r : Reach} {base : Nat} {t : TypeId} {v : Value} {n : Nat} {e : TypeId} (ht : P.underlying t = some (.array n e)) (h : Value.okWide P w r base t v) : ∃ cs, v = .agg cs ∧ cs.size = P.cellsOf t := by
  simp only [Value.okWide, ht] at h
  obtain ⟨cs, h1, h2, _⟩ := h
  exact ⟨cs, h1, h2⟩
theorem cellsRats : Tryz.prog.cellsOf 23 = 1 := by kernel_rfl
theorem cellsMat : Tryz.prog.cellsOf 22 = 1 := by kernel_rfl
theorem cellsSys : Tryz.prog.cellsOf 25 = 2 := by kernel_rfl
theorem cellsPro : Tryz.prog.cellsOf 37 = 3 := by kernel_rfl

theorem cellsRes : Tryz.prog.cellsOf 32 = 3 := by kernel_rfl

theorem cellsOpt : Tryz.prog.cellsOf 51 = 8 := by kernel_rfl

theorem cellsNat : Tryz.prog.cellsOf 3 = 1 := by kernel_rfl

/-- A list of lists of raw fractions. -/
def RMat (w : World) (v : Value) (L : List (List RF)) : Prop :=
  ∃ A cap, v = .slice A L.length cap ∧ L.length ≤ cap ∧ cap ≤ maxLen ∧ (L.length ≠ 0 → ∃ a, A = some a ∧ a.block < w.heap.size ∧ ∀ i l, L[i]? = some l → ∃ B c, w.cell? (a.add i) = some (.slice B l.length c) ∧ Rats w (fun _ => False) (.slice B l.length c) l)

def qm (L : List (List RF)) : Nat → Nat → Rat := fun i => match L[i]? with
  | some l => qs l
  | none => fun _ => 0
def lens (L : List (List RF)) : Nat → Nat := fun i => match L[i]? with
  | some l => l.length
  | none => 0
theorem qm_get {L : List (List RF)} {i : Nat} {l : List RF} (h : L[i]? = some l) : qm L i = qs l := by unfold qm; rw [h]
theorem lens_get {L : List (List RF)} {i : Nat} {l : List RF} (h : L[i]? = some l) : lens L i = l.length := by unfold lens; rw [h]

section
variable {w w' : World} {v : Value} {L : List (List RF)}
theorem RMat.keep (h : RMat w v L) (hk : Keep (fun _ => False) w w') : RMat w' v L := by
  obtain ⟨A, cap, hv, h1, h2, h3⟩ := h
  refine ⟨A, cap, hv, h1, h2, fun hn => ?_⟩
  obtain ⟨a, ha, hb, hc⟩ := h3 hn
  refine ⟨a, ha, Nat.lt_of_lt_of_le hb hk.size, fun i l hl => ?_⟩
  obtain ⟨B, c, h4, h5⟩ := hc i l hl
  exact ⟨B, c, cell_keep h4 (by rw [addr_block]; exact hb) id hk, h5.keep hk⟩
theorem RMat.op (h : RMat w v L) : ∃ (A : Option Addr) (cap : Nat), v = .slice A L.length cap ∧ RMat w (.slice A L.length cap) L ∧ L.length ≤ cap ∧ cap ≤ maxLen := by
  have h0 := h
  obtain ⟨A, cap, rfl, h1, h2, -⟩ := h
  exact ⟨A, cap, rfl, h0, h1, h2⟩
theorem RMat.at {A : Option Addr} {n cap : Nat} (h : RMat w (.slice A n cap) L) {i : Nat} {l : List RF} (he : L[i]? = some l) : ∃ (a : Addr) (B : Option Addr) (c : Nat), A = some a ∧ a.block < w.heap.size ∧ w.cell? (a.add i) = some (.slice B l.length c) ∧ Rats w (fun _ => False) (.slice B l.length c) l ∧ l.length ≤ c ∧ c ≤ maxLen := by
  obtain ⟨A', cap', hv, h1, h2, h3⟩ := h
  injection hv with e1 e2 e3
  subst e1
  obtain ⟨a, ha, hb, hc⟩ := h3 (by have := (List.getElem?_eq_some_iff.1 he).1; omega)
  obtain ⟨B, c, h4, h5⟩ := hc i l he
  obtain ⟨A2, c2, h6, -, h7, h8⟩ := h5.op
  injection h6 with e1 e2 e3
  subst e1 e3
  exact ⟨a, B, c, ha, hb, h4, h5, h7, h8⟩
theorem RMat.mat (h : RMat w v L) (hf : ∀ (i : Nat) (l : List RF), L[i]? = some l → ∀ (j : Nat) (e : RF), l[j]? = some e → e.few) : Mat 2 w (fun _ => False) v L.length (lens L) (qm L) := by
  obtain ⟨A, cap, rfl, h1, h2, h3⟩ := h
  have key : ∀ i, i < L.length → ∃ u : Value, (∀ a, A = some a → w.cell? (a.add i) = some u) ∧ Nums 2 w (fun _ => False) u (lens L i) (qm L i) := fun i hi => by
    have he := List.getElem?_eq_getElem hi
    obtain ⟨a, ha, hb, hc⟩ := h3 (by omega)
    obtain ⟨B, c, h4, h5⟩ := hc i _ he
    refine ⟨.slice B L[i].length c, fun a' ha' => ?_, ?_⟩
    · rw [ha] at ha'; injection ha' with ha'; subst ha'
      exact h4
    · rw [lens_get he, qm_get he]
      exact h5.nums (hf i _ he)
  obtain ⟨us, hl, hp⟩ := list_of _ L.length key
  refine ⟨us, A, cap, hl, rfl, h1, h2, fun hn => ?_, fun i u hu => (hp i u hu).2⟩
  obtain ⟨a, ha, hb, -⟩ := h3 hn
  exact ⟨a, ha, hb, id, fun i u hu => (hp i u hu).1 a ha⟩
end

set_option maxRecDepth 100000 in
theorem open_RMat {H : Type} {enc : TypeId × Value → H} {W : World} {base : Nat} {fuel : Nat} {v : Value} {x : DataW H × List MemPlace}
    (h : DataW.trod enc Tryz.prog W base (fun _ => true) true fuel 22 [v] = some x) : ∃ L, RMat W v L := by
  rcases DataW.trod_slice Tryz.underlying22 h with ⟨hcs, _⟩ | ⟨a, len, cap, elems, rest, n, _, hcs, _, hb, hl, hm, hlen, hel, _⟩
  · simp at hcs
    subst hcs
    exact ⟨[], none, 0, rfl, Nat.le_refl _, Nat.zero_le _, fun h => absurd rfl h⟩
  · simp at hcs
    subst hcs
    have key : ∀ i, i < len → ∃ l, (∃ B c, W.cell? (a.add i) = some (.slice B l.length c) ∧ Rats W (fun _ => False) (.slice B l.length c) l) ∧ a.block < W.heap.size := fun i hi => by
      have hq := hel i hi
      rw [cellsRats, List.getElem?_eq_getElem (l := elems) (i := i) (by omega), Option.bind_eq_some_iff, Nat.mul_one] at hq
      obtain ⟨cs, hcs, ht⟩ := hq
      obtain ⟨_, hn, hc⟩ := World.cells?_some hcs
      match cs, hn with
      | [c0], _ =>
        obtain ⟨l, hr⟩ := open_Rats ht
        have hbl0 := World.cells?_block hcs (show 0 < 1 by decide)
        have hbl : a.block < W.heap.size := by rw [add_block] at hbl0; exact hbl0
        obtain ⟨B, c, e, hr2, -, -⟩ := hr.op
        have h0 := hc 0 (by decide)
        rw [addr_zero] at h0
        refine ⟨l, ⟨B, c, ?_, hr2⟩, hbl⟩
        rw [← e]; exact h0
    obtain ⟨L, hl', hp⟩ := list_of _ len (fun i hi => key i hi)
    subst hl'
    refine ⟨L, some a, cap, rfl, hl, hm, fun hz => ⟨a, rfl, ?_, fun i e he => (hp i e he).1⟩⟩
    obtain ⟨e, he⟩ := key 0 (by omega)
    exact he.2

set_option maxRecDepth 100000 in
theorem open_SysC {H : Type} {enc : TypeId × Value → H} {W : World} {base fuel : Nat} {c0 c1 : Value} {x : DataW H × List MemPlace}
    (h : DataW.trod enc Tryz.prog W base (fun _ => true) true fuel 25 [c0, c1] = some x) : ∃ L l, RMat W c0 L ∧ Rats W (fun _ => False) c1 l := by
  obtain ⟨xs, n, _, _, _, hlen, hg⟩ := DataW.trod_struct Tryz.underlying25 h
  match xs, hlen with
  | [y0, y1], _ =>
    have g0 : DataW.trod enc Tryz.prog W base (fun _ => true) true n 22 (([c0, c1].drop 0).take (Tryz.prog.cellsOf 22)) = [y0, y1][0]? := hg 0 _ rfl
    have g1 : DataW.trod enc Tryz.prog W base (fun _ => true) true n 23 (([c0, c1].drop 1).take (Tryz.prog.cellsOf 23)) = [y0, y1][1]? := hg 1 _ rfl
    rw [cellsMat] at g0
    rw [cellsRats] at g1
    have h0 : DataW.trod enc Tryz.prog W base (fun _ => true) true n 22 [c0] = some y0 := g0
    have h1 : DataW.trod enc Tryz.prog W base (fun _ => true) true n 23 [c1] = some y1 := g1
    obtain ⟨L, h2⟩ := open_RMat h0
    obtain ⟨l, h3⟩ := open_Rats h1
    exact ⟨L, l, h2, h3⟩
set_option maxRecDepth 100000 in
theorem open_System {H : Type} {enc : TypeId × Value → H} {W : World} {base : Nat} {r : Reach} {b0 : Nat} {v : Value} {d : DataW H} {p : List MemPlace}
    (hv : Value.okWide Tryz.prog W r b0 25 v) (h : DataW.Trod enc Tryz.prog W base (fun _ => true) true 25 v d p) : ∃ v0 v1 L l, v = .agg #[v0, v1] ∧ RMat W v0 L ∧ Rats W (fun _ => False) v1 l := by
  obtain ⟨cs, rfl, hsz⟩ := okWide_struct Tryz.underlying25 hv
  obtain ⟨l⟩ := cs
  match l, hsz.trans cellsSys with
  | [c0, c1], _ =>
    obtain ⟨fuel, hf⟩ := h
    obtain ⟨L, l, h2, h3⟩ := open_SysC hf
    exact ⟨c0, c1, L, l, rfl, h2, h3⟩
set_option maxRecDepth 100000 in
theorem open_Problem {H : Type} {enc : TypeId × Value → H} {W : World} {base : Nat} {r : Reach} {b0 : Nat} {v : Value} {d : DataW H} {p : List MemPlace}
    (hv : Value.okWide Tryz.prog W r b0 37 v) (h : DataW.Trod enc Tryz.prog W base (fun _ => true) true 37 v d p) : ∃ v0 v1 v2 L l lc, v = .agg #[v0, v1, v2] ∧ RMat W v0 L ∧ Rats W (fun _ => False) v1 l ∧ Rats W (fun _ => False) v2 lc := by
  obtain ⟨cs, rfl, hsz⟩ := okWide_struct Tryz.underlying37 hv
  obtain ⟨l⟩ := cs
  match l, hsz.trans cellsPro with
  | [c0, c1, c2], _ =>
    obtain ⟨fuel, hf⟩ := h
    obtain ⟨xs, n, _, _, _, hlen, hg⟩ := DataW.trod_struct Tryz.underlying37 hf
    match xs, hlen with
    | [y0, y1], _ =>
      have g0 : DataW.trod enc Tryz.prog W base (fun _ => true) true n 25 (([c0, c1, c2].drop 0).take (Tryz.prog.cellsOf 25)) = [y0, y1][0]? := hg 0 _ rfl
      have g1 : DataW.trod enc Tryz.prog W base (fun _ => true) true n 23 (([c0, c1, c2].drop 2).take (Tryz.prog.cellsOf 23)) = [y0, y1][1]? := hg 1 _ rfl
      rw [cellsSys] at g0
      rw [cellsRats] at g1
      have h0 : DataW.trod enc Tryz.prog W base (fun _ => true) true n 25 [c0, c1] = some y0 := g0
      have h1 : DataW.trod enc Tryz.prog W base (fun _ => true) true n 23 [c2] = some y1 := g1
      obtain ⟨L, l, h2, h3⟩ := open_SysC h0
      obtain ⟨lc, h4⟩ := open_Rats h1
      exact ⟨c0, c1, c2, L, l, lc, rfl, h2, h3, h4⟩

set_option maxRecDepth 100000 in
theorem open_Result {H : Type} {enc : TypeId × Value → H} {W : World} {base : Nat} {r : Reach} {b0 : Nat} {v : Value} {d : DataW H} {p : List MemPlace}
    (hv : Value.okWide Tryz.prog W r b0 32 v) (h : DataW.Trod enc Tryz.prog W base (fun _ => true) true 32 v d p) : ∃ b v1 v2 lx ly, v = .agg #[.bool b, v1, v2] ∧ Rats W (fun _ => False) v1 lx ∧ Rats W (fun _ => False) v2 ly := by
  obtain ⟨cs, rfl, hsz⟩ := okWide_struct Tryz.underlying32 hv
  obtain ⟨l⟩ := cs
  match l, hsz.trans cellsRes with
  | [c0, c1, c2], _ =>
    obtain ⟨fuel, hf⟩ := h
    obtain ⟨xs, n, _, _, _, hlen, hg⟩ := DataW.trod_struct Tryz.underlying32 hf
    match xs, hlen with
    | [y0, y1, y2], _ =>
      have g0 : DataW.trod enc Tryz.prog W base (fun _ => true) true n 4 (([c0, c1, c2].drop 0).take (Tryz.prog.cellsOf 4)) = [y0, y1, y2][0]? := hg 0 _ rfl
      have g1 : DataW.trod enc Tryz.prog W base (fun _ => true) true n 23 (([c0, c1, c2].drop 1).take (Tryz.prog.cellsOf 23)) = [y0, y1, y2][1]? := hg 1 _ rfl
      have g2 : DataW.trod enc Tryz.prog W base (fun _ => true) true n 23 (([c0, c1, c2].drop 2).take (Tryz.prog.cellsOf 23)) = [y0, y1, y2][2]? := hg 2 _ rfl
      rw [cellsBool] at g0
      rw [cellsRats] at g1 g2
      have h0 : DataW.trod enc Tryz.prog W base (fun _ => true) true n 4 [c0] = some y0 := g0
      have h1 : DataW.trod enc Tryz.prog W base (fun _ => true) true n 23 [c1] = some y1 := g1
      have h2 : DataW.trod enc Tryz.prog W base (fun _ => true) true n 23 [c2] = some y2 := g2
      obtain ⟨b, e, _⟩ := DataW.trod_bool Tryz.underlying4 h0
      simp at e
      subst e
      obtain ⟨lx, h3⟩ := open_Rats h1
      obtain ⟨ly, h4⟩ := open_Rats h2
      exact ⟨b, c1, c2, lx, ly, rfl, h3, h4⟩

set_option maxRecDepth 100000 in
theorem open_Optimum {H : Type} {enc : TypeId × Value → H} {W : World} {base : Nat} {r : Reach} {b0 : Nat} {v : Value} {d : DataW H} {p : List MemPlace}
    (hv : Value.okWide Tryz.prog W r b0 51 v) (h : DataW.Trod enc Tryz.prog W base (fun _ => true) true 51 v d p) :
    ∃ (kind : Int) (v1 v2 v3 : Value) (lx ly lr : List RF) (e : RF) (A : Option Addr) (c : Nat) (B : Option Addr) (d : Nat), v = .agg #[.int .i64 kind, v1, v2, v3, .bool e.n1, .slice A e.xs.length c, .bool e.n2, .slice B e.ys.length d] ∧ (Lit.int .i64 kind).wf = true ∧
      Rats W (fun _ => False) v1 lx ∧ Rats W (fun _ => False) v2 ly ∧ Rats W (fun _ => False) v3 lr ∧ RatR W (fun _ => False) (.agg #[.bool e.n1, .slice A e.xs.length c, .bool e.n2, .slice B e.ys.length d]) e.n1 e.xs e.n2 e.ys := by
  obtain ⟨cs, rfl, hsz⟩ := okWide_struct Tryz.underlying51 hv
  obtain ⟨l⟩ := cs
  match l, hsz.trans cellsOpt with
  | [c0, c1, c2, c3, c4, c5, c6, c7], _ =>
    obtain ⟨fuel, hf⟩ := h
    obtain ⟨xs, n, _, _, _, hlen, hg⟩ := DataW.trod_struct Tryz.underlying51 hf
    match xs, hlen with
    | [y0, y1, y2, y3, y4], _ =>
      have g0 : DataW.trod enc Tryz.prog W base (fun _ => true) true n 49 (([c0, c1, c2, c3, c4, c5, c6, c7].drop 0).take (Tryz.prog.cellsOf 49)) = [y0, y1, y2, y3, y4][0]? := hg 0 _ rfl
      have g1 : DataW.trod enc Tryz.prog W base (fun _ => true) true n 23 (([c0, c1, c2, c3, c4, c5, c6, c7].drop 1).take (Tryz.prog.cellsOf 23)) = [y0, y1, y2, y3, y4][1]? := hg 1 _ rfl
      have g2 : DataW.trod enc Tryz.prog W base (fun _ => true) true n 23 (([c0, c1, c2, c3, c4, c5, c6, c7].drop 2).take (Tryz.prog.cellsOf 23)) = [y0, y1, y2, y3, y4][2]? := hg 2 _ rfl
      have g3 : DataW.trod enc Tryz.prog W base (fun _ => true) true n 23 (([c0, c1, c2, c3, c4, c5, c6, c7].drop 3).take (Tryz.prog.cellsOf 23)) = [y0, y1, y2, y3, y4][3]? := hg 3 _ rfl
      have g4 : DataW.trod enc Tryz.prog W base (fun _ => true) true n 44 (([c0, c1, c2, c3, c4, c5, c6, c7].drop 4).take (Tryz.prog.cellsOf 44)) = [y0, y1, y2, y3, y4][4]? := hg 4 _ rfl
      rw [show Tryz.prog.cellsOf 49 = 1 by kernel_rfl] at g0
      rw [cellsRats] at g1 g2 g3
      rw [cellsRat] at g4
      have h0 : DataW.trod enc Tryz.prog W base (fun _ => true) true n 49 [c0] = some y0 := g0
      have h1 : DataW.trod enc Tryz.prog W base (fun _ => true) true n 23 [c1] = some y1 := g1
      have h2 : DataW.trod enc Tryz.prog W base (fun _ => true) true n 23 [c2] = some y2 := g2
      have h3 : DataW.trod enc Tryz.prog W base (fun _ => true) true n 23 [c3] = some y3 := g3
      have h4 : DataW.trod enc Tryz.prog W base (fun _ => true) true n 44 [c4, c5, c6, c7] = some y4 := g4
      obtain ⟨kind, e0, _, hw⟩ := DataW.trod_int Tryz.underlying49 h0
      simp at e0
      subst e0
      obtain ⟨lx, k1⟩ := open_Rats h1
      obtain ⟨ly, k2⟩ := open_Rats h2
      obtain ⟨lr, k3⟩ := open_Rats h3
      obtain ⟨e, A, c, B, d, rfl, rfl, rfl, rfl, k4⟩ := open_RatC h4
      exact ⟨kind, c1, c2, c3, lx, ly, lr, e, A, c, B, d, rfl, hw, k1, k2, k3, k4⟩
end Go.Proofs.YtpeglenapmkdfaaGreat

/- Sign, Neg, Floor of rational. -/
namespace Go.Proofs.YtpeglenapmkdfaaGreat
open Go.RowKit
attribute [local go_sem ↓] Go.wp_at_zero Go.wp_at_succ

theorem divInt_sign2 (n d : Int) : (Rat.divInt n d).num.sign = n.sign * d.sign := by
  rcases sign_cases d with ⟨h, e⟩ | ⟨h, e⟩ | ⟨h, e⟩
  · rw [e, ← Rat.neg_divInt_neg, divInt_sign _ _ (by omega), Int.sign_neg]; omega
  · rw [e, h, Rat.divInt_zero, Int.mul_zero]; rfl
  · rw [e, divInt_sign _ _ (by omega), Int.mul_one]

set_option maxHeartbeats 2000000 in
theorem sign_rat (w : World) (X : Nat → Prop) (k : Nat) (v : Value) (q : Rat) (h : RatL k w X v q) :
    Calls Tryz.prog 66 #[v] w fun e w' => e = .returned (.int .i64 q.num.sign) ∧ Below w.heap.size w w' := by
  obtain ⟨n1, A, m, c, n2, B, m', d, rfl, -, xs, ys, i1, i2, l1, l2, HE⟩ := h.op
  have hq : q.num.sign = (sv n1 xs).sign * (sv n2 ys).sign := by rw [← divInt_sign2, ← HE.out]; rfl
  obtain ⟨s1, hs1⟩ : ∃ s, (sv n1 xs).sign = s := ⟨_, rfl⟩
  obtain ⟨s2, hs2⟩ : ∃ s, (sv n2 ys).sign = s := ⟨_, rfl⟩
  rw [hs1, hs2] at hq
  have hP : -1 ≤ s1 * s2 ∧ s1 * s2 ≤ 1 := by
    rw [← hq]; rcases sign_cases q.num with ⟨_, h⟩ | ⟨_, h⟩ | ⟨_, h⟩ <;> omega
  have hw : IntKind.i64.wrap (s1 * s2) = s1 * s2 := by rw [IntKind.wrap_i64]; omega
  have HS1 := Lib.hid hs1
  have HS2 := Lib.hid hs2
  have HQ := Lib.hid hq
  clear hs1 hs2 hq h hP
  rw [HQ.out]
  go_enter Tryz.func66, Tryz.ntmps66
  go_wp2_with fail
  have L1 := made1 w #[.bool n1, .slice A m c, .bool n2, .slice B m' d] 44
  go_region_held3 (fun W => (W.cell? ⟨w.heap.size, 0, none⟩ = some (.bool n1) ∧ W.cell? ⟨w.heap.size, 1, none⟩ = some (.slice A m c)) ∧ W.cell? ⟨w.heap.size, 2, none⟩ = some (.bool n2) ∧ W.cell? ⟨w.heap.size, 3, none⟩ = some (.slice B m' d))
    (exact ⟨⟨Loc.c 0 L1, Loc.c 1 L1⟩, Loc.c 2 L1, Loc.c 3 L1⟩)
    (first
      | (go_at_call_of 96 (Value.agg #[Value.bool n1, Value.slice A m c]); refine (sign_any _ (fun _ => False) _ n1 xs i1.to).mono ?_; rintro e u1 ⟨he, hb1⟩; rw [HS1.out] at he; subst he; have y1 := hb1.size; (try simp only [World.size_alloc, size_set, size_drew, size_drewN] at y1))
      | (go_at_call_of 96 (Value.agg #[Value.bool n2, Value.slice B m' d]); refine (sign_any _ (fun _ => False) _ n2 ys i2.to).mono ?_; rintro e u2 ⟨he, hb2⟩; rw [HS2.out] at he; subst he; have y2 := hb2.size; (try simp only [World.size_alloc, size_set, size_drew, size_drewN] at y2)))
  all_goals
    go_wp2_with fail
    go_ret
    exact ⟨rfl, bel⟩

set_option maxHeartbeats 2000000 in
theorem neg_rat (w : World) (X : Nat → Prop) (v : Value) (q : Rat) (h : RatL 100000000 w X v q) :
    Calls Tryz.prog 59 #[v] w fun e w' => ∃ v', e = .returned v' ∧ RatV w' (Old w) v' (-q) ∧ Below w.heap.size w w' := by
  obtain ⟨n1, A, m, c, n2, B, m', d, rfl, h, xs, ys, -, -, l1, l2, HE⟩ := h.op
  have HR := Lib.hid (h.rsz (by omega))
  go_enter Tryz.func59, Tryz.ntmps59
  go_wp2_with fail
  refine (clean_rat _ (fun _ => False) _ q h.to).mono ?_
  rintro e w1 ⟨v1, rfl, h1, hb1⟩
  obtain ⟨b2, A2, m2, c2, b3, A3, m3, c3, rfl, h1, j1, j2⟩ := h1.op
  obtain ⟨z1, z2⟩ := sz2 hb1
  have L0 := made1 w #[.bool n1, .slice A m c, .bool n2, .slice B m' d] 44
  have L5 := made2 w (.cells #[.bool n1, .slice A m c, .bool n2, .slice B m' d] 44) #[.bool false, .slice none 0 0, .bool false, .slice none 0 0] 44
  obtain ⟨e4, g4, -⟩ := L0.all (w' := w1)
  go_wp2_with fail
  have L1 := Loc.fill4 (u := .bool b2) (v := .slice A2 m2 c2) (x := .bool b3) (y := .slice A3 m3 c3) (L0.to (w' := w1))
  go_region_held3 (fun W => (W.cell? ⟨w.heap.size, 0, none⟩ = some (.bool b2) ∧ W.cell? ⟨w.heap.size, 1, none⟩ = some (.slice A2 m2 c2)) ∧ W.cell? ⟨w.heap.size, 2, none⟩ = some (.bool b3) ∧ W.cell? ⟨w.heap.size, 3, none⟩ = some (.slice A3 m3 c3))
    (exact ⟨⟨Loc.c 0 L1, Loc.c 1 L1⟩, Loc.c 2 L1, Loc.c 3 L1⟩)
    ((go_at_call 92; refine (neg_any _ (fun _ => False) _ _ _ j1.to (Nat.le_trans HR.out.1 (by omega))).mono ?_; rintro e u1 ⟨v5, rfl, h5, hb5⟩; rw [sv_dig] at h5; obtain ⟨b5, A5, m5, k5, rfl, h5⟩ := h5.op; have y5 := hb5.size; (try simp only [World.size_alloc, size_set, size_drew, size_drewN] at y5); obtain ⟨e5, g5, -⟩ := L5.all (w' := u1)))
  all_goals
    go_wp2_with fail
    refine bodyPost_ret (by simp [results, Tryz.results59, go_sem, e5, g5] <;> rfl) rfl ⟨_, rfl, ?_, bel⟩
    refine RatV.of (q := -q) ?_ ?_
    · rw [Rat.neg_num]; exact h5.out
    · rw [Rat.neg_den]; exact j2.out
end Go.Proofs.YtpeglenapmkdfaaGreat

