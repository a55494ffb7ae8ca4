/- Contracts of the functions that the statements reach, part 27. -/
import Derived.Test.YtpeglenapmkdfaaGreatRows
import Derived.Deep.RegionHeld3
import Derived.Test.YtpeglenapmkdfaaGreatM23
set_option linter.unusedSimpArgs false
set_option linter.unusedVariables false

/- Three lists that each grow by one element, in whatever order their elements are laid. -/
namespace Go.Proofs.YtpeglenapmkdfaaGreat
open Go.RowKit

/-- w4: where the lists stood at first; W: the world at hand. -/
structure Trip (w4 W : World) (B : Nat) (vS0 vR0 vB0 vS vR vB : Value) (uS uR uB : List Value) : Prop where
  oS : Own1 W B 3 vS uS
  oR : Own1 W B 23 vR uR
  oB : Own1 W B 3 vB uB
  aS : ∀ g, vS.ownBlock = some g → vS0.ownBlock = some g ∨ w4.heap.size ≤ g
  aR : ∀ g, vR.ownBlock = some g → vR0.ownBlock = some g ∨ w4.heap.size ≤ g
  aB : ∀ g, vB.ownBlock = some g → vB0.ownBlock = some g ∨ w4.heap.size ≤ g
  dRS : ∀ g, vR.ownBlock = some g → vS.ownBlock ≠ some g
  dRB : ∀ g, vR.ownBlock = some g → vB.ownBlock ≠ some g
  dSB : ∀ g, vS.ownBlock = some g → vB.ownBlock ≠ some g
  lS : ∀ g, vS0.ownBlock = some g → g < w4.heap.size
  lR : ∀ g, vR0.ownBlock = some g → g < w4.heap.size
  lB : ∀ g, vB0.ownBlock = some g → g < w4.heap.size
  keep : Keep (fun b => vS0.ownBlock = some b ∨ vR0.ownBlock = some b ∨ vB0.ownBlock = some b) w4 W
  bl : Below B w4 W
  lo : B ≤ w4.heap.size

section
variable {w4 W W' : World} {B gp g cap n gb : Nat} {vS0 vR0 vB0 vS vR vB u : Value} {uS uR uB : List Value} {t : TypeId} {cs : Array Value}
theorem Trip.alloc (T : Trip w4 W B vS0 vR0 vB0 vS vR vB uS uR uB) (o : Obj) : Trip w4 (W.alloc o) B vS0 vR0 vB0 vS vR vB uS uR uB :=
  ⟨T.oS.below (below1 _ _), T.oR.below (below1 _ _), T.oB.below (below1 _ _), T.aS, T.aR, T.aB, T.dRS, T.dRB, T.dSB, T.lS, T.lR, T.lB, T.keep.alloc o, T.bl.alloc (Nat.le_trans T.lo T.keep.size) o, T.lo⟩
theorem Trip.pushS (T : Trip w4 W B vS0 vR0 vB0 vS vR vB uS uR uB) (h1 : Own1 W' B 3 (.slice (some ⟨g, 0, none⟩) n cap) (uS ++ [u])) (h2 : W.grownBy W' vS.ownBlock) (h3 : vS.ownBlock = some g ∨ g = W.heap.size) :
    Trip w4 W' B vS0 vR0 vB0 (.slice (some ⟨g, 0, none⟩) n cap) vR vB (uS ++ [u]) uR uB := by
  have hk : Keep (fun b => vS.ownBlock = some b) W W' := (Keep.refl _ W).grown h2 (fun g hg => .inl hg)
  have hs := T.keep.size
  refine ⟨h1, T.oR.keep hk (fun g hg => T.dRS g hg), T.oB.keep hk (fun g hg e => T.dSB g e hg), fun g' hg' => ?_, T.aR, T.aB, fun g' hg' e => ?_, T.dRB, fun g' hg' e => ?_, T.lS, T.lR, T.lB, T.keep.grown h2 (fun g hg => ?_), T.bl.grown h2 (Nat.le_trans T.lo hs) (fun g hg => (T.oS.lt hg).2), T.lo⟩
  · injection hg' with hg'; subst hg'
    rcases h3 with h3 | h3
    · exact T.aS _ h3
    · exact .inr (by show _ ≤ g; omega)
  · injection e with e; have e : g = g' := e; subst e
    rcases h3 with h3 | h3
    · exact T.dRS _ hg' h3
    · have := (T.oR.lt hg').1; omega
  · injection hg' with hg'; have hg' : g = g' := hg'; subst hg'
    rcases h3 with h3 | h3
    · exact T.dSB _ h3 e
    · have := (T.oB.lt e).1; omega
  · rcases T.aS g hg with h | h
    · exact .inl (.inl h)
    · exact .inr h
theorem Trip.pushR (T : Trip w4 W B vS0 vR0 vB0 vS vR vB uS uR uB) (h1 : Own1 W' B 23 (.slice (some ⟨g, 0, none⟩) n cap) (uR ++ [u])) (h2 : W.grownBy W' vR.ownBlock) (h3 : vR.ownBlock = some g ∨ g = W.heap.size) :
    Trip w4 W' B vS0 vR0 vB0 vS (.slice (some ⟨g, 0, none⟩) n cap) vB uS (uR ++ [u]) uB := by
  have hk : Keep (fun b => vR.ownBlock = some b) W W' := (Keep.refl _ W).grown h2 (fun g hg => .inl hg)
  have hs := T.keep.size
  refine ⟨T.oS.keep hk (fun g hg e => T.dRS g e hg), h1, T.oB.keep hk (fun g hg e => T.dRB g e hg), T.aS, fun g' hg' => ?_, T.aB, fun g' hg' e => ?_, fun g' hg' e => ?_, T.dSB, T.lS, T.lR, T.lB, T.keep.grown h2 (fun g hg => ?_), T.bl.grown h2 (Nat.le_trans T.lo hs) (fun g hg => (T.oR.lt hg).2), T.lo⟩
  · injection hg' with hg'; subst hg'
    rcases h3 with h3 | h3
    · exact T.aR _ h3
    · exact .inr (by show _ ≤ g; omega)
  · injection hg' with hg'; have hg' : g = g' := hg'; subst hg'
    rcases h3 with h3 | h3
    · exact T.dRS _ h3 e
    · have := (T.oS.lt e).1; omega
  · injection hg' with hg'; have hg' : g = g' := hg'; subst hg'
    rcases h3 with h3 | h3
    · exact T.dRB _ h3 e
    · have := (T.oB.lt e).1; omega
  · rcases T.aR g hg with h | h
    · exact .inl (.inr (.inl h))
    · exact .inr h
theorem Trip.pushB (T : Trip w4 W B vS0 vR0 vB0 vS vR vB uS uR uB) (h1 : Own1 W' B 3 (.slice (some ⟨g, 0, none⟩) n cap) (uB ++ [u])) (h2 : W.grownBy W' vB.ownBlock) (h3 : vB.ownBlock = some g ∨ g = W.heap.size) :
    Trip w4 W' B vS0 vR0 vB0 vS vR (.slice (some ⟨g, 0, none⟩) n cap) uS uR (uB ++ [u]) := by
  have hk : Keep (fun b => vB.ownBlock = some b) W W' := (Keep.refl _ W).grown h2 (fun g hg => .inl hg)
  have hs := T.keep.size
  refine ⟨T.oS.keep hk (fun g hg e => T.dSB g hg e), T.oR.keep hk (fun g hg e => T.dRB g hg e), h1, T.aS, T.aR, fun g' hg' => ?_, T.dRS, fun g' hg' e => ?_, fun g' hg' e => ?_, T.lS, T.lR, T.lB, T.keep.grown h2 (fun g hg => ?_), T.bl.grown h2 (Nat.le_trans T.lo hs) (fun g hg => (T.oB.lt hg).2), T.lo⟩
  · injection hg' with hg'; subst hg'
    rcases h3 with h3 | h3
    · exact T.aB _ h3
    · exact .inr (by show _ ≤ g; omega)
  · injection e with e; have e : g = g' := e; subst e
    rcases h3 with h3 | h3
    · exact T.dRB _ hg' h3
    · have := (T.oR.lt hg').1; omega
  · injection e with e; have e : g = g' := e; subst e
    rcases h3 with h3 | h3
    · exact T.dSB _ hg' h3
    · have := (T.oS.lt hg').1; omega
  · rcases T.aB g hg with h | h
    · exact .inl (.inr (.inr h))
    · exact .inr h
/-- A block that is new since w4 is not touched by a list's first growth. -/
theorem loc_grown {v0 : Value} (hl : ∀ g, v0.ownBlock = some g → g < w4.heap.size) (h2 : W.grownBy W' v0.ownBlock) (L : Loc W gb t cs) (hgb : w4.heap.size ≤ gb) : Loc W' gb t cs := by
  refine Loc.keep L ((Keep.refl (fun b => v0.ownBlock = some b) W).grown h2 (fun g hg => .inl hg)) (fun e => ?_)
  have := hl _ e
  omega
/-- A block that is no list's. -/
theorem Trip.box (T : Trip w4 W B vS0 vR0 vB0 vS vR vB uS uR uB) (L : Loc w4 gp t cs) (hS : vS0.ownBlock ≠ some gp) (hR : vR0.ownBlock ≠ some gp) (hB : vB0.ownBlock ≠ some gp) : Loc W gp t cs :=
  Loc.keep L T.keep (fun e : vS0.ownBlock = some gp ∨ vR0.ownBlock = some gp ∨ vB0.ownBlock = some gp => e.elim hS (fun e => e.elim hR hB))
end

theorem step_push1n {ops : Array Oper} {o : Oper} {a : Act} {K : Act → World → Prop} {Q : Exit → Act → World → Prop} {E : Prop} {t e : TypeId} {z : Value} {bytes : Nat} (w : World) (hgd : o.guard = none) (s x : Operand) (ho : o.op = .call { callee := .builtin .append, args := #[s, x], argTypes := #[t, t] })
    (ht : Tryz.prog.underlying t = some (.slice e)) (hE : (Tryz.prog.info? e).map (fun i => (i.zero, i.size, i.bytes)) = some (some z, 1, bytes)) (hzs : z.cells.size = 1) (hb : bytes ≤ 64)
    (base : Nat) (v : Value) (us : List Value) (n : Nat) (hlen : us.length = n) (hs : a.eval s = v) (hown : Own1 w base e v us) (H : Nat) (u : Value) (hx : a.eval x = .slice (some ⟨H, 0, none⟩) 1 1) (hH : Loc w H e #[u]) (hu : u.oneCell' = true)
    (hn : n ≤ 1000) (hbase : base ≤ w.heap.size)
    (h : ∀ g cap w', Own1 w' base e (.slice (some ⟨g, 0, none⟩) (n + 1) cap) (us ++ [u]) → w.grownBy w' v.ownBlock → (v.ownBlock = some g ∨ g = w.heap.size) → g < w'.heap.size → K (a.put o.dst (.slice (some ⟨g, 0, none⟩) (n + 1) cap)) w') :
    if Region.wanted o (yielded ops a.tmps) = true then Oper.wp Tryz.prog o a w K Q else E := by
  subst hlen
  exact step_push1 w hgd s x ho ht hE hzs hb base v us hs hown H u hx hH hu hn hbase h

section
variable {B m n c gp gc : Nat} {w w4 W : World} {F : Nat → Nat → Rat} {Bv : Nat → Rat} {vS vR vB : Value} {G K : Nat → Nat}
theorem Beg.trip (h : Beg B w m n c F Bv gp gc vS vR vB G K) (h4 : Keep (fun b => b = gc) w w4) (hB : B ≤ w4.heap.size) : Trip w4 w4 B vS vR vB vS vR vB (sgl Bv c) (rwl G (n + m + 1) c) (bsl n c) := by
  have hs := h4.size
  have hc := h.kc
  have kk : ∀ {a b : Nat}, K a ≠ K b → a ≠ b := fun h e => h (by rw [e])
  have hSc : ∀ g, vS.ownBlock = some g → g ≠ gc := fun g hg => kk (by rw [h.kS g hg, hc]; decide)
  have hRc : ∀ g, vR.ownBlock = some g → g ≠ gc := fun g hg => kk (by rw [h.kR g hg, hc]; decide)
  have hBc : ∀ g, vB.ownBlock = some g → g ≠ gc := fun g hg => kk (by rw [h.kB g hg, hc]; decide)
  refine ⟨h.oS.keep h4 hSc, h.oR.keep h4 hRc, h.oB.keep h4 hBc, fun g hg => .inl hg, fun g hg => .inl hg, fun g hg => .inl hg, fun g h1 h2 => ?_, fun g h1 h2 => ?_, fun g h1 h2 => ?_, fun g hg => ?_, fun g hg => ?_, fun g hg => ?_, Keep.refl _ _, Below.refl _ _, hB⟩
  · have := h.kR g h1; have := h.kS g h2; omega
  · have := h.kR g h1; have := h.kB g h2; omega
  · have := h.kS g h1; have := h.kB g h2; omega
  · have := (h.oS.lt hg).1; omega
  · have := (h.oR.lt hg).1; omega
  · have := (h.oB.lt hg).1; omega
/-- The tableau's own block is none of the lists'. -/
theorem Beg.apart (h : Beg B w m n c F Bv gp gc vS vR vB G K) : vS.ownBlock ≠ some gp ∧ vR.ownBlock ≠ some gp ∧ vB.ownBlock ≠ some gp :=
  ⟨fun e => by have := h.kS gp e; have := h.kp; omega, fun e => by have := h.kR gp e; have := h.kp; omega, fun e => by have := h.kB gp e; have := h.kp; omega⟩
/-- One row more. -/
theorem Beg.fin (h : Beg B w m n c F Bv gp gc vS vR vB G K) {gRow gS gR gB capS capR capB : Nat}
    (h4 : Keep (fun b => b = gc) w w4) (hB : B ≤ w.heap.size) (hg : w.heap.size ≤ gRow) (hg4 : gRow < w4.heap.size)
    (row : Rw w4 (fun b => b = gRow ∨ K b ≠ 0) gRow (n + m + 1) (t0 m n F Bv c)) (cost : Rc w4 (fun b => b = gRow ∨ K b ≠ 0) gc (n + m + 1) (c0 m n F Bv (c + 1)))
    (T : Trip w4 W B vS vR vB (.slice (some ⟨gS, 0, none⟩) (c + 1) capS) (.slice (some ⟨gR, 0, none⟩) (c + 1) capR) (.slice (some ⟨gB, 0, none⟩) (c + 1) capB)
      (sgl Bv c ++ [.int .i64 (sgn Bv c)]) (rwl G (n + m + 1) c ++ [.slice (some ⟨gRow, 0, none⟩) (n + m + 1) (n + m + 1)]) (bsl n c ++ [.int .i64 ((n + c : Nat) : Int)])) :
    Hid (∃ G' K', Beg B (((W.setCell ⟨gp, 2, none⟩ (.slice (some ⟨gR, 0, none⟩) (c + 1) capR)).setCell ⟨gp, 1, none⟩ (.slice (some ⟨gS, 0, none⟩) (c + 1) capS)).setCell ⟨gp, 4, none⟩ (.slice (some ⟨gB, 0, none⟩) (c + 1) capB)) m n (c + 1) F Bv gp gc (.slice (some ⟨gS, 0, none⟩) (c + 1) capS) (.slice (some ⟨gR, 0, none⟩) (c + 1) capR) (.slice (some ⟨gB, 0, none⟩) (c + 1) capB) G' K') ∧
    Below B w4 (((W.setCell ⟨gp, 2, none⟩ (.slice (some ⟨gR, 0, none⟩) (c + 1) capR)).setCell ⟨gp, 1, none⟩ (.slice (some ⟨gS, 0, none⟩) (c + 1) capS)).setCell ⟨gp, 4, none⟩ (.slice (some ⟨gB, 0, none⟩) (c + 1) capB)) := by
  have hgp := h.lt gp (by rw [h.kp]; decide)
  have hgc := h.lt gc (by rw [h.kc]; decide)
  have hpc : gp ≠ gc := fun e => by have h1 := h.kp; have h2 := h.kc; rw [e] at h1; omega
  obtain ⟨aS, aR, aB⟩ := h.apart
  have s4 := h4.size
  have sW := T.keep.size
  have hne : ∀ g, (vS.ownBlock = some g ∨ vR.ownBlock = some g ∨ vB.ownBlock = some g) ∨ w4.heap.size ≤ g → g ≠ gp := fun g hg e => by
    subst e
    rcases hg with (hg | hg | hg) | hg
    · exact aS hg
    · exact aR hg
    · exact aB hg
    · omega
  have nS : gS ≠ gp := hne _ ((T.aS gS rfl).imp (fun e => .inl e) id)
  have nR : gR ≠ gp := hne _ ((T.aR gR rfl).imp (fun e => .inr (.inl e)) id)
  have nB : gB ≠ gp := hne _ ((T.aB gB rfl).imp (fun e => .inr (.inr e)) id)
  have LB : Loc W gp _ _ := T.box (L := (h.box.keep h4 hpc)) aS aR aB
  obtain ⟨W5, hW5⟩ : ∃ W5, W5 = (((W.setCell ⟨gp, 2, none⟩ (.slice (some ⟨gR, 0, none⟩) (c + 1) capR)).setCell ⟨gp, 1, none⟩ (.slice (some ⟨gS, 0, none⟩) (c + 1) capS)).setCell ⟨gp, 4, none⟩ (.slice (some ⟨gB, 0, none⟩) (c + 1) capB)) := ⟨_, rfl⟩
  have kW : Keep (fun b => b = gp) W W5 := by
    rw [hW5]
    exact (((Keep.refl (fun b => b = gp) W).set (p := ⟨gp, 2, none⟩) (.inl rfl) _).set (p := ⟨gp, 1, none⟩) (.inl rfl) _).set (p := ⟨gp, 4, none⟩) (.inl rfl) _
  have LB5 : Loc W5 gp 92 #[.int .i64 n, .slice (some ⟨gS, 0, none⟩) (c + 1) capS, .slice (some ⟨gR, 0, none⟩) (c + 1) capR, .slice (some ⟨gc, 0, none⟩) (n + m + 1) (n + m + 1), .slice (some ⟨gB, 0, none⟩) (c + 1) capB] := by
    rw [hW5]
    have := ((LB.set 2 (.slice (some ⟨gR, 0, none⟩) (c + 1) capR)).set 1 (.slice (some ⟨gS, 0, none⟩) (c + 1) capS)).set 4 (.slice (some ⟨gB, 0, none⟩) (c + 1) capB)
    simpa using this
  have k45 : Keep (fun b => b = gp ∨ vS.ownBlock = some b ∨ vR.ownBlock = some b ∨ vB.ownBlock = some b) w4 W5 := (T.keep.weak (fun b _ hb => .inr hb)).trans (kW.weak (fun b _ hb => .inl hb))
  rw [← hW5]
  have s5 := kW.size
  have hown : ∀ {v : Value} {us : List Value} {e : TypeId} {g : Nat}, Own1 W B e v us → v.ownBlock = some g → g < W.heap.size ∧ B ≤ g := fun h hg => h.lt hg
  refine ⟨h.next h4 hB hg row cost k45 (T.aR gR rfl) (T.aS gS rfl) (T.aB gB rfl) (fun e => T.dRS gR rfl (by rw [e]; rfl)) (fun e => T.dRB gR rfl (by rw [e]; rfl)) (fun e => T.dSB gS rfl (by rw [e]; rfl))
    (by have := (hown T.oR (g := gR) rfl).1; omega) (by have := (hown T.oS (g := gS) rfl).1; omega) (by have := (hown T.oB (g := gB) rfl).1; omega) LB5
    (T.oS.keep kW (fun g hg e => nS (by injection hg with hg; exact hg.trans e))) (T.oR.keep kW (fun g hg e => nR (by injection hg with hg; exact hg.trans e))) (T.oB.keep kW (fun g hg e => nB (by injection hg with hg; exact hg.trans e))), ?_⟩
  rw [hW5]
  exact ((T.bl.setCell (p := ⟨gp, 2, none⟩) (by show B ≤ gp; omega) _).setCell (p := ⟨gp, 1, none⟩) (by show B ≤ gp; omega) _).setCell (p := ⟨gp, 4, none⟩) (by show B ≤ gp; omega) _
end
end Go.Proofs.YtpeglenapmkdfaaGreat

/- A drawn region whose last operations overwrite cells that it has loaded: the condition on the world is asked only as long as one operation (the first of those stores) has not come up. -/
namespace Go.Proofs.YtpeglenapmkdfaaGreat
open Go

section
variable {P : Program} {ops : Array Oper} {Q : Exit → Act → World → Prop} {md : Region.Mode} {S : World → Prop} {k : Nat}

/-- Whatever order is picked, and S holds behind every operation until number k has come up. -/
def wpAnyK (P : Program) (md : Region.Mode) (ops : Array Oper) (Q : Exit → Act → World → Prop) (S : World → Prop) (k : Nat) : Nat → Array Bool → Act → World → Prop
  | 0, listed, a, w => Region.ready md ops listed = [] ∧ Q .normal a w
  | fuel + 1, listed, a, w =>
    (Region.ready md ops listed = [] → Q .normal a w) ∧
    ∀ i ∈ Region.ready md ops listed, wpOp P ops Q i (fun a' w' => ((listed.setIfInBounds i true).getD k true = false → S w') ∧ wpAnyK P md ops Q S k fuel (listed.setIfInBounds i true) a' w') a w

theorem wpAny_of_K : ∀ (fuel : Nat) (listed : Array Bool) (a : Act) (w : World), wpAnyK P md ops Q S k fuel listed a w → wpAny P md ops Q fuel listed a w
  | 0, _, _, _, h => h
  | fuel + 1, _, _, _, h => ⟨h.1, fun i hi => wpOp_mono (fun a' w' h' => wpAny_of_K fuel _ a' w' h'.2) (h.2 i hi)⟩

/-- Operation k waits for operation i. -/
def waitsB (md : Region.Mode) (ops : Array Oper) (k i : Nat) : Bool :=
  match ops[k]? with
  | some o => o.after.any (fun e => Region.binds md e && e.on == i)
  | none => false

theorem waits_not_ready {i : Nat} {listed : Array Bool} (h : waitsB md ops k i = true) (hr : i ∈ Region.ready md ops listed) : k ∉ Region.ready md ops listed := fun hk => by
  obtain ⟨_, o, ho, hall⟩ := mem_ready.1 hk
  simp only [waitsB, ho, Array.any_eq_true, Bool.and_eq_true, beq_iff_eq] at h
  obtain ⟨n, hn, hb, he⟩ := h
  have h1 := hall _ (Array.getElem_mem hn) hb
  rw [he] at h1
  have h0 := (mem_ready.1 hr).1
  rcases Nat.lt_or_ge i listed.size with h' | h'
  · simp [h'] at h0 h1; rw [h0] at h1; cases h1
  · simp [Array.getElem?_eq_none h'] at h1

theorem wpAnyK_first {U : World → Prop} {i : Nat} {oi : Oper} {v : Value} (hi : ops[i]? = some oi) (hik : i ≠ k) (hsel : ∀ (j : Nat) (o : Oper) cs b, ops[j]? = some o → o.op ≠ .select cs b)
    (hQ : ∀ c a w, Q (.panic c) (a.put oi.dst v) w → Q (.panic c) a w) :
    ∀ (fuel : Nat) (listed : Array Bool) (a : Act) (w : World),
      (∀ j oj, ops[j]? = some oj → j ≠ i → listed.getD j true = false → (∀ e ∈ oj.after, Region.binds md e = true → e.on ≠ i) → oi.apart ops oj = true) →
      i ∈ Region.ready md ops listed → YieldsIf P ops U oi v a → (listed.getD k true = false → S w) → U w →
      ((∀ w, U w) ∨ (listed.getD k true = false ∧ waitsB md ops k i = true ∧ ∀ w, S w → U w)) →
      wpAnyK P md ops Q S k fuel (listed.setIfInBounds i true) (a.put oi.dst v) w → wpAnyK P md ops Q S k (fuel + 1) listed a w := by
  intro fuel
  induction fuel with
  | zero =>
    intro listed a w _ hr hy hS hU hk H
    refine ⟨fun h => (by rw [h] at hr; cases hr), fun j hj => ?_⟩
    by_cases hji : j = i
    · subst hji; exact hy.wpOp hi hU ⟨fun h => hS (by rw [getD_set_ne true hik] at h; exact h), H⟩
    · have := ready_mono hj hji
      rw [H.1] at this
      cases this
  | succ fuel ih =>
    intro listed a w hfree hr hy hS hU hk H
    refine ⟨fun h => (by rw [h] at hr; cases hr), fun j hj => ?_⟩
    by_cases hji : j = i
    · subst hji; exact hy.wpOp hi hU ⟨fun h => hS (by rw [getD_set_ne true hik] at h; exact h), H⟩
    · have h1 := H.2 j (ready_mono hj hji)
      obtain ⟨hjun, oj, hoj, hall⟩ := mem_ready.1 hj
      have hnot : ∀ e ∈ oj.after, Region.binds md e = true → e.on ≠ i := fun e he hb heq => by
        have h1 := hall e he hb
        have h0 := (mem_ready.1 hr).1
        rw [heq] at h1
        rcases Nat.lt_or_ge i listed.size with h' | h'
        · simp [h'] at h0 h1; rw [h0] at h1; cases h1
        · simp [Array.getElem?_eq_none h'] at h1
      have h2 := wpOp_putIf hoj (hfree j oj hoj hji hjun hnot) (fun cs b => hsel i oi cs b hi) (fun cs b => hsel j oj cs b hoj) hQ hy h1
      have hfree' : ∀ q oq, ops[q]? = some oq → q ≠ i → (listed.setIfInBounds j true).getD q true = false →
          (∀ e ∈ oq.after, Region.binds md e = true → e.on ≠ i) → oi.apart ops oq = true := fun q oq hq hqi hun hno => by
        refine hfree q oq hq hqi ?_ hno
        by_cases hjq : j = q
        · subst hjq; exact hjun
        · rw [getD_set_ne true hjq] at hun; exact hun
      have hsw : ((listed.setIfInBounds i true).setIfInBounds j true) = ((listed.setIfInBounds j true).setIfInBounds i true) := Array.setIfInBounds_comm _ _ (Ne.symm hji)
      refine wpOp_mono (fun a' w' h3 => ?_) h2
      have hS' : (listed.setIfInBounds j true).getD k true = false → S w' := fun h' => h3.2.1 (by rw [hsw, getD_set_ne true hik]; exact h')
      refine ⟨hS', ih (listed.setIfInBounds j true) a' w' hfree' (ready_mono hr (Ne.symm hji)) h3.1 hS' ?_ ?_ (by rw [← hsw]; exact h3.2.2)⟩
      · rcases hk with hk | ⟨hk1, hk2, hk3⟩
        · exact hk w'
        · exact hk3 w' (hS' (by rw [getD_set_ne (i := j) (j := k) true (fun e => waits_not_ready hk2 hr (e ▸ hj))]; exact hk1))
      · rcases hk with hk | ⟨hk1, hk2, hk3⟩
        · exact .inl hk
        · exact .inr ⟨by rw [getD_set_ne (i := j) (j := k) true (fun e => waits_not_ready hk2 hr (e ▸ hj))]; exact hk1, hk2, hk3⟩

/-- Take number i, which the world's cells in S decide, first. -/
theorem wpAnyK_take {i : Nat} {oi : Oper} {v : Value} {fuel : Nat} {listed : Array Bool} {a : Act} {w : World} (hi : ops[i]? = some oi) (hik : (i == k) = false)
    (hs : Region.noSelect ops = true) (hf : Region.free md ops listed i = true) (hr : (Region.ready md ops listed).contains i = true) (hk : listed.getD k true = false) (hw : waitsB md ops k i = true)
    (hQ : ∀ c a w, Q (.panic c) (a.put oi.dst v) w → Q (.panic c) a w) (hy : YieldsIf P ops S oi v a) (hS : S w)
    (h : wpAnyK P md ops Q S k fuel (listed.setIfInBounds i true) (a.put oi.dst v) w) : wpAnyK P md ops Q S k (fuel + 1) listed a w :=
  wpAnyK_first hi (by simpa using hik) (Region.noSelect_spec hs) hQ fuel listed a w (Region.free_spec hi hf) (by simpa using hr) hy (fun _ => hS) hS (.inr ⟨hk, hw, fun _ h => h⟩) h

/-- Take number i, which yields in every world, first. -/
theorem wpAnyK_pure {i : Nat} {oi : Oper} {v : Value} {fuel : Nat} {listed : Array Bool} {a : Act} {w : World} (hi : ops[i]? = some oi) (hik : (i == k) = false)
    (hs : Region.noSelect ops = true) (hf : Region.free md ops listed i = true) (hr : (Region.ready md ops listed).contains i = true)
    (hQ : ∀ c a w, Q (.panic c) (a.put oi.dst v) w → Q (.panic c) a w) (hy : YieldsIf P ops (fun _ => True) oi v a) (hS : listed.getD k true = false → S w)
    (h : wpAnyK P md ops Q S k fuel (listed.setIfInBounds i true) (a.put oi.dst v) w) : wpAnyK P md ops Q S k (fuel + 1) listed a w :=
  wpAnyK_first hi (by simpa using hik) (Region.noSelect_spec hs) hQ fuel listed a w (Region.free_spec hi hf) (by simpa using hr) hy hS trivial (.inl fun _ => trivial) h

theorem wpAnyK_done {listed : Array Bool} {a : Act} {w : World} (hr : Region.ready md ops listed = []) (h : Q .normal a w) :
    ∀ fuel, wpAnyK P md ops Q S k fuel listed a w
  | 0 => ⟨hr, h⟩
  | _ + 1 => ⟨fun _ => h, by rw [hr]; simp⟩

/-- Each of the operations rs comes up next. -/
def AllReadyK (P : Program) (md : Region.Mode) (ops : Array Oper) (Q : Exit → Act → World → Prop) (S : World → Prop) (k fuel : Nat) (listed : Array Bool) (a : Act) (w : World) (rs : List Nat) : Prop :=
  ∀ i ∈ rs, wpOp P ops Q i (fun a' w' => ((listed.setIfInBounds i true).getD k true = false → S w') ∧ wpAnyK P md ops Q S k fuel (listed.setIfInBounds i true) a' w') a w
theorem AllReadyK.nil {fuel : Nat} {listed : Array Bool} {a : Act} {w : World} : AllReadyK P md ops Q S k fuel listed a w [] := fun _ h => by cases h
/-- S is to be shown behind this one. -/
theorem AllReadyK.cons {fuel : Nat} {listed : Array Bool} {a : Act} {w : World} {i : Nat} {o : Oper} {rs : List Nat} (ho : ops[i]? = some o)
    (h : ∀ K' : Act → World → Prop, Shut (∀ a w, S w → (S w → wpAnyK P md ops Q S k fuel (listed.setIfInBounds i true) a w) → K' a w) → if Region.wanted o (yielded ops a.tmps) = true then Oper.wp P o a w K' Q else K' (a.put o.dst undef) w)
    (hs : AllReadyK P md ops Q S k fuel listed a w rs) : AllReadyK P md ops Q S k fuel listed a w (i :: rs) := fun j hj => by
  rcases List.mem_cons.1 hj with rfl | hj
  · exact wpOp_step ho (fun K' hK => h K' (fun a w hS hW => hK a w ⟨fun _ => hS, hW hS⟩))
  · exact hs j hj
/-- S is no more asked: k has come up, or comes up with this one. -/
theorem AllReadyK.last {fuel : Nat} {listed : Array Bool} {a : Act} {w : World} {i : Nat} {o : Oper} {rs : List Nat} (hk : (listed.setIfInBounds i true).getD k true = true) (ho : ops[i]? = some o)
    (h : ∀ K' : Act → World → Prop, Shut (∀ a w, wpAnyK P md ops Q S k fuel (listed.setIfInBounds i true) a w → K' a w) → if Region.wanted o (yielded ops a.tmps) = true then Oper.wp P o a w K' Q else K' (a.put o.dst undef) w)
    (hs : AllReadyK P md ops Q S k fuel listed a w rs) : AllReadyK P md ops Q S k fuel listed a w (i :: rs) := fun j hj => by
  rcases List.mem_cons.1 hj with rfl | hj
  · exact wpOp_step ho (fun K' hK => h K' (fun a w hW => hK a w ⟨fun h => (by rw [hk] at h; cases h), hW⟩))
  · exact hs j hj
theorem wpAnyK_ready {rs : List Nat} {fuel : Nat} {listed : Array Bool} {a : Act} {w : World} (hr : Region.ready md ops listed = rs) (hne : rs ≠ [])
    (h : AllReadyK P md ops Q S k fuel listed a w rs) : wpAnyK P md ops Q S k (fuel + 1) listed a w := ⟨fun h0 => absurd (hr ▸ h0) hne, hr ▸ h⟩
/-- The beginning: S is shown of the world behind the draw, once, and handed on. -/
theorem wp_region_heldK {id : Nat} {a : Act} {w : World} (hm : P.follows .mixedOrders = true) (hS : S w.drew)
    (h : S w.drew → wpAnyK P .any ops Q S k ops.size (Array.replicate ops.size false) a w.drew) : (Code.region id ops true).wp P Q a w :=
  wp_region_any hm (wpAny_of_K _ _ _ _ (h hS))
end
end Go.Proofs.YtpeglenapmkdfaaGreat

